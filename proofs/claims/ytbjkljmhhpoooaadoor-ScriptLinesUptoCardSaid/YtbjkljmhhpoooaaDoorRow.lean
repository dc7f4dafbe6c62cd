/- Entries and their bytes as the law holds them: each in blocks of its own. -/
import Derived.Test.YtbjkljmhhpoooaaDoorRefL
namespace Go.Proofs.YtbjkljmhhpoooaaDoor
open Go.RowKit
set_option linter.unusedVariables false
def aggE (E : Ent) (A : Option Addr) (c : Nat) : Array Value := #[.int .i64 E.kind, .int .i64 E.site, .int .i64 E.a, .int .i64 E.b, .int .i64 E.c, .int .u8 E.ch, .slice A E.by_.length c, .int .i64 E.err]
/-- a variable that holds an entry -/
def VarAt (w : World) (p : Nat) (E : Ent) (A : Option Addr) (c : Nat) : Prop := w.heap[p]? = some (.cells (aggE E A c) 25 (0, 0))
theorem VarAt.below {w w' : World} {p : Nat} {E : Ent} {A : Option Addr} {c : Nat} (h : VarAt w p E A c) (hb : Below w.heap.size w w') : VarAt w' p E A c :=
  (hb.block _ (Array.getElem?_eq_some_iff.1 h).1).trans h
theorem aggE_one (E : Ent) (A : Option Addr) (c : Nat) : (aggE E A c).toList.all (·.oneCell') = true := rfl
def E1 : Ent := ⟨10, 0, 3, 0, 255, 0, [], 0⟩
def E2 : Ent := ⟨13, 1, 0, 0, 0, 0, [255, 238], 0⟩
section
variable (w0 : World) (m : Int) (V o cap : Nat) (F : Nat → Option Addr) (C : Nat → Nat) (hm : w0.cell? ⟨4, 0, none⟩ = some (.int .i64 m)) (hv : VerbsAt V o cap F C w0)
include hm hv
theorem line_any (s : ByteArray) (w : World) (hs : s.size ≤ 1048576) (hb : Below w0.heap.size w0 w) : Calls Tryd.prog 9 #[.string s] w fun e w' => EntOut w (lineS (wordsB s)) e w' :=
  (line_calls s w m V o cap F C (by omega) (by rw [hb.cell (World.block_lt_of_cell? w0 _ hm)]; exact hm) (hv.below hb)).mono fun _ _ h => h.out
theorem line_one (w : World) (hb : Below w0.heap.size w0 w) : Calls Tryd.prog 9 #[.string ⟨#[99, 114, 97, 115, 104, 32, 51, 32, 48, 32, 50, 53, 53]⟩] w fun e w' => EntOut w E1 e w' := by
  have := line_any w0 m V o cap F C hm hv ⟨#[99, 114, 97, 115, 104, 32, 51, 32, 48, 32, 50, 53, 53]⟩ w (by decide) hb
  rw [lit1] at this
  exact this
theorem line_two (w : World) (hb : Below w0.heap.size w0 w) : Calls Tryd.prog 9 #[.string ⟨#[102, 111, 114, 103, 101, 32, 49, 32, 102, 102, 101, 101]⟩] w fun e w' => EntOut w E2 e w' := by
  have := line_any w0 m V o cap F C hm hv ⟨#[102, 111, 114, 103, 101, 32, 49, 32, 102, 102, 101, 101]⟩ w (by decide) hb
  rw [lit2] at this
  exact this
end
theorem nil_in (w : World) : BytesIn w none 0 0 [] := ⟨rfl, Nat.le_refl _, fun h => absurd h (by decide)⟩

theorem after_var {w1 W : World} {E : Ent} {A : Option Addr} {c : Nat} (h : w1.alloc (.cells (aggE E A c) 25) = W) : VarAt W w1.heap.size E A c ∧ Below w1.heap.size w1 W := by
  subst h
  exact ⟨alloc_at rfl, (Below.refl _ _).alloc (Nat.le_refl _) _⟩
/-- A variable that holds an entry, and the entry's bytes: all in the blocks lo to hi. -/
structure Row (W : World) (lo hi p : Nat) (E : Ent) (A : Option Addr) (c : Nat) (bs : List Nat) : Prop where
  low : lo ≤ p
  high : p < hi
  size : hi ≤ W.heap.size
  var : VarAt W p E A c
  own : W.ownsRow lo 5 1 (.slice A E.by_.length c) E.by_.length (u8s bs)
  blk : ∀ k, (Value.slice A E.by_.length c).ownBlock = some k → k < p
theorem row_new {w1 w2 W : World} {E : Ent} {A : Option Addr} {c : Nat} (ho : w2.ownsRow w1.heap.size 5 1 (.slice A E.by_.length c) E.by_.length (u8s E.by_)) (hb : Below w1.heap.size w1 w2) (h : w2.alloc (.cells (aggE E A c) 25) = W) :
    Row W w1.heap.size W.heap.size w2.heap.size E A c E.by_ ∧ Below w2.heap.size w2 W := by
  obtain ⟨h1, h2⟩ := after_var h
  have hs : W.heap.size = w2.heap.size + 1 := by rw [← h]; simp
  exact ⟨⟨hb.size, by omega, Nat.le_refl _, h1, own_below ho h2, fun k hk => by
    obtain ⟨_, hr | ⟨g, cap, cur, e, hg, hh, _⟩⟩ := ho
    · rw [hr.1] at hk; simp [Value.ownBlock] at hk
    · rw [e] at hk; simp [Value.ownBlock] at hk; have := (Array.getElem?_eq_some_iff.1 hh).1; omega⟩, h2⟩
theorem Row.keep {W W' : World} {lo hi p : Nat} {E : Ent} {A : Option Addr} {c : Nat} {bs : List Nat} (h : Row W lo hi p E A c bs) (hk : ∀ k, lo ≤ k → k < hi → W'.heap[k]? = W.heap[k]?) (hs : W.heap.size ≤ W'.heap.size) : Row W' lo hi p E A c bs := by
  refine ⟨h.low, h.high, Nat.le_trans h.size hs, (hk p h.low h.high).trans h.var, ?_, h.blk⟩
  obtain ⟨h1, h2⟩ := h.own
  refine ⟨h1, ?_⟩
  rcases h2 with h2 | ⟨g, cap, cur, e, hg, hh, hr⟩
  · exact .inl h2
  · have hgp : g < p := h.blk g (by rw [e]; rfl)
    have := h.high
    exact .inr ⟨g, cap, cur, e, hg, (hk g hg (by omega)).trans hh, hr⟩
theorem Row.below {W W' : World} {lo hi p : Nat} {E : Ent} {A : Option Addr} {c : Nat} {bs : List Nat} (h : Row W lo hi p E A c bs) (hb : Below W.heap.size W W') : Row W' lo hi p E A c bs :=
  h.keep (fun k _ hk => hb.block k (Nat.lt_of_lt_of_le hk h.size)) hb.size
theorem Row.bytes {W : World} {lo hi p : Nat} {E : Ent} {A : Option Addr} {c : Nat} {bs : List Nat} (h : Row W lo hi p E A c bs) : BytesIn W A E.by_.length c bs := own_in h.own
/-- one byte written -/
theorem Row.set {W : World} {lo hi p : Nat} {E : Ent} {g c : Nat} {bs : List Nat} (h : Row W lo hi p E (some ⟨g, 0, none⟩) c bs) (i v : Nat) : Row (W.setCell ⟨g, i, none⟩ (.int .u8 (v : Int))) lo hi p E (some ⟨g, 0, none⟩) c (bs.set i v) := by
  have hgp : g < p := h.blk g rfl
  refine ⟨h.low, h.high, by simpa using h.size, ?_, ?_, h.blk⟩
  · exact (heap_set_other (by omega)).trans h.var
  · obtain ⟨h1, h2⟩ := h.own
    refine ⟨by simpa [u8s] using h1, ?_⟩
    rcases h2 with h2 | ⟨g', cap, cur, e, hg, hh, hc, hm, hs, ht⟩
    · exact .inl h2
    · injection e with e1 e2 e3
      injection e1 with e1
      injection e1 with e1 _ _
      subst e1 e3
      refine .inr ⟨g, c, cur.setIfInBounds i (.int .u8 (v : Int)), rfl, hg, heap_set_same hh, hc, hm, by simpa using hs, ?_⟩
      rw [Array.toList_setIfInBounds, List.take_set, ht]
      simp [u8s, List.map_set]
theorem row_some {W : World} {lo hi p : Nat} {E : Ent} {A : Option Addr} {c : Nat} {bs : List Nat} (h : Row W lo hi p E A c bs) (h0 : 0 < E.by_.length) : ∃ g, A = some ⟨g, 0, none⟩ ∧ lo ≤ g ∧ g < p := by
  obtain ⟨_, h2⟩ := h.own
  rcases h2 with h2 | ⟨g', cap, cur, e, hg, _⟩
  · omega
  · injection e with e1 e2 e3
    exact ⟨g', e1, hg, h.blk g' (by rw [e1]; rfl)⟩
theorem word_short (f : Nat) (l : List UInt8) (e e' : EnSt) (n : Nat) (hl : l.length ≤ n) (he : e.by_.length ≤ n) (hs : enStep f l e = .inr e') : e'.by_.length ≤ n := by
  unfold enStep at hs
  split at hs
  · split at hs
    · injection hs with hs; rw [← hs]; exact he
    · cases hs
  · split at hs
    · split at hs
      · cases hs
      · rename_i b hb
        injection hs with hs
        rw [← hs]
        simp only []
        unfold hexS at hb
        split at hb
        · injection hb with hb; rw [← hb]; simp
        · split at hb
          · cases hb
          · split at hb
            · injection hb with hb
              rw [← hb, hexP_length]; omega
            · cases hb
    · split at hs
      · cases hs
      · injection hs with hs
        rw [← hs]
        unfold enPut
        split
        · exact he
        · split
          · exact he
          · split <;> exact he
theorem run_short (n : Nat) : ∀ (fs : List Nat) (ls : List (List UInt8)) (e e' : EnSt), (∀ l, l ∈ ls → l.length ≤ n) → e.by_.length ≤ n → enRun fs ls e = .inr e' → e'.by_.length ≤ n
  | [], ls, e, e', _, he, h => by simp [enRun] at h; rw [← h]; exact he
  | f :: fs, [], e, e', _, he, h => by simp [enRun] at h; rw [← h]; exact he
  | f :: fs, l :: ls, e, e', hl, he, h => by
    simp only [enRun] at h
    cases hs : enStep f l e with
    | inl x => rw [hs] at h; cases h
    | inr e2 =>
      rw [hs] at h
      exact run_short n fs ls e2 e' (fun l hm => hl l (List.mem_cons_of_mem _ hm)) (word_short f l e e2 n (hl l List.mem_cons_self) he hs) h
theorem lens (s : ByteArray) (hs : s.size ≤ 1048576) : (lineS (wordsB s)).by_.length ≤ 1048576 := by
  unfold lineS
  split
  · unfold entryS
    split
    · simp [entBad]
    · split
      · simp [entBad]
      · rename_i e he
        split
        · simp [entBad]
        · refine run_short 1048576 _ _ st0 e (fun l hl => ?_) (by simp [st0]) he
          obtain ⟨x, hx, rfl⟩ := List.mem_map.1 hl
          have hx := List.mem_of_mem_drop hx
          obtain ⟨j, hj, rfl⟩ := List.mem_iff_getElem.1 hx
          have := wordsB_sizes s j
          rw [List.getD_eq_getElem?_getD, List.getElem?_eq_getElem hj] at this
          simp at this ⊢
          omega
  · simp [entBad]

/-- Nothing but the blocks lo to hi has changed. -/
structure Only (lo hi : Nat) (w w' : World) : Prop where
  os : w'.os = w.os
  tape : w'.tape = w.tape
  output : w'.output = w.output
  size : w'.heap.size = w.heap.size
  other : ∀ k, (k < lo ∨ hi ≤ k) → w'.heap[k]? = w.heap[k]?
theorem Only.refl (lo hi : Nat) (w : World) : Only lo hi w w := ⟨rfl, rfl, rfl, rfl, fun _ _ => rfl⟩
theorem Only.set {lo hi : Nat} {w w' : World} (h : Only lo hi w w') {b i : Nat} (h1 : lo ≤ b) (h2 : b < hi) (v : Value) : Only lo hi w (w'.setCell ⟨b, i, none⟩ v) :=
  ⟨h.os, h.tape, h.output, by rw [← h.size]; simp, fun k hk => (heap_set_other (by omega)).trans (h.other k hk)⟩
theorem Only.below {lo hi B : Nat} {w w' : World} (h : Only lo hi w w') (hB : B ≤ lo) : Below B w w' := ⟨h.os, h.tape, h.output, Nat.le_of_eq h.size.symm, fun k hk => h.other k (Or.inl (by omega))⟩
theorem Row.only {W W' : World} {lo hi p lo' hi' : Nat} {E : Ent} {A : Option Addr} {c : Nat} {bs : List Nat} (h : Row W lo hi p E A c bs) (ho : Only lo' hi' W W') (ha : hi ≤ lo' ∨ hi' ≤ lo) : Row W' lo hi p E A c bs :=
  h.keep (fun k h1 h2 => ho.other k (by omega)) (Nat.le_of_eq ho.size.symm)
theorem Row.cell {W : World} {lo hi p : Nat} {E : Ent} {g c : Nat} {bs : List Nat} (h : Row W lo hi p E (some ⟨g, 0, none⟩) c bs) (i : Nat) (hi' : i < E.by_.length) : W.cell? ⟨g, i, none⟩ = some (.int .u8 ((bs.getD i 0 : Nat) : Int)) ∧ W.frozen? ⟨g, i, none⟩ = false := by
  obtain ⟨hn, hc, hr⟩ := h.bytes
  obtain ⟨b, o, e, hb, hcell⟩ := hr (by omega)
  injection e with e
  injection e with e1 e2
  subst e1 e2
  have h2 := hcell i hi'
  rw [Nat.zero_add] at h2
  refine ⟨h2, ?_⟩
  obtain ⟨_, h3 | ⟨g', cap, cur, e, hg, hh, _⟩⟩ := h.own
  · have := h3.2; omega
  · injection e with e1 e2 e3
    injection e1 with e1
    injection e1 with e1 _ _
    subst e1
    exact frozen_of_heap hh
def mix (v i : Nat) (bs : List Nat) : List Nat := List.replicate i v ++ bs.drop i
theorem mix_zero (v : Nat) (bs : List Nat) : mix v 0 bs = bs := by simp [mix]
theorem mix_step (v i : Nat) (bs : List Nat) (h : i < bs.length) : (mix v i bs).set i v = mix v (i + 1) bs := by
  unfold mix
  rw [List.set_append, if_neg (by simp)]
  simp only [List.length_replicate, Nat.sub_self]
  rw [List.drop_eq_getElem_cons h, List.set_cons_zero, List.replicate_succ', List.append_assoc]
  rfl
theorem mix_end (v : Nat) (bs : List Nat) : mix v bs.length bs = List.replicate bs.length v := by simp [mix]
end Go.Proofs.YtbjkljmhhpoooaaDoor
