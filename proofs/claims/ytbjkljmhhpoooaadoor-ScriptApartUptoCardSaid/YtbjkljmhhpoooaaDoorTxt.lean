/- A TEXT THAT GROWS (it began as []byte(s): its row bears a mark behind its end) AND, BESIDE IT, A LIST OF ENTRIES THAT GROWS. -/
import Derived.Test.YtbjkljmhhpoooaaDoorFixD
import Derived.ArgAppend

/- jotterlaw15.plainLine: a text without its line ends. -/
namespace Go.Proofs.YtbjkljmhhpoooaaDoor
open Go.RowKit
set_option linter.unusedVariables false

def fl (l : List UInt8) : List UInt8 := l.filter (· != 10)
theorem fl_take {l : List UInt8} {i : Nat} (h : i < l.length) : fl (l.take (i + 1)) = fl (l.take i) ++ (if l[i] != 10 then [l[i]] else []) := by
  unfold fl
  rw [List.take_succ_eq_append_getElem h, List.filter_append]
  congr 1
  simp [List.filter_cons]
theorem fl_len (l : List UInt8) : (fl l).length ≤ l.length := List.length_filter_le _ _

/-- string(b) of a row of its own -/
theorem conv_own {w : World} {base : Nat} {v : Value} {l : List UInt8} (h : w.ownsRow base 5 1 v l.length (Lib.byteCells l)) : (convert 22 9 v).run Tryd.prog w = .ok (.string (ofL l)) w := by
  rcases h.2 with ⟨rfl, h0⟩ | ⟨g, cap, cur, rfl, hg, hh, hc, hm, hs, ht⟩
  · obtain rfl := List.eq_nil_of_length_eq_zero h0
    exact run_convert_bytes_nil (P := Tryd.prog) (w := w) 22 5 Tryd.underlying22 Tryd.underlying5 0 0 _ Tryd.underlying9
  · refine run_convert_bytes_back (P := Tryd.prog) w 22 9 5 ⟨g, 0, none⟩ cap l Tryd.underlying22 Tryd.underlying5 Tryd.underlying9 fun j hj => ?_
    rw [Addr.add_mid, Nat.zero_add]
    refine cell_of_heap hh ?_
    have h5 : (Lib.byteCells l)[j]? = some (.int .u8 (l[j].toNat : Int)) := by simp [Lib.byteCells, hj]
    rw [← ht, List.getElem?_take_of_lt (by omega)] at h5
    rw [← Array.getElem?_toList]
    exact h5

set_option maxRecDepth 100000 in
set_option maxHeartbeats 1000000 in
theorem plain_calls (s : ByteArray) (hs : s.size ≤ 1048576) (w : World) :
    Calls Tryd.prog 18 #[.string s] w fun e w' => e = .returned (.string (ofL (fl s.data.toList))) ∧ Below w.heap.size w w' := by
  go_enter Tryd.func18, Tryd.ntmps18
  have hsz : s.data.toList.length = s.size := by simp
  have HSZ := Lib.hid hsz
  clear hsz
  go_wp2_with fail
  go_loopw [3, 4] (fun v vi wr => ∃ i : Nat, i ≤ s.size ∧ vi = .int .i64 (i : Int) ∧ wr.ownsRow w.heap.size 5 1 v (fl (s.data.toList.take i)).length (Lib.byteCells (fl (s.data.toList.take i))) ∧ Below w.heap.size w wr) (fun _ vi _ => s.size - (intOf vi).toNat)
  case atStart => exact ⟨0, Nat.zero_le _, rfl, own_nil0 _ _ _ _, Below.refl _ _⟩
  case round =>
    obtain ⟨i, hi, rfl, hown, hb⟩ := hrel
    have HO := Lib.hid hown
    have HB := Lib.hid hb
    clear hown hb
    by_cases hlt : i < s.size
    · have hlt' : (i : Int) < (s.size : Int) := by omega
      have hx : s.data[i]? = some s[i] := by
        rw [Array.getElem?_eq_getElem (by exact hlt)]; rfl
      have hx2 : s.data.toList[i]'(by simp; omega) = s[i] := by simp [ByteArray.getElem_eq_getElem_data]
      have hi64 : IntKind.i64.wrap ((i : Int) + 1) = (i : Int) + 1 := IntWalk.i64_in _ (by omega)
      have hnx := fl_take (l := s.data.toList) (i := i) (by rw [HSZ.out]; exact hlt)
      rw [hx2] at hnx
      by_cases h10 : s[i] = 10
      · rw [h10] at hnx
        have hnx2 : fl (s.data.toList.take (i + 1)) = fl (s.data.toList.take i) := by rw [hnx]; simp
        have HNX := Lib.hid hnx2
        clear hnx hnx2 hx2
        go_wp2_with fail
        exact ⟨⟨i + 1, by omega, by push_cast; rfl, by rw [HNX.out]; exact HO.out, HB.out⟩, by simp [intOf]; omega⟩
      · have hnx2 : fl (s.data.toList.take (i + 1)) = fl (s.data.toList.take i) ++ [s[i]] := by rw [hnx, if_pos (by simpa using h10)]
        have hne : ((s[i].toNat : Int) != 10) = true := by
          have h : s[i].toNat ≠ 10 := fun h => h10 (UInt8.toNat_inj.1 (by simpa using h))
          simp only [bne_iff_ne, ne_eq]
          omega
        have HNX := Lib.hid hnx2
        obtain ⟨i0, hi0, hzz⟩ := Option.map_eq_some_iff.1 info_u8
        simp only [Prod.mk.injEq] at hzz
        obtain ⟨hz0, hz1, hz2⟩ := hzz
        have hlen : (fl (s.data.toList.take i)).length ≤ i := Nat.le_trans (fl_len _) (by rw [List.length_take]; omega)
        have HL := Lib.hid hlen
        have HI0 := Lib.hid hi0
        have HZ0 := Lib.hid hz0
        have HZ1 := Lib.hid hz1
        have HZ2 := Lib.hid hz2
        have hbs := HB.out.size
        clear hnx hnx2 hx2 hi0 hz0 hz1 hz2 hlen
        go_wp2_with (at_builtin; refine wpList_append_own _ rfl _ _ 22 rfl w.heap.size 5 i0 (.int .u8 0) 1 1 Tryd.underlying22 HI0.out HZ0.out HZ1.out HZ2.out rfl (by decide) _ _ _ rfl (HO.out.alloc _) ⟨wr.heap.size, 0, none⟩ 1 1 [.int .u8 (s[i].toNat : Int)] rfl rfl ?c1 ?c2 ?c3 ?c4 ?c5 ?_)
        case c1 => exact cell_one_new _ _ _
        case c2 => intro u hu; simp at hu; subst hu; rfl
        case c3 => unfold maxLen; have := HL.out; omega
        case c4 => have := HL.out; omega
        case c5 => simp; omega
        intro v2 w2 hown2 hg2 _
        have hb2 : Below w.heap.size w w2 := HB.out.trans (((Below.refl w.heap.size wr).alloc (by omega) _).trans ⟨hg2.os, hg2.tape, hg2.output, hg2.size, fun k hk => hg2.block k (by simp; omega) (fun e => by have := (own_block HO.out k e.symm).1; omega)⟩)
        have HB2 := Lib.hid hb2
        have HO2 := Lib.hid hown2
        clear hown2 hg2 hb2
        go_wp2_with fail
        go_roundw
        case rel => exact ⟨i + 1, by omega, by push_cast; rfl, by rw [HNX.out, List.length_append]; simpa [Lib.byteCells] using HO2.out, HB2.out⟩
        case measure => simp [intOf]; omega
    · obtain rfl : i = s.size := by omega
      have hfull : s.data.toList.take s.size = s.data.toList := List.take_of_length_le (by rw [HSZ.out]; exact Nat.le_refl _)
      rw [hfull] at HO
      have hconv := conv_own HO.out
      go_wp2_with fail
      go_ret
      exact ⟨rfl, HB.out⟩
end Go.Proofs.YtbjkljmhhpoooaaDoor

/- A TEXT THAT GROWS (it began as []byte(s): its row bears a mark behind its end) AND, BESIDE IT, A LIST OF ENTRIES THAT GROWS. -/
namespace Go.Proofs.YtbjkljmhhpoooaaDoor
open Go.RowKit
set_option linter.unusedVariables false

theorem setCells_marked (b : Nat) : ∀ (vs : List Value) (o : Nat) (w : World) (cs : Array Value) (t : TypeId) (fz : Nat × Nat), w.heap[b]? = some (.cells cs t fz) → ∃ cs' : Array Value, (w.setCells b o vs).heap[b]? = some (.cells cs' t fz) ∧ cs'.size = cs.size ∧ ∀ j, cs'[j]? = if j < o ∨ o + vs.length ≤ j then cs[j]? else if j < cs.size then vs[j - o]? else none
  | [], o, w, cs, t, fz, h => ⟨cs, h, rfl, fun j => by rw [if_pos]; simp only [List.length_nil]; omega⟩
  | v :: vs, o, w, cs, t, fz, h => by
    obtain ⟨cs', e1, e2, e3⟩ := setCells_marked b vs (o + 1) (w.setCell ⟨b, o, none⟩ v) _ t fz (heap_set_same (i := o) (v := v) h)
    refine ⟨cs', e1, by simpa using e2, fun j => ?_⟩
    rw [e3 j]
    simp only [Array.size_setIfInBounds, List.length_cons]
    by_cases h1 : j < o
    · rw [if_pos (by omega), if_pos (by omega), Array.getElem?_setIfInBounds_ne (by omega)]
    · by_cases h2 : j = o
      · subst h2
        rw [if_pos (by omega), if_neg (by omega), Nat.sub_self]
        by_cases h3 : j < cs.size
        · rw [Array.getElem?_setIfInBounds_self_of_lt h3, if_pos h3]; rfl
        · rw [Array.getElem?_eq_none (by simp; omega), if_neg h3]
      · by_cases h3 : o + 1 + vs.length ≤ j
        · rw [if_pos (by omega), if_pos (by omega), Array.getElem?_setIfInBounds_ne (by omega)]
        · rw [if_neg (show ¬ (j < o + 1 ∨ o + 1 + vs.length ≤ j) by omega), if_neg (show ¬ (j < o ∨ o + (vs.length + 1) ≤ j) by omega)]
          obtain ⟨m, rfl⟩ : ∃ m, j = o + 1 + m := ⟨j - o - 1, by omega⟩
          rw [show o + 1 + m - (o + 1) = m by omega, show o + 1 + m - o = m + 1 by omega, List.getElem?_cons_succ]

/-- the text: its block, its bytes -/
def TextAt (w : World) (lo T : Nat) (v : Value) (bs : List UInt8) : Prop :=
  ∃ cap cur fz, v = .slice (some ⟨T, 0, none⟩) bs.length cap ∧ lo ≤ T ∧ w.heap[T]? = some (.cells cur 5 fz) ∧ (fz.2 = 0 ∨ cap ≤ fz.1) ∧ bs.length ≤ cap ∧ cur.size = cap ∧ cur.toList.take bs.length = Lib.byteCells bs
theorem TextAt.lt {w : World} {lo T : Nat} {v : Value} {bs : List UInt8} (h : TextAt w lo T v bs) : T < w.heap.size := by
  obtain ⟨_, _, _, _, _, h, _⟩ := h
  exact (Array.getElem?_eq_some_iff.1 h).1
theorem TextAt.mono {w : World} {lo lo' T : Nat} {v : Value} {bs : List UInt8} (h : TextAt w lo T v bs) (hl : lo' ≤ lo) : TextAt w lo' T v bs := by
  obtain ⟨cap, cur, fz, h1, h2, h3, h4⟩ := h
  exact ⟨cap, cur, fz, h1, Nat.le_trans hl h2, h3, h4⟩
theorem TextAt.keep {w w' : World} {lo T : Nat} {v : Value} {bs : List UInt8} (h : TextAt w lo T v bs) (hk : w'.heap[T]? = w.heap[T]?) : TextAt w' lo T v bs := by
  obtain ⟨cap, cur, fz, h1, h2, h3, h4⟩ := h
  exact ⟨cap, cur, fz, h1, h2, hk.trans h3, h4⟩
theorem TextAt.cells {w : World} {lo T : Nat} {v : Value} {bs : List UInt8} (h : TextAt w lo T v bs) : ∀ j (hj : j < bs.length), w.cell? ⟨T, j, none⟩ = some (.int .u8 (bs[j].toNat : Int)) := by
  obtain ⟨cap, cur, fz, h1, h2, h3, h4, h5, h6, h7⟩ := h
  intro j hj
  refine cell_of_heap h3 ?_
  have h5 : (Lib.byteCells bs)[j]? = some (.int .u8 (bs[j].toNat : Int)) := by simp [Lib.byteCells, hj]
  rw [← h7, List.getElem?_take_of_lt (by omega)] at h5
  rw [← Array.getElem?_toList]
  exact h5
theorem TextAt.conv {w : World} {lo T : Nat} {v : Value} {bs : List UInt8} (h : TextAt w lo T v bs) : (convert 22 9 v).run Tryd.prog w = .ok (.string (ofL bs)) w := by
  have hc := h.cells
  obtain ⟨cap, cur, fz, rfl, h2, h3, h4, h5, h6, h7⟩ := h
  refine run_convert_bytes_back (P := Tryd.prog) w 22 9 5 ⟨T, 0, none⟩ cap bs Tryd.underlying22 Tryd.underlying5 Tryd.underlying9 fun j hj => ?_
  rw [Addr.add_mid, Nat.zero_add]
  exact hc j hj
/-- []byte(s) -/
theorem text_new (w : World) (s : ByteArray) (e : TypeId) (he : e = 5) (fz : Nat × Nat) (hfz : fz = ((bytesRow s (grownCap w s.size 0 e)).size, (bytesRow s (grownCap w s.size 0 e)).size + 1)) :
    TextAt (w.drew.alloc (.cells (bytesRow s (grownCap w s.size 0 e)) e fz)) w.heap.size w.heap.size (.slice (some ⟨w.heap.size, 0, none⟩) s.size (grownCap w s.size 0 e)) s.data.toList := by
  subst he hfz
  have hge := grownCap_ge w s.size 0 5
  have hsz : (bytesRow s (grownCap w s.size 0 5)).size = grownCap w s.size 0 5 := by
    unfold bytesRow
    simp only [Array.size_append, Array.size_map, Array.size_replicate]
    have : s.data.size = s.size := rfl
    omega
  refine ⟨_, _, _, by simp, Nat.le_refl _, alloc_at rfl, .inr (by show _ ≤ (bytesRow s _).size; omega), by simpa using hge, hsz, ?_⟩
  unfold bytesRow Lib.byteCells
  rw [Array.toList_append, List.take_append_of_le_length (by simp), List.take_of_length_le (by simp)]
  simp

/-- what an append to the text leaves alone -/
structure Grew (T : Nat) (w w' : World) : Prop where
  os : w'.os = w.os
  tape : w'.tape = w.tape
  output : w'.output = w.output
  size : w.heap.size ≤ w'.heap.size
  block : ∀ k, k < w.heap.size → k ≠ T → w'.heap[k]? = w.heap[k]?
theorem Grew.below {T B : Nat} {w w' : World} (h : Grew T w w') (hT : B ≤ T) (hB : B ≤ w.heap.size) : Below B w w' := ⟨h.os, h.tape, h.output, h.size, fun k hk => h.block k (by omega) (by omega)⟩

theorem wpList_append_text {w : World} {ops : Array Oper} {rest : List Oper} {o : Oper} {a : Act} {Q : Exit → Act → World → Prop} (hgd : o.guard = none) (s x : Operand)
    (ho : o.op = .call { callee := .builtin .append, args := #[s, x], argTypes := #[22, 22] }) {lo T : Nat} {v : Value} {bs : List UInt8} (hs : a.eval s = v) (hv : TextAt w lo T v bs)
    (ad : Addr) (m c : Nat) (l : List UInt8) (hx : a.eval x = .slice (some ad) m c) (hm : m = l.length) (hc : ∀ j (hj : j < l.length), w.cell? (ad.add j) = some (.int .u8 (l[j].toNat : Int))) (hn : bs.length + l.length ≤ 1099511627776)
    (h : ∀ T' v' w', TextAt w' lo T' v' (bs ++ l) → Grew T w w' → (T' = T ∨ w.heap.size ≤ T') → wpList Tryd.prog ops Q rest (a.put o.dst v') w') : wpList Tryd.prog ops Q (o :: rest) a w := by
  subst hm
  have hcl := hv.cells
  have hlt := hv.lt
  obtain ⟨i0, hi0, he0⟩ := Option.map_eq_some_iff.1 info_u8
  injection he0 with hz0 he0
  injection he0 with hz1 hz2
  obtain ⟨cap, cur, fz, rfl, h2, h3, h4, h5, h6, h7⟩ := hv
  have hbc : ∀ (l : List UInt8) j u, (Lib.byteCells l)[j]? = some u → ∃ hj : j < l.length, u = .int .u8 (l[j].toNat : Int) := by
    intro l j u hu
    have hj : j < l.length := by have := (List.getElem?_eq_some_iff.1 hu).1; simpa [Lib.byteCells] using this
    refine ⟨hj, ?_⟩
    simp [Lib.byteCells, hj] at hu
    exact hu.symm
  refine wpList_append_arg w hgd s x 22 ho 5 i0 (.int .u8 0) 1 1 Tryd.underlying22 hi0 hz0 hz1 hz2 rfl (by decide) T 0 bs.length cap (Lib.byteCells bs) hs (by simp [Lib.byteCells])
    (fun j u hu => ?_) ad l.length c (Lib.byteCells l) hx (by simp [Lib.byteCells]) (fun j u hu => ?_) (fun u hu => ?_) (fun hr j hj => ?_) (by unfold maxLen; omega) (by omega) (fun hr => ?_) (fun hg v' w' hown hgr => ?_)
  · obtain ⟨hj, rfl⟩ := hbc _ _ _ hu
    rw [Nat.zero_add]
    exact hcl j hj
  · obtain ⟨hj, rfl⟩ := hbc _ _ _ hu
    exact hc j hj
  · obtain ⟨y, _, rfl⟩ := List.mem_map.1 hu
    rfl
  · have hj' : j < l.length := by simpa [Lib.byteCells] using hj
    rw [Nat.zero_add, Nat.mul_one]
    refine ⟨by rw [cell_of_heap h3 (v := cur[bs.length + j]'(by omega)) (Array.getElem?_eq_getElem _)]; rfl, ?_⟩
    unfold World.frozen?
    simp only [h3]
    simp
    omega
  · rw [Nat.zero_add, Nat.mul_one]
    obtain ⟨f1, f2, f3, f4, f5, _⟩ := setCells_facts T (Lib.byteCells l) bs.length w
    obtain ⟨cs', e1, e2, e3⟩ := setCells_marked T (Lib.byteCells l) bs.length w cur _ fz h3
    refine h T _ _ ⟨cap, cs', fz, by rw [List.length_append], h2, e1, h4, by rw [List.length_append]; exact hr, e2.trans h6, ?_⟩ ⟨f1, f2, f3, by rw [f4]; exact Nat.le_refl _, fun k _ hk => f5 k hk⟩ (.inl rfl)
    apply List.ext_getElem?
    intro j
    have hbl : (Lib.byteCells l).length = l.length := by simp [Lib.byteCells]
    have hbb : (Lib.byteCells bs).length = bs.length := by simp [Lib.byteCells]
    have happ : Lib.byteCells (bs ++ l) = Lib.byteCells bs ++ Lib.byteCells l := by simp [Lib.byteCells]
    rw [happ, List.length_append]
    by_cases hj : j < bs.length + l.length
    · rw [List.getElem?_take_of_lt hj, Array.getElem?_toList, e3 j, hbl]
      by_cases hj2 : j < bs.length
      · rw [if_pos (.inl hj2), List.getElem?_append_left (by omega), ← h7, List.getElem?_take_of_lt hj2, Array.getElem?_toList]
      · rw [if_neg (by omega), if_pos (by omega), List.getElem?_append_right (by omega), hbb]
    · rw [List.getElem?_eq_none (by rw [List.length_take]; omega), List.getElem?_eq_none (by rw [List.length_append, hbl, hbb]; omega)]
  · have hgr' : Grew T w w' := ⟨hgr.os, hgr.tape, hgr.output, hgr.size, fun k hk _ => hgr.block k hk (fun e => by cases e)⟩
    rcases hown.2 with ⟨_, h0⟩ | ⟨g, cap', cur', rfl, hg1, hg2, hg3, hg4, hg5, hg6⟩
    · omega
    · refine h g _ _ ⟨cap', cur', (0, 0), by rw [List.length_append], by omega, hg2, .inl rfl, by rw [List.length_append]; exact hg3, by simpa using hg5, ?_⟩ hgr' (.inr hg1)
      have happ : Lib.byteCells (bs ++ l) = Lib.byteCells bs ++ Lib.byteCells l := by simp [Lib.byteCells]
      rw [happ, List.length_append, ← hg6, Nat.mul_one]

/-! ### the list of entries -/
def EntR (w : World) (T : Nat) (E : Ent) (V : List Value) : Prop := ∃ A c, V = (entArr E A c).toList ∧ BytesIn w A E.by_ ∧ ∀ b o s, A = some ⟨b, o, s⟩ → b ≠ T ∧ ∃ cur fz, w.heap[b]? = some (.cells cur 5 fz)
def EntRs (w : World) (T : Nat) : List Ent → List Value → Prop
  | [], L => L = []
  | E :: es, L => ∃ V L', L = V ++ L' ∧ EntR w T E V ∧ EntRs w T es L'
theorem EntR.keep {w w' : World} {T T' : Nat} {E : Ent} {V : List Value} (h : EntR w T E V) (hk : ∀ b cur fz, b ≠ T → w.heap[b]? = some (.cells cur 5 fz) → w'.heap[b]? = w.heap[b]?) (hT : T' = T ∨ w.heap.size ≤ T') : EntR w' T' E V := by
  obtain ⟨A, c, rfl, h1, h2⟩ := h
  have hh : ∀ b o s, A = some ⟨b, o, s⟩ → w'.heap[b]? = w.heap[b]? := fun b o s e => by
    obtain ⟨hn, cur, fz, hc⟩ := h2 b o s e
    exact hk b cur fz hn hc
  refine ⟨A, c, rfl, ?_, fun b o s e => ?_⟩
  · rcases h1 with h1 | ⟨b, o, rfl, hb, hcell⟩
    · exact .inl h1
    · have hs := hh b o none rfl
      obtain ⟨_, cur, fz, hc⟩ := h2 b o none rfl
      refine .inr ⟨b, o, rfl, (Array.getElem?_eq_some_iff.1 (hs.trans hc)).1, fun j hj => ?_⟩
      rw [World.cell?_of_block (w := w) hs]
      exact hcell j hj
  · obtain ⟨hn, cur, fz, hc⟩ := h2 b o s e
    refine ⟨?_, cur, fz, (hh b o s e).trans hc⟩
    rcases hT with rfl | hT
    · exact hn
    · have := (Array.getElem?_eq_some_iff.1 hc).1
      omega
theorem EntRs.keep {w w' : World} {T T' : Nat} (hk : ∀ b cur fz, b ≠ T → w.heap[b]? = some (.cells cur 5 fz) → w'.heap[b]? = w.heap[b]?) (hT : T' = T ∨ w.heap.size ≤ T') : ∀ {es : List Ent} {L : List Value}, EntRs w T es L → EntRs w' T' es L
  | [], _, h => h
  | _ :: _, _, ⟨V, L', h1, h2, h3⟩ => ⟨V, L', h1, h2.keep hk hT, EntRs.keep hk hT h3⟩
theorem EntRs.snoc {w : World} {T : Nat} {E : Ent} {V : List Value} (hV : EntR w T E V) : ∀ {es : List Ent} {L : List Value}, EntRs w T es L → EntRs w T (es ++ [E]) (L ++ V)
  | [], _, h => by
    have h : _ = [] := h
    subst h
    exact ⟨V, [], by simp, hV, rfl⟩
  | _ :: _, _, ⟨V', L', h1, h2, h3⟩ => ⟨V', L' ++ V, by rw [h1, List.append_assoc], h2, EntRs.snoc hV h3⟩
theorem entR_at {w : World} {T : Nat} : ∀ {es : List Ent} {L : List Value}, EntRs w T es L → ∀ i e, es[i]? = some e → ∃ V, EntR w T e V ∧ ∀ j, j < 8 → L[i * 8 + j]? = V[j]?
  | [], _, _, i, e, h => by simp at h
  | E :: es, L, ⟨V, L', h1, h2, h3⟩, i, e, h => by
    have hV : V.length = 8 := by obtain ⟨A, c, rfl, _⟩ := h2; rfl
    cases i with
    | zero =>
      simp only [List.getElem?_cons_zero, Option.some.injEq] at h
      subst h
      refine ⟨V, h2, fun j hj => ?_⟩
      rw [h1, Nat.zero_mul, Nat.zero_add, List.getElem?_append_left (by omega)]
    | succ i =>
      simp only [List.getElem?_cons_succ] at h
      obtain ⟨V', k1, k2⟩ := entR_at h3 i e h
      refine ⟨V', k1, fun j hj => ?_⟩
      rw [h1, List.getElem?_append_right (by omega), hV, show (i + 1) * 8 + j - 8 = i * 8 + j by omega]
      exact k2 j hj

def WantAt (w : World) (lo T : Nat) (v : Value) (es : List Ent) : Prop := ∃ L, EntRs w T es L ∧ w.ownsRow lo 25 8 v es.length L
theorem WantAt.nil (w : World) (lo T : Nat) : WantAt w lo T (.slice none 0 0) [] := ⟨[], rfl, World.ownsRow_nil _ _ _ _⟩
theorem WantAt.keep {w w' : World} {lo T T' : Nat} {v : Value} {es : List Ent} (h : WantAt w lo T v es) (hk : ∀ b cur t fz, b ≠ T → w.heap[b]? = some (.cells cur t fz) → w'.heap[b]? = w.heap[b]?) (hT : T' = T ∨ w.heap.size ≤ T') (ht : ∃ cur fz, w.heap[T]? = some (.cells cur 5 fz)) : WantAt w' lo T' v es := by
  obtain ⟨L, h1, h2, h3⟩ := h
  refine ⟨L, h1.keep (fun b cur fz hb hc => hk b cur _ fz hb hc) hT, h2, ?_⟩
  rcases h3 with h3 | ⟨g, cap, cur, a, b, c, d⟩
  · exact .inl h3
  · refine .inr ⟨g, cap, cur, a, b, ?_, d⟩
    rw [hk g cur _ _ ?_ c]
    · exact c
    · rintro rfl
      obtain ⟨cur', fz, ht⟩ := ht
      rw [c] at ht
      injection ht with ht
      injection ht with _ e
      exact absurd e (by decide)
theorem WantAt.form {w : World} {lo T : Nat} {v : Value} {es : List Ent} (h : WantAt w lo T v es) : ∃ A c, v = .slice A es.length c := by
  obtain ⟨L, _, h⟩ := h
  obtain ⟨A, c, h⟩ := own_form h
  exact ⟨A, c, h⟩
/-- as it is read -/
theorem want_in {w : World} {lo T : Nat} {v : Value} {es : List Ent} (h : WantAt w lo T v es) : ∃ A c, v = .slice A es.length c ∧ EntsIn w A es := by
  obtain ⟨L, hL, hrow⟩ := h
  obtain ⟨A, c, rfl⟩ := own_form hrow
  refine ⟨A, c, rfl, ?_⟩
  rcases hrow.2 with ⟨hv, h0⟩ | ⟨g, cap, cur, hv, hg, hh, hc, hm, hs, ht⟩
  · injection hv with h1 h2 h3
    exact .inl ⟨h1, List.eq_nil_of_length_eq_zero h0⟩
  · injection hv with h1 h2 h3
    subst h1 h3
    refine .inr ⟨g, 0, rfl, (Array.getElem?_eq_some_iff.1 hh).1, fun i e he => ?_⟩
    have hi : i < es.length := (List.getElem?_eq_some_iff.1 he).1
    obtain ⟨V, ⟨A', c', hV, ho, _⟩, hj⟩ := entR_at hL i e he
    refine ⟨A', c', ho, fun j v hv => ?_⟩
    have hj8 : j < 8 := by
      have := (List.getElem?_eq_some_iff.1 hv).1
      simpa [entArr] using this
    have h5 : L[i * 8 + j]? = some v := by rw [hj j hj8, hV]; exact hv
    rw [Nat.zero_add]
    refine cell_of_heap hh ?_
    rw [← ht, List.getElem?_take_of_lt (by omega)] at h5
    rw [← Array.getElem?_toList]
    exact h5
/-- an entry that a call has made -/
theorem entR_of {w : World} {lo T c : Nat} {E : Ent} {A : Option Addr} (h : w.ownsRow lo 5 1 (.slice A E.by_.length c) E.by_.length (u8s E.by_)) (hT : T < lo) : EntR w T E (entArr E A c).toList := by
  refine ⟨A, c, rfl, own_in h, fun b o s e => ?_⟩
  subst e
  rcases h.2 with ⟨hv, _⟩ | ⟨g, cap, cur, hv, hg, hh, _⟩
  · injection hv with hv; cases hv
  · injection hv with hv
    injection hv with hv
    injection hv with hv
    subst hv
    exact ⟨by omega, cur, _, hh⟩

theorem wpList_append_want {w : World} {ops : Array Oper} {rest : List Oper} {op : Oper} {a : Act} {Q : Exit → Act → World → Prop} (hgd : op.guard = none) (s x : Operand)
    (ho : op.op = .call { callee := .builtin .append, args := #[s, x], argTypes := #[29, 29] }) {lo T : Nat} {v : Value} {es : List Ent} {E : Ent} (hs : a.eval s = v) (hv : WantAt w lo T v es) (hlo : lo ≤ w.heap.size)
    (b c : Nat) (hx : a.eval x = .slice (some ⟨b, 0, none⟩) 1 c) (V : Array Value) (hV : EntR w T E V.toList) (hb : w.heap[b]? = some (.cells V 25 (0, 0))) (hn : es.length ≤ 1048576) (ht : ∃ cur fz, w.heap[T]? = some (.cells cur 5 fz))
    (h : ∀ v' w', WantAt w' lo T v' (es ++ [E]) → Below lo w w' → w'.heap[T]? = w.heap[T]? → wpList Tryd.prog ops Q rest (a.put op.dst v') w') : wpList Tryd.prog ops Q (op :: rest) a w := by
  obtain ⟨i, hi, he⟩ := Option.map_eq_some_iff.1 ent_info
  injection he with he1 he
  injection he with he2 he3
  obtain ⟨z, hz1, hz2⟩ := Option.map_eq_some_iff.1 he1
  obtain ⟨L, hL, hrow⟩ := hv
  have hVl : V.toList.length = 8 := by obtain ⟨A, c, h, _⟩ := hV; rw [h]; rfl
  have hVo : ∀ u ∈ V.toList, u.oneCell' = true := by
    obtain ⟨A, c, h, _⟩ := hV
    rw [h]
    intro u hu
    simp only [entArr, List.mem_cons, List.not_mem_nil, or_false] at hu
    rcases hu with rfl | rfl | rfl | rfl | rfl | rfl | rfl | rfl <;> rfl
  refine wpList_append_own w hgd s x 29 ho lo 25 i z 8 80 Tryd.underlying29 hi hz1 he2 he3 hz2 (by decide) v es.length L hs hrow ⟨b, 0, none⟩ 1 c V.toList hx (by rw [hVl]) (fun j u hu => by
    rw [Addr.add_mid, Nat.zero_add]
    exact cell_of_heap hb (by simpa using hu)) hVo (by unfold maxLen; omega) (by omega) hlo fun v' w' h1 h2 _ => ?_
  have hbl := own_block hrow
  have hne : ∀ (k : Nat) cur fz, w.heap[k]? = some (.cells cur 5 fz) → some k ≠ v.ownBlock := by
    intro k cur fz hk e
    obtain ⟨_, cur', hc⟩ := hbl k e.symm
    rw [hk] at hc
    injection hc with hc
    injection hc with _ hc
    exact absurd hc (by decide)
  have hk : ∀ (k : Nat) cur fz, w.heap[k]? = some (.cells cur 5 fz) → w'.heap[k]? = w.heap[k]? := fun k cur fz hk => h2.block k (Array.getElem?_eq_some_iff.1 hk).1 (hne k cur fz hk)
  obtain ⟨curT, fzT, hT⟩ := ht
  refine h v' w' ⟨L ++ V.toList, (hL.keep (fun b cur fz _ hc => hk b cur fz hc) (.inl rfl)).snoc (hV.keep (fun b cur fz _ hc => hk b cur fz hc) (.inl rfl)), by simpa using h1⟩ ⟨h2.os, h2.tape, h2.output, h2.size, fun k hkl => h2.block k (by omega) (fun e => by have := (hbl k e.symm).1; omega)⟩ (hk T curT fzT hT)
end Go.Proofs.YtbjkljmhhpoooaaDoor
