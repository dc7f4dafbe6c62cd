/- What script.entry returns: what the words behind a verb come to by their forms: an entry of that kind with its fields, or with ErrForm, ErrHex or ErrRange alone. -/
import Derived.Test.YtbjkljmhhpoooaaDoorBlk
import Derived.RegionTactic
import Derived.ChangeAlike
namespace Go.Proofs.YtbjkljmhhpoooaaDoor
open Go.RowKit
set_option linter.unusedVariables false

/-- an entry -/
structure Ent where
  kind : Nat
  site : Nat
  a : Nat
  b : Nat
  c : Nat
  ch : Nat
  by_ : List Nat
  err : Nat
def entBad (k e : Nat) : Ent := ⟨k, 0, 0, 0, 0, 0, [], e⟩
/-- what is gathered while the words are gone through -/
structure EnSt where
  site : Nat
  a : Nat
  b : Nat
  c : Nat
  ch : Nat
  by_ : List Nat
  wide : Bool
  nums : Nat
def st0 : EnSt := ⟨0, 0, 0, 0, 0, [], false, 0⟩
def lows : List Nat := [1, 0, 0, 0, 0, 1, 0, 0]
def mosts : List Nat := [64, 64, 4095, 2047, 63, 255, 262144, 255]
def enPut (f n : Nat) (e : EnSt) : EnSt :=
  if f ≤ 1 then { e with site := n } else if e.nums = 0 then { e with a := n, nums := 1 } else if e.nums = 1 then { e with b := n, nums := 2 } else { e with c := n, nums := 3 }
def enStep (f : Nat) (l : List UInt8) (e : EnSt) : Nat ⊕ EnSt :=
  if f = 8 then (match l with | [c] => .inr { e with ch := c.toNat, wide := e.wide || (decide (c.toNat < 32) || decide (126 < c.toNat)) } | _ => .inl 154)
  else if f = 9 then (match hexS l with | none => .inl 156 | some b => .inr { e with by_ := b, wide := e.wide || decide (64 < b.length) })
  else (match numS l with | none => .inl 154 | some n => .inr (enPut f n { e with wide := e.wide || (decide (n < lows.getD f 0) || decide (mosts.getD f 0 < n)) }))
def enRun : List Nat → List (List UInt8) → EnSt → Nat ⊕ EnSt
  | f :: fs, l :: ls, e => match enStep f l e with
    | .inl x => .inl x
    | .inr e' => enRun fs ls e'
  | _, _, e => .inr e
def entryS (k : Nat) (fs : List Nat) (ls : List (List UInt8)) : Ent :=
  if ls.length ≠ fs.length then entBad k 154 else match enRun fs ls st0 with
    | .inl x => entBad k x
    | .inr e => if e.wide then entBad k 155 else ⟨k, e.site, e.a, e.b, e.c, e.ch, e.by_, 0⟩

theorem enRun_snoc : ∀ (fs : List Nat) (ls : List (List UInt8)) (f : Nat) (l : List UInt8) (e : EnSt), fs.length = ls.length →
    enRun (fs ++ [f]) (ls ++ [l]) e = match enRun fs ls e with | .inl x => .inl x | .inr e' => enStep f l e'
  | [], [], f, l, e, _ => by simp only [List.nil_append, enRun]; cases enStep f l e <;> rfl
  | x :: fs, y :: ls, f, l, e, h => by
    simp only [List.cons_append, enRun]
    cases hs : enStep x y e with
    | inl z => rfl
    | inr e' => simp only []; exact enRun_snoc fs ls f l e' (by simpa using h)
/-- a word that is refused settles it, whatever stands behind it -/
theorem enRun_stop : ∀ (fs gs : List Nat) (ls ms : List (List UInt8)) (f : Nat) (l : List UInt8) (e e' : EnSt) (x : Nat), fs.length = ls.length → enRun fs ls e = .inr e' → enStep f l e' = .inl x →
    enRun (fs ++ f :: gs) (ls ++ l :: ms) e = .inl x
  | [], gs, [], ms, f, l, e, e', x, _, h, hs => by
    simp only [enRun] at h
    cases h
    simp only [List.nil_append, enRun, hs]
  | y :: fs, gs, z :: ls, ms, f, l, e, e', x, hl, h, hs => by
    simp only [List.cons_append, enRun] at h ⊢
    cases hy : enStep y z e with
    | inl u => rw [hy] at h; cases h
    | inr e2 => rw [hy] at h; simp only [] at h ⊢; exact enRun_stop fs gs ls ms f l e2 e' x (by simpa using hl) h hs

/-- an entry as a value; its bytes in the row of the call's own -/
def EntVal (B : Nat) (x : Ent) (v : Value) (w : World) : Prop :=
  ∃ bv, v = .agg #[.int .i64 x.kind, .int .i64 x.site, .int .i64 x.a, .int .i64 x.b, .int .i64 x.c, .int .u8 x.ch, bv, .int .i64 x.err] ∧ w.ownsRow B 5 1 bv x.by_.length (u8s x.by_)
def EntRet (B : Nat) (w : World) (x : Ent) (e : Ending) (w' : World) : Prop := ∃ v, e = .returned v ∧ EntVal B x v w' ∧ Below B w w'
theorem EntRet.bad {B : Nat} {w w' : World} (k e : Nat) (hb : Below B w w') : EntRet B w (entBad k e) (.returned (.agg #[.int .i64 (k : Int), .int .i64 0, .int .i64 0, .int .i64 0, .int .i64 0, .int .u8 0, .slice none 0 0, .int .i64 (e : Int)])) w' :=
  ⟨_, rfl, ⟨_, rfl, own_nil0 _ _ _ _⟩, hb⟩

theorem cell_alloc {w : World} {a : Addr} {v : Value} (h : w.cell? a = some v) (o : Obj) : (w.alloc o).cell? a = some v := by
  have hb := (Below.refl w.heap.size w).alloc (Nat.le_refl _) o
  rw [hb.cell (World.block_lt_of_cell? w a h)]; exact h
set_option maxHeartbeats 400000 in
/-- the closure 'bad' -/
theorem bad_calls (k e : Nat) (p : Nat) (w : World) (hk : w.cell? ⟨p, 0, none⟩ = some (.int .i64 (k : Int))) :
    Calls Tryd.prog 42 #[.int .i64 (e : Int), .pointer (some ⟨p, 0, none⟩)] w fun r w' => r = .returned (.agg #[.int .i64 (k : Int), .int .i64 0, .int .i64 0, .int .i64 0, .int .i64 0, .int .u8 0, .slice none 0 0, .int .i64 (e : Int)]) ∧ w' = w.alloc (.cells #[.int .i64 (k : Int), .int .i64 0, .int .i64 0, .int .i64 0, .int .i64 0, .int .u8 0, .slice none 0 0, .int .i64 (e : Int)] 25) := by
  have hk1 := fun o => cell_alloc hk o
  go_enter Tryd.func42, Tryd.ntmps42
  go_wp2
  refine bodyPost_ret (v := .agg #[.int .i64 (k : Int), .int .i64 0, .int .i64 0, .int .i64 0, .int .i64 0, .int .u8 0, .slice none 0 0, .int .i64 (e : Int)]) (by simp [results, Tryd.results42, go_sem]) rfl ⟨rfl, ?_⟩
  rfl

/-- a slice of strings that is read, a slice of whole numbers that is read -/
def StrsIn (w : World) (A : Option Addr) (ws : List ByteArray) : Prop := ws.length ≤ 4294967296 ∧ (0 < ws.length → ∃ b o, A = some ⟨b, o, none⟩ ∧ b < w.heap.size ∧ ∀ j, j < ws.length → w.cell? ⟨b, o + j, none⟩ = some (.string (ws.getD j ByteArray.empty)))
def IntsIn (w : World) (A : Option Addr) (xs : List Nat) : Prop := xs.length ≤ 4294967296 ∧ (0 < xs.length → ∃ b o, A = some ⟨b, o, none⟩ ∧ b < w.heap.size ∧ ∀ j, j < xs.length → w.cell? ⟨b, o + j, none⟩ = some (.int .i64 ((xs.getD j 0 : Nat) : Int)))
theorem StrsIn.below {w w' : World} {A : Option Addr} {ws : List ByteArray} (h : StrsIn w A ws) (hb : Below w.heap.size w w') : StrsIn w' A ws :=
  ⟨h.1, fun h0 => let ⟨b, o, e, hl, hc⟩ := h.2 h0; ⟨b, o, e, Nat.lt_of_lt_of_le hl hb.size, fun j hj => by rw [hb.cell (by exact hl)]; exact hc j hj⟩⟩
theorem IntsIn.below {w w' : World} {A : Option Addr} {ws : List Nat} (h : IntsIn w A ws) (hb : Below w.heap.size w w') : IntsIn w' A ws :=
  ⟨h.1, fun h0 => let ⟨b, o, e, hl, hc⟩ := h.2 h0; ⟨b, o, e, Nat.lt_of_lt_of_le hl hb.size, fun j hj => by rw [hb.cell (by exact hl)]; exact hc j hj⟩⟩

def strL (ws : List ByteArray) : List (List UInt8) := ws.map (·.data.toList)

set_option maxRecDepth 100000 in
set_option maxHeartbeats 1000000 in
/-- another number of words -/
theorem entry_len (k : Nat) (AF AW : Option Addr) (cF cW : Nat) (fs : List Nat) (ws : List ByteArray) (w : World) (hl : ¬ ws.length = fs.length) (hf : IntsIn w AF fs) (hw : StrsIn w AW ws) :
    Calls Tryd.prog 21 #[.int .i64 (k : Int), .slice AF fs.length cF, .slice AW ws.length cW] w fun e w' => EntRet w.heap.size w (entryS k fs (strL ws)) e w' := by
  have hE : entryS k fs (strL ws) = entBad k 154 := by unfold entryS; rw [if_pos (by simpa [strL] using hl)]
  have hne : ((ws.length : Int) != (fs.length : Int)) = true := by rw [bne_iff_ne]; omega
  have HE := Lib.hid hE
  have l1 := hf.1
  have l2 := hw.1
  have HF := Lib.hid hf
  have HW := Lib.hid hw
  clear hE hf hw hl
  go_enter Tryd.func21, Tryd.ntmps21
  go_wp2_with (go_at_call 42; refine (bad_calls k 154 w.heap.size _ (by simp)).mono ?_; rintro e w' ⟨rfl, rfl⟩)
  refine bodyPost_ret (v := .agg #[.int .i64 (k : Int), .int .i64 0, .int .i64 0, .int .i64 0, .int .i64 0, .int .u8 0, .slice none 0 0, .int .i64 154]) (by simp [results, Tryd.results21, go_sem]) rfl ?_
  rw [HE.out]
  exact EntRet.bad k 154 (by repeat (first | exact Below.refl _ _ | (refine Below.alloc ?_ (by simp <;> omega) _) | (refine Below.setCell ?_ (by simp <;> omega) _)))

theorem own_set {w : World} {base : Nat} {e : TypeId} {size : Nat} {v u : Value} {n b i : Nat} {xs : List Value} (h : w.ownsRow base e size v n xs) (hb : b < base) : (w.setCell ⟨b, i, none⟩ u).ownsRow base e size v n xs := by
  obtain ⟨h1, h2⟩ := h
  refine ⟨h1, ?_⟩
  rcases h2 with h2 | ⟨g, cap, cur, a, b', c, d⟩
  · exact .inl h2
  · exact .inr ⟨g, cap, cur, a, b', by rw [heap_set_other (by omega)]; exact c, d⟩
theorem own_below {w w1 : World} {base : Nat} {e : TypeId} {size : Nat} {v : Value} {n : Nat} {xs : List Value} (h : w.ownsRow base e size v n xs) (hb : Below w.heap.size w w1) : w1.ownsRow base e size v n xs := by
  obtain ⟨h1, h2⟩ := h
  refine ⟨h1, ?_⟩
  rcases h2 with h2 | ⟨g, cap, cur, a, b', c, d⟩
  · exact .inl h2
  · exact .inr ⟨g, cap, cur, a, b', by rw [hb.block g (Array.getElem?_eq_some_iff.1 c).1]; exact c, d⟩
theorem own_mono {w : World} {base base' : Nat} {e : TypeId} {size : Nat} {v : Value} {n : Nat} {xs : List Value} (h : w.ownsRow base e size v n xs) (hb : base' ≤ base) : w.ownsRow base' e size v n xs := by
  obtain ⟨h1, h2⟩ := h
  refine ⟨h1, ?_⟩
  rcases h2 with h2 | ⟨g, cap, cur, a, b', c, d⟩
  · exact .inl h2
  · exact .inr ⟨g, cap, cur, a, by omega, c, d⟩

/-! ### THE LOOP's RELATION -/
def numsLeft (fs : List Nat) : Nat := (fs.filter fun f => decide (2 ≤ f) && decide (f < 8)).length
def entCells (k : Nat) (e : EnSt) (bv : Value) : Array Value := #[.int .i64 k, .int .i64 e.site, .int .i64 e.a, .int .i64 e.b, .int .i64 e.c, .int .u8 e.ch, bv, .int .i64 0]
def zeroCells8 : Array Value := #[.int .i64 0, .int .i64 0, .int .i64 0, .int .i64 0, .int .i64 0, .int .u8 0, .slice none 0 0, .int .i64 0]
structure EnAt (k : Nat) (fs : List Nat) (ws : List ByteArray) (w : World) (b1 b2 b3 : Nat) (i : Nat) (e : EnSt) (bv : Value) (wr : World) : Prop where
  le : i ≤ fs.length
  run : enRun (fs.take i) ((strL ws).take i) st0 = .inr e
  kind : wr.heap[w.heap.size]? = some (.cells #[.int .i64 (k : Int)] 3 (0, 0))
  res : wr.heap[b1]? = some (.cells zeroCells8 25 (0, 0))
  ent : wr.heap[b2]? = some (.cells (entCells k e bv) 25 (0, 0))
  ptr : wr.heap[b3]? = some (.cells #[.pointer (some ⟨b2, 2, none⟩), .pointer (some ⟨b2, 3, none⟩), .pointer (some ⟨b2, 4, none⟩)] 80 (0, 0))
  own : wr.ownsRow (w.heap.size + 4) 5 1 bv e.by_.length (u8s e.by_)
  below : Below w.heap.size w wr
  nums : e.nums + numsLeft (fs.drop i) ≤ 3
  ch : e.ch ≤ 255

theorem strL_get (ws : List ByteArray) (i : Nat) (h : i < ws.length) : (strL ws).take (i + 1) = (strL ws).take i ++ [(ws.getD i ByteArray.empty).data.toList] := by
  rw [List.take_succ_eq_append_getElem (by simpa [strL] using h)]
  simp [strL, List.getD_eq_getElem?_getD, List.getElem?_eq_getElem h]
theorem fs_get (fs : List Nat) (i : Nat) (h : i < fs.length) : fs.take (i + 1) = fs.take i ++ [fs.getD i 0] := by
  rw [List.take_succ_eq_append_getElem h]
  simp [List.getD_eq_getElem?_getD, List.getElem?_eq_getElem h]
theorem strL_split (ws : List ByteArray) (i : Nat) (h : i < ws.length) : strL ws = (strL ws).take i ++ (ws.getD i ByteArray.empty).data.toList :: (strL ws).drop (i + 1) := by
  have e := (List.take_append_drop i (strL ws)).symm
  rw [List.drop_eq_getElem_cons (by simpa [strL] using h)] at e
  have e2 : (strL ws)[i]'(by simpa [strL] using h) = (ws.getD i ByteArray.empty).data.toList := by simp [strL, List.getD_eq_getElem?_getD, List.getElem?_eq_getElem h]
  rw [e2] at e; exact e
theorem fs_split (fs : List Nat) (i : Nat) (h : i < fs.length) : fs = fs.take i ++ fs.getD i 0 :: fs.drop (i + 1) := by
  have e := (List.take_append_drop i fs).symm
  rw [List.drop_eq_getElem_cons h] at e
  have e2 : fs[i] = fs.getD i 0 := by simp [List.getD_eq_getElem?_getD, List.getElem?_eq_getElem h]
  rw [e2] at e; exact e
/-- a word that is refused -/
theorem EnAt.stop {k : Nat} {fs : List Nat} {ws : List ByteArray} {w wr : World} {b1 b2 b3 i : Nat} {e : EnSt} {bv : Value} (h : EnAt k fs ws w b1 b2 b3 i e bv wr) (hl : ws.length = fs.length) (hlt : i < fs.length) {x : Nat}
    (hs : enStep (fs.getD i 0) (ws.getD i ByteArray.empty).data.toList e = .inl x) : entryS k fs (strL ws) = entBad k x := by
  unfold entryS
  rw [if_neg (by simp [strL, hl])]
  have e1 := fs_split fs i hlt
  have e2 := strL_split ws i (by omega)
  have := enRun_stop (fs.take i) (fs.drop (i + 1)) ((strL ws).take i) ((strL ws).drop (i + 1)) (fs.getD i 0) _ st0 e x (by simp [strL]; omega) h.run hs
  rw [← e1, ← e2] at this
  rw [this]
theorem EnAt.over {k : Nat} {fs : List Nat} {ws : List ByteArray} {w wr : World} {b1 b2 b3 : Nat} {e : EnSt} {bv : Value} (h : EnAt k fs ws w b1 b2 b3 fs.length e bv wr) (hl : ws.length = fs.length) :
    entryS k fs (strL ws) = if e.wide then entBad k 155 else ⟨k, e.site, e.a, e.b, e.c, e.ch, e.by_, 0⟩ := by
  have h1 := h.run
  rw [List.take_of_length_le (Nat.le_refl _), List.take_of_length_le (by simp [strL, hl])] at h1
  unfold entryS
  rw [if_neg (by simp [strL, hl]), h1]

theorem numsLeft_drop (fs : List Nat) (i : Nat) (h : i < fs.length) : numsLeft (fs.drop i) = (if 2 ≤ fs.getD i 0 ∧ fs.getD i 0 < 8 then 1 else 0) + numsLeft (fs.drop (i + 1)) := by
  rw [List.drop_eq_getElem_cons h]
  have e2 : fs[i] = fs.getD i 0 := by simp [List.getD_eq_getElem?_getD, List.getElem?_eq_getElem h]
  rw [e2]
  unfold numsLeft
  rw [List.filter_cons]
  by_cases h2 : 2 ≤ fs.getD i 0 ∧ fs.getD i 0 < 8
  · rw [if_pos (by simpa using h2), if_pos h2, List.length_cons]; omega
  · rw [if_neg (by simpa using h2), if_neg h2]; omega
theorem enPut_nums (f n : Nat) (e : EnSt) (h9 : f < 8) (hn : e.nums + (if 2 ≤ f ∧ f < 8 then 1 else 0) ≤ 3) : (enPut f n e).nums = e.nums + (if 2 ≤ f ∧ f < 8 then 1 else 0) := by
  unfold enPut
  by_cases h1 : f ≤ 1
  · have h2 : ¬ (2 ≤ f ∧ f < 8) := by omega
    simp only [if_pos h1, if_neg h2]; omega
  · have h2 : 2 ≤ f ∧ f < 8 := by omega
    simp only [if_pos h2] at hn
    simp only [if_neg h1, if_pos h2]
    split
    · simp only []; omega
    · split
      · simp only []; omega
      · simp only []; omega
theorem enStep_nums (f : Nat) (l : List UInt8) (e e' : EnSt) (h9 : f ≤ 9) (hn : e.nums + (if 2 ≤ f ∧ f < 8 then 1 else 0) ≤ 3) (hc : e.ch ≤ 255) (hs : enStep f l e = .inr e') :
    e'.nums = e.nums + (if 2 ≤ f ∧ f < 8 then 1 else 0) ∧ e'.ch ≤ 255 := by
  unfold enStep at hs
  split at hs
  · split at hs
    · injection hs with hs; subst hs
      rename_i c
      refine ⟨?_, ?_⟩
      · rw [if_neg (by omega)]; rfl
      · have := c.toNat_lt; simp only []; omega
    · cases hs
  · split at hs
    · split at hs
      · cases hs
      · injection hs with hs; subst hs
        refine ⟨?_, hc⟩
        rw [if_neg (by omega)]; rfl
    · split at hs
      · cases hs
      · injection hs with hs; subst hs
        refine ⟨enPut_nums f _ _ (by omega) hn, ?_⟩
        unfold enPut
        split
        · exact hc
        · split
          · exact hc
          · split
            · exact hc
            · exact hc
/-- THE NEXT ROUND. -/
theorem EnAt.next {k : Nat} {fs : List Nat} {ws : List ByteArray} {w wr w2 : World} {b1 b2 b3 i : Nat} {e e' : EnSt} {bv bv' : Value} (h : EnAt k fs ws w b1 b2 b3 i e bv wr) (hl : ws.length = fs.length) (hlt : i < fs.length) (h9 : fs.getD i 0 ≤ 9)
    (hs : enStep (fs.getD i 0) (ws.getD i ByteArray.empty).data.toList e = .inr e') (hk : w2.heap[w.heap.size]? = wr.heap[w.heap.size]?) (h1 : w2.heap[b1]? = wr.heap[b1]?) (h3 : w2.heap[b3]? = wr.heap[b3]?)
    (h2 : w2.heap[b2]? = some (.cells (entCells k e' bv') 25 (0, 0))) (ho : w2.ownsRow (w.heap.size + 4) 5 1 bv' e'.by_.length (u8s e'.by_)) (hb : Below w.heap.size w w2) : EnAt k fs ws w b1 b2 b3 (i + 1) e' bv' w2 := by
  have hd := numsLeft_drop fs i hlt
  have hn := h.nums
  obtain ⟨n1, n2⟩ := enStep_nums _ _ _ _ h9 (by omega) h.ch hs
  refine ⟨hlt, ?_, hk.trans h.kind, h1.trans h.res, h2, h3.trans h.ptr, ho, hb, by omega, n2⟩
  rw [fs_get fs i hlt, strL_get ws i (by omega), enRun_snoc _ _ _ _ _ (by simp [strL]; omega), h.run]
  exact hs
theorem enStep_num_none (f : Nat) (l : ByteArray) (h8 : ¬ f = 8) (h9 : ¬ f = 9) (hn : numS l.data.toList = none) (e : EnSt) : enStep f l.data.toList e = .inl 154 := by
  unfold enStep; rw [if_neg h8, if_neg h9, hn]
theorem enStep_num_some (f n : Nat) (l : ByteArray) (h8 : ¬ f = 8) (h9 : ¬ f = 9) (hn : numS l.data.toList = some n) (e : EnSt) : enStep f l.data.toList e = .inr (enPut f n { e with wide := e.wide || (decide (n < lows.getD f 0) || decide (mosts.getD f 0 < n)) }) := by
  unfold enStep; rw [if_neg h8, if_neg h9, hn]
theorem enStep_hex_none (l : ByteArray) (hn : hexS l.data.toList = none) (e : EnSt) : enStep 9 l.data.toList e = .inl 156 := by
  unfold enStep; rw [if_neg (by decide), if_pos rfl, hn]
theorem enStep_hex_some (l : ByteArray) (b : List Nat) (hn : hexS l.data.toList = some b) (e : EnSt) : enStep 9 l.data.toList e = .inr { e with by_ := b, wide := e.wide || decide (64 < b.length) } := by
  unfold enStep; rw [if_neg (by decide), if_pos rfl, hn]
/-- A NUMBER IS PUT. -/
theorem EnAt.put {k : Nat} {fs : List Nat} {ws : List ByteArray} {w wr w1 : World} {b1 b2 b3 i n j : Nat} {e e' : EnSt} {bv : Value} (h : EnAt k fs ws w b1 b2 b3 i e bv wr) (hl : ws.length = fs.length) (hlt : i < fs.length) (h9 : fs.getD i 0 ≤ 9)
    (H1 : w.heap.size + 1 = b1) (H2 : w.heap.size + 1 + 1 = b2) (H3 : w.heap.size + 1 + 1 + 1 = b3) (hs : enStep (fs.getD i 0) (ws.getD i ByteArray.empty).data.toList e = .inr e') (hb : Below wr.heap.size wr w1)
    (hc : entCells k e' bv = (entCells k e bv).setIfInBounds j (.int .i64 (n : Int))) (hy : e'.by_ = e.by_) : EnAt k fs ws w b1 b2 b3 (i + 1) e' bv (w1.setCell ⟨b2, j, none⟩ (.int .i64 (n : Int))) := by
  have k1 := (Array.getElem?_eq_some_iff.1 h.res).1
  have k2 := (Array.getElem?_eq_some_iff.1 h.ent).1
  have k3 := (Array.getElem?_eq_some_iff.1 h.ptr).1
  have k4 := (Array.getElem?_eq_some_iff.1 h.kind).1
  have hb' : Below w.heap.size w w1 := h.below.trans (hb.mono h.below.size)
  refine h.next hl hlt h9 hs ?_ ?_ ?_ ?_ ?_ (hb'.setCell (by show w.heap.size ≤ b2; omega) _)
  · rw [heap_set_other (by omega), hb.block _ k4]
  · rw [heap_set_other (by omega), hb.block _ k1]
  · rw [heap_set_other (by omega), hb.block _ k3]
  · rw [hc]; exact heap_set_same ((hb.block _ k2).trans h.ent)
  · rw [hy]; exact own_set (own_below h.own hb) (by omega)
/-- BYTES ARE PUT. -/
theorem EnAt.hex {k : Nat} {fs : List Nat} {ws : List ByteArray} {w wr w1 : World} {b1 b2 b3 i : Nat} {e e' : EnSt} {bv bv' : Value} (h : EnAt k fs ws w b1 b2 b3 i e bv wr) (hl : ws.length = fs.length) (hlt : i < fs.length) (h9 : fs.getD i 0 ≤ 9)
    (H1 : w.heap.size + 1 = b1) (H2 : w.heap.size + 1 + 1 = b2) (H3 : w.heap.size + 1 + 1 + 1 = b3) (hs : enStep (fs.getD i 0) (ws.getD i ByteArray.empty).data.toList e = .inr e') (hb : Below wr.heap.size wr w1)
    (hc : entCells k e' bv' = (entCells k e bv).setIfInBounds 6 bv') (hy : w1.ownsRow wr.heap.size 5 1 bv' e'.by_.length (u8s e'.by_)) : EnAt k fs ws w b1 b2 b3 (i + 1) e' bv' (w1.setCell ⟨b2, 6, none⟩ bv') := by
  have k1 := (Array.getElem?_eq_some_iff.1 h.res).1
  have k2 := (Array.getElem?_eq_some_iff.1 h.ent).1
  have k3 := (Array.getElem?_eq_some_iff.1 h.ptr).1
  have k4 := (Array.getElem?_eq_some_iff.1 h.kind).1
  have hb' : Below w.heap.size w w1 := h.below.trans (hb.mono h.below.size)
  refine h.next hl hlt h9 hs ?_ ?_ ?_ ?_ ?_ (hb'.setCell (by show w.heap.size ≤ b2; omega) _)
  · rw [heap_set_other (by omega), hb.block _ k4]
  · rw [heap_set_other (by omega), hb.block _ k1]
  · rw [heap_set_other (by omega), hb.block _ k3]
  · rw [hc]; exact heap_set_same ((hb.block _ k2).trans h.ent)
  · exact own_set (own_mono hy (by omega)) (by omega)
theorem own_form {w : World} {base : Nat} {e : TypeId} {size : Nat} {v : Value} {n : Nat} {xs : List Value} (h : w.ownsRow base e size v n xs) : ∃ A cap, v = .slice A n cap := by
  obtain ⟨h1, h2⟩ := h
  rcases h2 with h2 | ⟨g, cap, cur, a, _⟩
  · exact ⟨none, 0, by rw [h2.1, h2.2]⟩
  · exact ⟨_, _, a⟩
theorem enPut_wide (f n : Nat) (e : EnSt) (h : 1 < f) (hn : e.nums ≤ 2) : enPut f n e = if e.nums = 0 then { e with a := n, nums := 1 } else if e.nums = 1 then { e with b := n, nums := 2 } else { e with c := n, nums := 3 } := by
  unfold enPut; rw [if_neg (by omega)]
theorem size_one (l : ByteArray) (h : l.size = 1) : l.data.toList = [l[0]] := by
  have := take_snoc l 0 (by omega)
  rw [List.take_of_length_le (by simpa using Nat.le_of_eq h)] at this
  simpa using this
theorem enStep_letter (l : ByteArray) (h : l.size = 1) (e : EnSt) : enStep 8 l.data.toList e = .inr { e with ch := l[0].toNat, wide := e.wide || (decide (l[0].toNat < 32) || decide (126 < l[0].toNat)) } := by
  unfold enStep; rw [if_pos rfl, size_one l h]
theorem enStep_letter_bad (l : ByteArray) (h : ¬ l.size = 1) (e : EnSt) : enStep 8 l.data.toList e = .inl 154 := by
  unfold enStep; rw [if_pos rfl]
  split
  · rename_i c hc
    exact absurd (by have := congrArg List.length hc; simpa using this) h
  · rfl

set_option maxRecDepth 100000 in
set_option maxHeartbeats 2000000 in
/-- as many words as forms, at least one -/
theorem entry_run (k : Nat) (bf of bw ow : Nat) (cF cW : Nat) (fs : List Nat) (ws : List ByteArray) (w : World) (hl : ws.length = fs.length) (l1 : fs.length ≤ 4294967296) (hbf : bf < w.heap.size) (hbw : bw < w.heap.size)
    (hf : ∀ j, j < fs.length → w.cell? ⟨bf, of + j, none⟩ = some (.int .i64 ((fs.getD j 0 : Nat) : Int))) (hw : ∀ j, j < ws.length → w.cell? ⟨bw, ow + j, none⟩ = some (.string (ws.getD j ByteArray.empty))) (hn : numsLeft fs ≤ 3) (h9 : ∀ f, f ∈ fs → f ≤ 9) (hz : ∀ j, (ws.getD j ByteArray.empty).size ≤ 1099511627776)
    (hg1 : ∀ f, f < 8 → w.cell? ⟨1, f, none⟩ = some (.int .i64 (lows.getD f 0 : Nat))) (hg2 : ∀ f, f < 8 → w.cell? ⟨2, f, none⟩ = some (.int .i64 (mosts.getD f 0 : Nat))) :
    Calls Tryd.prog 21 #[.int .i64 (k : Int), .slice (some ⟨bf, of, none⟩) fs.length cF, .slice (some ⟨bw, ow, none⟩) ws.length cW] w fun e w' => EntRet w.heap.size w (entryS k fs (strL ws)) e w' := by
  have heq : ((ws.length : Int) != (fs.length : Int)) = false := by rw [bne_eq_false_iff_eq]; omega
  have l2 : ws.length ≤ 4294967296 := by omega
  have HL := Lib.hid hl
  have HF := Lib.hid hf
  have HW := Lib.hid hw
  have HN := Lib.hid hn
  have HG : Hid (∀ j, j < fs.length → fs.getD j 0 ≤ 9) := Lib.hid fun j hj => h9 _ (by rw [List.getD_eq_getElem?_getD, List.getElem?_eq_getElem hj]; exact List.getElem_mem _)
  have HZ := Lib.hid hz
  have HL1 := Lib.hid hg1
  have HL2 := Lib.hid hg2
  clear hf hw hl hn h9 hz hg1 hg2
  go_enter Tryd.func21, Tryd.ntmps21
  go_wp2_with fail
  generalize h3 : w.heap.size + 1 + 1 + 1 = b3
  generalize h2 : w.heap.size + 1 + 1 = b2
  generalize h1 : w.heap.size + 1 = b1
  have H1 := Lib.hid h1
  have H2 := Lib.hid h2
  have H3 := Lib.hid h3
  clear h1 h2 h3
  go_loopw [9, 10, 34] (fun vw vn vi wr => ∃ (i : Nat) (e : EnSt) (bv : Value), vi = .int .i64 (i : Int) ∧ vw = .bool e.wide ∧ vn = .slice (some ⟨b3, min e.nums 2, none⟩) (3 - e.nums) (3 - e.nums) ∧ EnAt k fs ws w b1 b2 b3 i e bv wr) (fun _ _ vi _ => fs.length - (intOf vi).toNat)
  case atStart =>
    have h1 := H1.out
    have h2 := H2.out
    have h3 := H3.out
    subst h1 h2 h3
    refine ⟨0, st0, .slice none 0 0, rfl, rfl, rfl, by omega, by simp [enRun], ?_, ?_, ?_, ?_, own_nil0 _ _ _ _, ?_, ?_, by decide⟩
    · exact alloc_old (alloc_old (alloc_old (alloc_at rfl)))
    · exact alloc_old (alloc_old (alloc_at (by simp)))
    · exact alloc_old (alloc_at (by simp))
    · exact alloc_at (by simp)
    · repeat (first | exact Below.refl _ _ | (refine Below.alloc ?_ (by simp <;> omega) _) | (refine Below.setCell ?_ (by simp <;> omega) _))
    · have := HN.out; show 0 + numsLeft fs ≤ 3; omega
  case round =>
    obtain ⟨i, e, bv, rfl, rfl, rfl, hI⟩ := hrel
    have hkc := cell_of_heap (i := 0) hI.kind rfl
    have hb1 := (Array.getElem?_eq_some_iff.1 hI.res).1
    have hb2 := (Array.getElem?_eq_some_iff.1 hI.ent).1
    have hb3 := (Array.getElem?_eq_some_iff.1 hI.ptr).1
    have HI := Lib.hid hI
    by_cases hlt : i < fs.length
    · have hcf : wr.cell? ⟨bf, of + i, none⟩ = some (.int .i64 ((fs.getD i 0 : Nat) : Int)) := by rw [hI.below.cell (by exact hbf)]; exact HF.out i hlt
      have hcw : wr.cell? ⟨bw, ow + i, none⟩ = some (.string (ws.getD i ByteArray.empty)) := by rw [hI.below.cell (by exact hbw)]; exact HW.out i (by have := HL.out; omega)
      have hstop := fun x => hI.stop HL.out hlt (x := x)
      generalize hff : fs.getD i 0 = f at hcf hstop
      generalize hll : ws.getD i ByteArray.empty = l at hcw hstop
      have HS := Lib.hid hstop
      have hlt' : (i : Int) < (fs.length : Int) := by omega
      have hltw : i < ws.length := by have := HL.out; omega
      have hltw' : (i : Int) < (ws.length : Int) := by omega
      clear hI hstop
      have hfr : ∀ j, wr.frozen? ⟨b2, j, none⟩ = false := fun j => frozen_of_heap HI.out.ent
      have hcell : ∀ j v, (entCells k e bv)[j]? = some v → wr.cell? ⟨b2, j, none⟩ = some v := fun j v hv => cell_of_heap HI.out.ent hv
      have HC := Lib.hid hcell
      have HR := Lib.hid hfr
      clear hcell hfr
      obtain ⟨site, a, b, c, ch, by_, wide, nums⟩ := e
      by_cases h8 : f = 8
      · subst h8
        by_cases h1 : l.size = 1
        · have h1' : ((l.size : Int) != 1) = false := by rw [h1]; rfl
          have hc5 := HC.out 5 _ rfl
          have hf5 := HR.out 5
          have hst := enStep_letter l h1 ⟨site, a, b, c, ch, by_, wide, nums⟩
          have HST := Lib.hid hst
          clear hst
          have hfin : ∀ wd : Bool, (wide || (decide (l[0].toNat < 32) || decide (126 < l[0].toNat))) = wd →
              EnAt k fs ws w b1 b2 b3 (i + 1) ⟨site, a, b, c, l[0].toNat, by_, wd, nums⟩ bv (wr.setCell ⟨b2, 5, none⟩ (.int .u8 (l[0].toNat : Int))) := by
            intro wd hwd
            have hst := HST.out
            have h1 := H1.out
            have h2 := H2.out
            have h3 := H3.out
            subst hwd
            refine HI.out.next HL.out hlt (HG.out i hlt) (by rw [hff, hll]; exact hst) (heap_set_other (by omega)) (heap_set_other (by omega)) (heap_set_other (by omega)) ?_ ?_ ?_
            · exact heap_set_same HI.out.ent
            · exact own_set HI.out.own (by omega)
            · exact HI.out.below.setCell (by show w.heap.size ≤ b2; omega) _
          have HFIN := Lib.hid hfin
          clear hfin
          have hrd : ∀ wd : Bool, (wide || (decide (l[0].toNat < 32) || decide (126 < l[0].toNat))) = wd →
              (∃ (i_1 : Nat) (e_1 : EnSt) (bv_1 : Value), Value.int IntKind.i64 ((i : Int) + 1) = Value.int IntKind.i64 (i_1 : Int) ∧ Value.bool wd = Value.bool e_1.wide ∧
                Value.slice (some ⟨b3, min nums 2, none⟩) (3 - nums) (3 - nums) = Value.slice (some ⟨b3, min e_1.nums 2, none⟩) (3 - e_1.nums) (3 - e_1.nums) ∧ EnAt k fs ws w b1 b2 b3 i_1 e_1 bv_1 (wr.setCell ⟨b2, 5, none⟩ (.int .u8 (l[0].toNat : Int)))) ∧
              fs.length - (intOf (Value.int IntKind.i64 ((i : Int) + 1))).toNat < fs.length - (intOf (Value.int IntKind.i64 (i : Int))).toNat := fun wd hwd =>
            ⟨⟨i + 1, _, bv, by push_cast; rfl, rfl, rfl, HFIN.out wd hwd⟩, by simp [intOf]; omega⟩
          have HRD := Lib.hid hrd
          clear hrd
          cases wide
          · by_cases hlo : (l[0].toNat : Int) < 32
            · go_wp2_with fail
              exact HRD.out _ (by simp; omega)
            · by_cases hhi : (126 : Int) < (l[0].toNat : Int)
              · go_wp2_with fail
                exact HRD.out _ (by simp; omega)
              · go_wp2_with fail
                exact HRD.out _ (by simp; omega)
          · go_wp2_with fail
            exact HRD.out _ (by simp)
        · have h1' : ((l.size : Int) != 1) = true := by rw [bne_iff_ne]; omega
          have hres1 := fun o => (Below.heap_alloc wr o b1 hb1).trans HI.out.res
          go_wp2_with (first | (go_at_call 42; refine (bad_calls k 154 w.heap.size _ hkc).mono ?_; rintro r w' ⟨rfl, rfl⟩) | (refine wpList_store_block rfl 25 _ _ rfl b1 _ zeroCells8 _ rfl rfl (hres1 _) rfl (by kernel_rfl) rfl ?_; intro w2 hw2))
          refine bodyPost_ret (v := .agg #[.int .i64 (k : Int), .int .i64 0, .int .i64 0, .int .i64 0, .int .i64 0, .int .u8 0, .slice none 0 0, .int .i64 154]) (results_cell Tryd.results21 rfl hw2.at_ (by kernel_rfl) (by kernel_rfl)) rfl ?_
          rw [HS.out 154 (enStep_letter_bad l h1 _)]
          have h1 := H1.out
          have hs := HI.out.below.size
          exact EntRet.bad k 154 ((HI.out.below.alloc hs _).trans (hw2.below (by omega)))
      · by_cases h9 : f = 9
        · subst h9
          have hsz := HZ.out i
          rw [hll] at hsz
          cases hn : hexS l.data.toList with
          | none =>
            have hbad := HS.out 156 (enStep_hex_none l hn _)
            have HB := Lib.hid hbad
            have HN0 := Lib.hid hn
            clear hbad hn
            go_wp2_with (first | (go_at_call 43; refine (bytes_calls l wr hsz).mono ?_; rintro r w1 ⟨v, hr, hov, hb4⟩; rw [HN0.out] at hr hov; obtain rfl := hr) | (go_at_call 42; refine (bad_calls k 156 w.heap.size _ (by rw [hb4.cell (World.block_lt_of_cell? wr _ hkc)]; exact hkc)).mono ?_; rintro r w' ⟨rfl, rfl⟩) | (refine wpList_store_block rfl 25 _ _ rfl b1 _ zeroCells8 _ rfl rfl (alloc_old ((hb4.block b1 hb1).trans HI.out.res)) rfl (by kernel_rfl) rfl ?_; intro w2 hw2))
            refine bodyPost_ret (v := .agg #[.int .i64 (k : Int), .int .i64 0, .int .i64 0, .int .i64 0, .int .i64 0, .int .u8 0, .slice none 0 0, .int .i64 156]) (results_cell Tryd.results21 rfl hw2.at_ (by kernel_rfl) (by kernel_rfl)) rfl ?_
            rw [HB.out]
            have h1 := H1.out
            have hs := HI.out.below.size
            exact EntRet.bad k 156 (((HI.out.below.trans (hb4.mono hs)).alloc (Nat.le_trans hs hb4.size) _).trans (hw2.below (by omega)))
          | some bs =>
            have HN0 := Lib.hid hn
            have HST := Lib.hid (enStep_hex_some l bs hn ⟨site, a, b, c, ch, by_, wide, nums⟩)
            clear hn
            have hrd : ∀ (wd : Bool) (w1 : World) (A : Option Addr) (cap : Nat) (hb4 : Below wr.heap.size wr w1) (hov : w1.ownsRow wr.heap.size 5 1 (.slice A bs.length cap) bs.length (u8s bs)), (wide || decide (64 < bs.length)) = wd →
                (∃ (i_1 : Nat) (e_1 : EnSt) (bv_1 : Value), Value.int IntKind.i64 ((i : Int) + 1) = Value.int IntKind.i64 (i_1 : Int) ∧ Value.bool wd = Value.bool e_1.wide ∧
                  Value.slice (some ⟨b3, min nums 2, none⟩) (3 - nums) (3 - nums) = Value.slice (some ⟨b3, min e_1.nums 2, none⟩) (3 - e_1.nums) (3 - e_1.nums) ∧ EnAt k fs ws w b1 b2 b3 i_1 e_1 bv_1 (w1.setCell ⟨b2, 6, none⟩ (.slice A bs.length cap))) ∧
                fs.length - (intOf (Value.int IntKind.i64 ((i : Int) + 1))).toNat < fs.length - (intOf (Value.int IntKind.i64 (i : Int))).toNat := fun wd w1 A cap hb4 hov hwd =>
              ⟨⟨i + 1, ⟨site, a, b, c, ch, bs, wd, nums⟩, _, by push_cast; rfl, rfl, rfl, HI.out.hex HL.out hlt (HG.out i hlt) H1.out H2.out H3.out (by rw [hff, hll, HST.out, ← hwd]) hb4 rfl hov⟩, by simp [intOf]; omega⟩
            have HRD := Lib.hid hrd
            clear hrd
            cases wide
            · by_cases hhi : (64 : Int) < (bs.length : Int)
              · go_wp2_with (go_at_call 43; refine (bytes_calls l wr hsz).mono ?_; rintro r w1 ⟨v, hr, hov, hb4⟩; rw [HN0.out] at hr hov; simp only [Option.getD_some, Option.isSome_some] at hr hov; obtain ⟨A, cap, rfl⟩ := own_form hov; obtain rfl := hr; have hx1 := (hb4.cell (p := ⟨b2, 6, none⟩) hb2).trans (HC.out 6 _ rfl); have hx2 := frozen_of_heap (i := 6) ((hb4.block b2 hb2).trans HI.out.ent); have HB4 := Lib.hid hb4; have HOV := Lib.hid hov; clear hb4 hov)
                exact HRD.out _ _ _ _ (by assumption) (by assumption) (by first | (simp; done) | (simp; omega))
              · go_wp2_with (go_at_call 43; refine (bytes_calls l wr hsz).mono ?_; rintro r w1 ⟨v, hr, hov, hb4⟩; rw [HN0.out] at hr hov; simp only [Option.getD_some, Option.isSome_some] at hr hov; obtain ⟨A, cap, rfl⟩ := own_form hov; obtain rfl := hr; have hx1 := (hb4.cell (p := ⟨b2, 6, none⟩) hb2).trans (HC.out 6 _ rfl); have hx2 := frozen_of_heap (i := 6) ((hb4.block b2 hb2).trans HI.out.ent); have HB4 := Lib.hid hb4; have HOV := Lib.hid hov; clear hb4 hov)
                exact HRD.out _ _ _ _ (by assumption) (by assumption) (by first | (simp; done) | (simp; omega))
            · go_wp2_with (go_at_call 43; refine (bytes_calls l wr hsz).mono ?_; rintro r w1 ⟨v, hr, hov, hb4⟩; rw [HN0.out] at hr hov; simp only [Option.getD_some, Option.isSome_some] at hr hov; obtain ⟨A, cap, rfl⟩ := own_form hov; obtain rfl := hr; have hx1 := (hb4.cell (p := ⟨b2, 6, none⟩) hb2).trans (HC.out 6 _ rfl); have hx2 := frozen_of_heap (i := 6) ((hb4.block b2 hb2).trans HI.out.ent); have HB4 := Lib.hid hb4; have HOV := Lib.hid hov; clear hb4 hov)
              exact HRD.out _ _ _ _ (by assumption) (by assumption) (by first | (simp; done) | (simp; omega))
        · have h9' : (f : Int) ≤ 7 := by have := HG.out i hlt; omega
          have h8' : ((f : Int) == 8) = false := by rw [beq_eq_false_iff_ne]; omega
          have h9'' : ((f : Int) == 9) = false := by rw [beq_eq_false_iff_ne]; omega
          have hsz := HZ.out i
          rw [hll] at hsz
          cases hn : numS l.data.toList with
          | none =>
            have hbad := HS.out 154 (enStep_num_none f l h8 h9 hn _)
            have HB := Lib.hid hbad
            have HN0 := Lib.hid hn
            clear hbad hn
            go_wp2_with (first | (go_at_call 44; refine (number_calls l wr (by omega)).mono ?_; rintro r w1 ⟨hr, hb4⟩; unfold NumRet at hr; rw [HN0.out] at hr; obtain rfl := hr) | (go_at_call 42; refine (bad_calls k 154 w.heap.size _ (by rw [hb4.cell (World.block_lt_of_cell? wr _ hkc)]; exact hkc)).mono ?_; rintro r w' ⟨rfl, rfl⟩) | (refine wpList_store_block rfl 25 _ _ rfl b1 _ zeroCells8 _ rfl rfl (alloc_old ((hb4.block b1 hb1).trans HI.out.res)) rfl (by kernel_rfl) rfl ?_; intro w2 hw2))
            refine bodyPost_ret (v := .agg #[.int .i64 (k : Int), .int .i64 0, .int .i64 0, .int .i64 0, .int .i64 0, .int .u8 0, .slice none 0 0, .int .i64 154]) (results_cell Tryd.results21 rfl hw2.at_ (by kernel_rfl) (by kernel_rfl)) rfl ?_
            rw [HB.out]
            have h1 := H1.out
            have hs := HI.out.below.size
            exact EntRet.bad k 154 (((HI.out.below.trans (hb4.mono hs)).alloc (Nat.le_trans hs hb4.size) _).trans (hw2.below (by omega)))
          | some n =>
            have HN0 := Lib.hid hn
            have HST := Lib.hid (enStep_num_some f n l h8 h9 hn ⟨site, a, b, c, ch, by_, wide, nums⟩)
            have f7 : f < 8 := by omega
            have hg1 := HL1.out f f7
            have hg2 := HL2.out f f7
            have l1s := World.block_lt_of_cell? w _ hg1
            have l2s := World.block_lt_of_cell? w _ hg2
            have s2 : b2 ≠ 1 := by have h2 := H2.out; change 1 < _ at l1s; omega
            have s3 : b2 ≠ 2 := by have h2 := H2.out; change 2 < _ at l2s; omega
            rw [← HI.out.below.cell l1s] at hg1
            rw [← HI.out.below.cell l2s] at hg2
            generalize hlo : lows.getD f 0 = lo at hg1 HST
            generalize hmo : mosts.getD f 0 = mo at hg2 HST
            have HLO := Lib.hid hlo
            have HMO := Lib.hid hmo
            clear hn hlo hmo l1s l2s
            have hsame : ∀ (w1 : World) (hb4 : Below wr.heap.size wr w1) (j : Nat) (v : Value), (w1.setCell ⟨b2, j, none⟩ v).cell? ⟨1, f, none⟩ = some (.int .i64 (lo : Int)) ∧ (w1.setCell ⟨b2, j, none⟩ v).cell? ⟨2, f, none⟩ = some (.int .i64 (mo : Int)) := by
              intro w1 hb4 j v
              constructor
              · rw [World.cell?_of_block (w := w1) (heap_set_other (Ne.symm s2)), hb4.cell (World.block_lt_of_cell? wr _ hg1)]; exact hg1
              · rw [World.cell?_of_block (w := w1) (heap_set_other (Ne.symm s3)), hb4.cell (World.block_lt_of_cell? wr _ hg2)]; exact hg2
            have HSAME := Lib.hid hsame
            have hmid : ∀ (w1 : World) (hb4 : Below wr.heap.size wr w1) (j : Nat), w1.cell? ⟨b2, j, none⟩ = wr.cell? ⟨b2, j, none⟩ ∧ w1.frozen? ⟨b2, j, none⟩ = false ∧ w1.cell? ⟨b3, j, none⟩ = wr.cell? ⟨b3, j, none⟩ := by
              intro w1 hb4 j
              exact ⟨hb4.cell (by exact hb2), frozen_of_heap ((hb4.block b2 hb2).trans HI.out.ent), hb4.cell (by exact hb3)⟩
            have HMID := Lib.hid hmid
            have hnn := numsLeft_drop fs i hlt
            rw [hff] at hnn
            have hnums := HI.out.nums
            have HNUMS : Hid (nums + (if 2 ≤ f ∧ f < 8 then 1 else 0) ≤ 3) := Lib.hid (by change nums + _ ≤ 3 at hnums; omega)
            clear hsame hmid hg1 hg2 s2 s3 hnn hnums
            by_cases hf1 : f ≤ 1
            · have hf1' : (f : Int) ≤ 1 := by omega
              have hrd : ∀ (wd : Bool) (w1 : World) (hb4 : Below wr.heap.size wr w1), (wide || (decide (n < lo) || decide (mo < n))) = wd →
                  (∃ (i_1 : Nat) (e_1 : EnSt) (bv_1 : Value), Value.int IntKind.i64 ((i : Int) + 1) = Value.int IntKind.i64 (i_1 : Int) ∧ Value.bool wd = Value.bool e_1.wide ∧
                    Value.slice (some ⟨b3, min nums 2, none⟩) (3 - nums) (3 - nums) = Value.slice (some ⟨b3, min e_1.nums 2, none⟩) (3 - e_1.nums) (3 - e_1.nums) ∧ EnAt k fs ws w b1 b2 b3 i_1 e_1 bv_1 (w1.setCell ⟨b2, 1, none⟩ (.int .i64 (n : Int)))) ∧
                  fs.length - (intOf (Value.int IntKind.i64 ((i : Int) + 1))).toNat < fs.length - (intOf (Value.int IntKind.i64 (i : Int))).toNat := fun wd w1 hb4 hwd =>
                ⟨⟨i + 1, ⟨n, a, b, c, ch, by_, wd, nums⟩, bv, by push_cast; rfl, rfl, rfl, HI.out.put (j := 1) HL.out hlt (HG.out i hlt) H1.out H2.out H3.out (by rw [hff, hll, HST.out]; unfold enPut; rw [if_pos hf1, ← hwd]) hb4 rfl rfl⟩, by simp [intOf]; omega⟩
              have HRD := Lib.hid hrd
              clear hrd
              cases wide
              · by_cases hlo : (n : Int) < (lo : Int)
                · go_wp2_with (first | (go_at_call 44; refine (number_calls l wr (by omega)).mono ?_; rintro r w1 ⟨hr, hb4⟩; unfold NumRet at hr; rw [HN0.out] at hr; obtain rfl := hr; have hx1 := (HMID.out w1 hb4 1).1.trans (HC.out 1 _ rfl); have hx2 := (HMID.out w1 hb4 1).2.1; have hx3 := (HSAME.out w1 hb4 1 (.int .i64 (n : Int))).1; have hx4 := (HSAME.out w1 hb4 1 (.int .i64 (n : Int))).2; have HB4 := Lib.hid hb4; clear hb4))
                  exact HRD.out _ _ (by assumption) (by first | (simp; done) | (simp; omega))
                · by_cases hhi : (mo : Int) < (n : Int)
                  · go_wp2_with (first | (go_at_call 44; refine (number_calls l wr (by omega)).mono ?_; rintro r w1 ⟨hr, hb4⟩; unfold NumRet at hr; rw [HN0.out] at hr; obtain rfl := hr; have hx1 := (HMID.out w1 hb4 1).1.trans (HC.out 1 _ rfl); have hx2 := (HMID.out w1 hb4 1).2.1; have hx3 := (HSAME.out w1 hb4 1 (.int .i64 (n : Int))).1; have hx4 := (HSAME.out w1 hb4 1 (.int .i64 (n : Int))).2; have HB4 := Lib.hid hb4; clear hb4))
                    exact HRD.out _ _ (by assumption) (by first | (simp; done) | (simp; omega))
                  · go_wp2_with (first | (go_at_call 44; refine (number_calls l wr (by omega)).mono ?_; rintro r w1 ⟨hr, hb4⟩; unfold NumRet at hr; rw [HN0.out] at hr; obtain rfl := hr; have hx1 := (HMID.out w1 hb4 1).1.trans (HC.out 1 _ rfl); have hx2 := (HMID.out w1 hb4 1).2.1; have hx3 := (HSAME.out w1 hb4 1 (.int .i64 (n : Int))).1; have hx4 := (HSAME.out w1 hb4 1 (.int .i64 (n : Int))).2; have HB4 := Lib.hid hb4; clear hb4))
                    exact HRD.out _ _ (by assumption) (by first | (simp; done) | (simp; omega))
              · go_wp2_with (first | (go_at_call 44; refine (number_calls l wr (by omega)).mono ?_; rintro r w1 ⟨hr, hb4⟩; unfold NumRet at hr; rw [HN0.out] at hr; obtain rfl := hr; have hx1 := (HMID.out w1 hb4 1).1.trans (HC.out 1 _ rfl); have hx2 := (HMID.out w1 hb4 1).2.1; have hx3 := (HSAME.out w1 hb4 1 (.int .i64 (n : Int))).1; have hx4 := (HSAME.out w1 hb4 1 (.int .i64 (n : Int))).2; have HB4 := Lib.hid hb4; clear hb4))
                exact HRD.out _ _ (by assumption) (by simp)
            · have hf1' : (2 : Int) ≤ f := by omega
              have hnum2 : nums ≤ 2 := by have := HNUMS.out; rw [if_pos (by omega)] at this; omega
              rcases (by omega : nums = 0 ∨ nums = 1 ∨ nums = 2) with rfl | rfl | rfl
              · have hp0 : ∀ w1, Below wr.heap.size wr w1 → w1.cell? ⟨b3, 0, none⟩ = some (.pointer (some ⟨b2, 2, none⟩)) := fun w1 hb4 => (HMID.out w1 hb4 0).2.2.trans (cell_of_heap HI.out.ptr rfl)
                have HP0 := Lib.hid hp0
                clear hp0
                have hrd : ∀ (wd : Bool) (w1 : World) (hb4 : Below wr.heap.size wr w1), (wide || (decide (n < lo) || decide (mo < n))) = wd →
                    (∃ (i_1 : Nat) (e_1 : EnSt) (bv_1 : Value), Value.int IntKind.i64 ((i : Int) + 1) = Value.int IntKind.i64 (i_1 : Int) ∧ Value.bool wd = Value.bool e_1.wide ∧
                      Value.slice (some ⟨b3, 1, none⟩) 2 2 = Value.slice (some ⟨b3, min e_1.nums 2, none⟩) (3 - e_1.nums) (3 - e_1.nums) ∧ EnAt k fs ws w b1 b2 b3 i_1 e_1 bv_1 ((w1.setCell ⟨b2, 2, none⟩ (.int .i64 (n : Int))).drew)) ∧
                    fs.length - (intOf (Value.int IntKind.i64 ((i : Int) + 1))).toNat < fs.length - (intOf (Value.int IntKind.i64 (i : Int))).toNat := fun wd w1 hb4 hwd =>
                  ⟨⟨i + 1, ⟨site, n, b, c, ch, by_, wd, 1⟩, bv, by push_cast; rfl, rfl, rfl, HI.out.put (j := 2) HL.out hlt (HG.out i hlt) H1.out H2.out H3.out (by rw [hff, hll, HST.out, enPut_wide _ _ _ (by omega) (by simp), ← hwd]; rfl) hb4.drew rfl rfl⟩, by simp [intOf]; omega⟩
                have HRD := Lib.hid hrd
                clear hrd
                cases wide
                · by_cases hlo : (n : Int) < (lo : Int)
                  · go_wp2_with (go_at_call 44; refine (number_calls l wr (by omega)).mono ?_; rintro r w1 ⟨hr, hb4⟩; unfold NumRet at hr; rw [HN0.out] at hr; obtain rfl := hr; have hx1 := (HMID.out w1 hb4 2).1.trans (HC.out 2 _ rfl); have hx2 := (HMID.out w1 hb4 2).2.1; have hx3 := (HSAME.out w1 hb4 2 (.int .i64 (n : Int))).1; have hx4 := (HSAME.out w1 hb4 2 (.int .i64 (n : Int))).2; have hx5 := HP0.out w1 hb4; have HB4 := Lib.hid hb4; clear hb4)
                    go_region
                    all_goals go_wp2
                    all_goals exact HRD.out _ _ (by assumption) (by first | (simp; done) | (simp; omega))
                  · by_cases hhi : (mo : Int) < (n : Int)
                    · go_wp2_with (go_at_call 44; refine (number_calls l wr (by omega)).mono ?_; rintro r w1 ⟨hr, hb4⟩; unfold NumRet at hr; rw [HN0.out] at hr; obtain rfl := hr; have hx1 := (HMID.out w1 hb4 2).1.trans (HC.out 2 _ rfl); have hx2 := (HMID.out w1 hb4 2).2.1; have hx3 := (HSAME.out w1 hb4 2 (.int .i64 (n : Int))).1; have hx4 := (HSAME.out w1 hb4 2 (.int .i64 (n : Int))).2; have hx5 := HP0.out w1 hb4; have HB4 := Lib.hid hb4; clear hb4)
                      go_region
                      all_goals go_wp2
                      all_goals exact HRD.out _ _ (by assumption) (by first | (simp; done) | (simp; omega))
                    · go_wp2_with (go_at_call 44; refine (number_calls l wr (by omega)).mono ?_; rintro r w1 ⟨hr, hb4⟩; unfold NumRet at hr; rw [HN0.out] at hr; obtain rfl := hr; have hx1 := (HMID.out w1 hb4 2).1.trans (HC.out 2 _ rfl); have hx2 := (HMID.out w1 hb4 2).2.1; have hx3 := (HSAME.out w1 hb4 2 (.int .i64 (n : Int))).1; have hx4 := (HSAME.out w1 hb4 2 (.int .i64 (n : Int))).2; have hx5 := HP0.out w1 hb4; have HB4 := Lib.hid hb4; clear hb4)
                      go_region
                      all_goals go_wp2
                      all_goals exact HRD.out _ _ (by assumption) (by first | (simp; done) | (simp; omega))
                · go_wp2_with (go_at_call 44; refine (number_calls l wr (by omega)).mono ?_; rintro r w1 ⟨hr, hb4⟩; unfold NumRet at hr; rw [HN0.out] at hr; obtain rfl := hr; have hx1 := (HMID.out w1 hb4 2).1.trans (HC.out 2 _ rfl); have hx2 := (HMID.out w1 hb4 2).2.1; have hx3 := (HSAME.out w1 hb4 2 (.int .i64 (n : Int))).1; have hx4 := (HSAME.out w1 hb4 2 (.int .i64 (n : Int))).2; have hx5 := HP0.out w1 hb4; have HB4 := Lib.hid hb4; clear hb4)
                  go_region
                  all_goals go_wp2
                  all_goals exact HRD.out _ _ (by assumption) (by first | (simp; done) | (simp; omega))
              · have hp0 : ∀ w1, Below wr.heap.size wr w1 → w1.cell? ⟨b3, 1, none⟩ = some (.pointer (some ⟨b2, 3, none⟩)) := fun w1 hb4 => (HMID.out w1 hb4 1).2.2.trans (cell_of_heap HI.out.ptr rfl)
                have HP0 := Lib.hid hp0
                clear hp0
                have hrd : ∀ (wd : Bool) (w1 : World) (hb4 : Below wr.heap.size wr w1), (wide || (decide (n < lo) || decide (mo < n))) = wd →
                    (∃ (i_1 : Nat) (e_1 : EnSt) (bv_1 : Value), Value.int IntKind.i64 ((i : Int) + 1) = Value.int IntKind.i64 (i_1 : Int) ∧ Value.bool wd = Value.bool e_1.wide ∧
                      Value.slice (some ⟨b3, 2, none⟩) 1 1 = Value.slice (some ⟨b3, min e_1.nums 2, none⟩) (3 - e_1.nums) (3 - e_1.nums) ∧ EnAt k fs ws w b1 b2 b3 i_1 e_1 bv_1 ((w1.setCell ⟨b2, 3, none⟩ (.int .i64 (n : Int))).drew)) ∧
                    fs.length - (intOf (Value.int IntKind.i64 ((i : Int) + 1))).toNat < fs.length - (intOf (Value.int IntKind.i64 (i : Int))).toNat := fun wd w1 hb4 hwd =>
                  ⟨⟨i + 1, ⟨site, a, n, c, ch, by_, wd, 2⟩, bv, by push_cast; rfl, rfl, rfl, HI.out.put (j := 3) HL.out hlt (HG.out i hlt) H1.out H2.out H3.out (by rw [hff, hll, HST.out, enPut_wide _ _ _ (by omega) (by simp), ← hwd]; rfl) hb4.drew rfl rfl⟩, by simp [intOf]; omega⟩
                have HRD := Lib.hid hrd
                clear hrd
                cases wide
                · by_cases hlo : (n : Int) < (lo : Int)
                  · go_wp2_with (go_at_call 44; refine (number_calls l wr (by omega)).mono ?_; rintro r w1 ⟨hr, hb4⟩; unfold NumRet at hr; rw [HN0.out] at hr; obtain rfl := hr; have hx1 := (HMID.out w1 hb4 3).1.trans (HC.out 3 _ rfl); have hx2 := (HMID.out w1 hb4 3).2.1; have hx3 := (HSAME.out w1 hb4 3 (.int .i64 (n : Int))).1; have hx4 := (HSAME.out w1 hb4 3 (.int .i64 (n : Int))).2; have hx5 := HP0.out w1 hb4; have HB4 := Lib.hid hb4; clear hb4)
                    go_region
                    all_goals go_wp2
                    all_goals exact HRD.out _ _ (by assumption) (by first | (simp; done) | (simp; omega))
                  · by_cases hhi : (mo : Int) < (n : Int)
                    · go_wp2_with (go_at_call 44; refine (number_calls l wr (by omega)).mono ?_; rintro r w1 ⟨hr, hb4⟩; unfold NumRet at hr; rw [HN0.out] at hr; obtain rfl := hr; have hx1 := (HMID.out w1 hb4 3).1.trans (HC.out 3 _ rfl); have hx2 := (HMID.out w1 hb4 3).2.1; have hx3 := (HSAME.out w1 hb4 3 (.int .i64 (n : Int))).1; have hx4 := (HSAME.out w1 hb4 3 (.int .i64 (n : Int))).2; have hx5 := HP0.out w1 hb4; have HB4 := Lib.hid hb4; clear hb4)
                      go_region
                      all_goals go_wp2
                      all_goals exact HRD.out _ _ (by assumption) (by first | (simp; done) | (simp; omega))
                    · go_wp2_with (go_at_call 44; refine (number_calls l wr (by omega)).mono ?_; rintro r w1 ⟨hr, hb4⟩; unfold NumRet at hr; rw [HN0.out] at hr; obtain rfl := hr; have hx1 := (HMID.out w1 hb4 3).1.trans (HC.out 3 _ rfl); have hx2 := (HMID.out w1 hb4 3).2.1; have hx3 := (HSAME.out w1 hb4 3 (.int .i64 (n : Int))).1; have hx4 := (HSAME.out w1 hb4 3 (.int .i64 (n : Int))).2; have hx5 := HP0.out w1 hb4; have HB4 := Lib.hid hb4; clear hb4)
                      go_region
                      all_goals go_wp2
                      all_goals exact HRD.out _ _ (by assumption) (by first | (simp; done) | (simp; omega))
                · go_wp2_with (go_at_call 44; refine (number_calls l wr (by omega)).mono ?_; rintro r w1 ⟨hr, hb4⟩; unfold NumRet at hr; rw [HN0.out] at hr; obtain rfl := hr; have hx1 := (HMID.out w1 hb4 3).1.trans (HC.out 3 _ rfl); have hx2 := (HMID.out w1 hb4 3).2.1; have hx3 := (HSAME.out w1 hb4 3 (.int .i64 (n : Int))).1; have hx4 := (HSAME.out w1 hb4 3 (.int .i64 (n : Int))).2; have hx5 := HP0.out w1 hb4; have HB4 := Lib.hid hb4; clear hb4)
                  go_region
                  all_goals go_wp2
                  all_goals exact HRD.out _ _ (by assumption) (by first | (simp; done) | (simp; omega))
              · have hp0 : ∀ w1, Below wr.heap.size wr w1 → w1.cell? ⟨b3, 2, none⟩ = some (.pointer (some ⟨b2, 4, none⟩)) := fun w1 hb4 => (HMID.out w1 hb4 2).2.2.trans (cell_of_heap HI.out.ptr rfl)
                have HP0 := Lib.hid hp0
                clear hp0
                have hrd : ∀ (wd : Bool) (w1 : World) (hb4 : Below wr.heap.size wr w1), (wide || (decide (n < lo) || decide (mo < n))) = wd →
                    (∃ (i_1 : Nat) (e_1 : EnSt) (bv_1 : Value), Value.int IntKind.i64 ((i : Int) + 1) = Value.int IntKind.i64 (i_1 : Int) ∧ Value.bool wd = Value.bool e_1.wide ∧
                      Value.slice (some ⟨b3, 2, none⟩) 0 0 = Value.slice (some ⟨b3, min e_1.nums 2, none⟩) (3 - e_1.nums) (3 - e_1.nums) ∧ EnAt k fs ws w b1 b2 b3 i_1 e_1 bv_1 ((w1.setCell ⟨b2, 4, none⟩ (.int .i64 (n : Int))).drew)) ∧
                    fs.length - (intOf (Value.int IntKind.i64 ((i : Int) + 1))).toNat < fs.length - (intOf (Value.int IntKind.i64 (i : Int))).toNat := fun wd w1 hb4 hwd =>
                  ⟨⟨i + 1, ⟨site, a, b, n, ch, by_, wd, 3⟩, bv, by push_cast; rfl, rfl, rfl, HI.out.put (j := 4) HL.out hlt (HG.out i hlt) H1.out H2.out H3.out (by rw [hff, hll, HST.out, enPut_wide _ _ _ (by omega) (by simp), ← hwd]; rfl) hb4.drew rfl rfl⟩, by simp [intOf]; omega⟩
                have HRD := Lib.hid hrd
                clear hrd
                cases wide
                · by_cases hlo : (n : Int) < (lo : Int)
                  · go_wp2_with (go_at_call 44; refine (number_calls l wr (by omega)).mono ?_; rintro r w1 ⟨hr, hb4⟩; unfold NumRet at hr; rw [HN0.out] at hr; obtain rfl := hr; have hx1 := (HMID.out w1 hb4 4).1.trans (HC.out 4 _ rfl); have hx2 := (HMID.out w1 hb4 4).2.1; have hx3 := (HSAME.out w1 hb4 4 (.int .i64 (n : Int))).1; have hx4 := (HSAME.out w1 hb4 4 (.int .i64 (n : Int))).2; have hx5 := HP0.out w1 hb4; have HB4 := Lib.hid hb4; clear hb4)
                    go_region
                    all_goals go_wp2
                    all_goals exact HRD.out _ _ (by assumption) (by first | (simp; done) | (simp; omega))
                  · by_cases hhi : (mo : Int) < (n : Int)
                    · go_wp2_with (go_at_call 44; refine (number_calls l wr (by omega)).mono ?_; rintro r w1 ⟨hr, hb4⟩; unfold NumRet at hr; rw [HN0.out] at hr; obtain rfl := hr; have hx1 := (HMID.out w1 hb4 4).1.trans (HC.out 4 _ rfl); have hx2 := (HMID.out w1 hb4 4).2.1; have hx3 := (HSAME.out w1 hb4 4 (.int .i64 (n : Int))).1; have hx4 := (HSAME.out w1 hb4 4 (.int .i64 (n : Int))).2; have hx5 := HP0.out w1 hb4; have HB4 := Lib.hid hb4; clear hb4)
                      go_region
                      all_goals go_wp2
                      all_goals exact HRD.out _ _ (by assumption) (by first | (simp; done) | (simp; omega))
                    · go_wp2_with (go_at_call 44; refine (number_calls l wr (by omega)).mono ?_; rintro r w1 ⟨hr, hb4⟩; unfold NumRet at hr; rw [HN0.out] at hr; obtain rfl := hr; have hx1 := (HMID.out w1 hb4 4).1.trans (HC.out 4 _ rfl); have hx2 := (HMID.out w1 hb4 4).2.1; have hx3 := (HSAME.out w1 hb4 4 (.int .i64 (n : Int))).1; have hx4 := (HSAME.out w1 hb4 4 (.int .i64 (n : Int))).2; have hx5 := HP0.out w1 hb4; have HB4 := Lib.hid hb4; clear hb4)
                      go_region
                      all_goals go_wp2
                      all_goals exact HRD.out _ _ (by assumption) (by first | (simp; done) | (simp; omega))
                · go_wp2_with (go_at_call 44; refine (number_calls l wr (by omega)).mono ?_; rintro r w1 ⟨hr, hb4⟩; unfold NumRet at hr; rw [HN0.out] at hr; obtain rfl := hr; have hx1 := (HMID.out w1 hb4 4).1.trans (HC.out 4 _ rfl); have hx2 := (HMID.out w1 hb4 4).2.1; have hx3 := (HSAME.out w1 hb4 4 (.int .i64 (n : Int))).1; have hx4 := (HSAME.out w1 hb4 4 (.int .i64 (n : Int))).2; have hx5 := HP0.out w1 hb4; have HB4 := Lib.hid hb4; clear hb4)
                  go_region
                  all_goals go_wp2
                  all_goals exact HRD.out _ _ (by assumption) (by first | (simp; done) | (simp; omega))
    · have hle := hI.le
      have hI2 := hI
      obtain hi : i = fs.length := by omega
      rw [hi] at hI2
      have HO := Lib.hid (hI2.over HL.out)
      have hres1 := fun o => (Below.heap_alloc wr o b1 hb1).trans hI.res
      clear hI hI2
      have hge : ¬ ((i : Int) < (fs.length : Int)) := by omega
      have hdec : decide ((i : Int) < (fs.length : Int)) = false := decide_eq_false hge
      obtain ⟨site, a, b, c, ch, by_, wide, nums⟩ := e
      cases wide
      · have hent := HI.out.ent
        have hone : (entCells k ⟨site, a, b, c, ch, by_, false, nums⟩ bv).toList.all (·.oneCell') = true := by
          obtain ⟨h1, h2⟩ := HI.out.own
          rcases h2 with h2 | ⟨g, cap, cur, e, _⟩
          · rw [h2.1]; rfl
          · rw [e]; rfl
        go_wp2_with (first | (refine wpList_load_block rfl 25 _ rfl b2 _ _ rfl hent (by kernel_rfl) (by kernel_rfl) ?_) | (refine wpList_store_block rfl 25 _ _ rfl b1 _ zeroCells8 _ rfl rfl HI.out.res rfl (by kernel_rfl) hone ?_; intro w2 hw2))
        refine bodyPost_ret (v := .agg (entCells k ⟨site, a, b, c, ch, by_, false, nums⟩ bv)) (results_cell Tryd.results21 rfl hw2.at_ (by kernel_rfl) (by kernel_rfl)) rfl ?_
        rw [HO.out]
        have h1 := H1.out
        have ho := HI.out.own
        refine ⟨_, rfl, ⟨bv, rfl, ?_⟩, HI.out.below.trans (hw2.below (by omega))⟩
        refine own_mono (hw2.own ho ?_) (by omega)
        obtain ⟨_, h2 | ⟨g, cap, cur, e, hg, _⟩⟩ := ho
        · rw [h2.1]; simp [Value.ownBlock]
        · rw [e]; simp [Value.ownBlock]; omega
      · go_wp2_with (first | (go_at_call 42; refine (bad_calls k 155 w.heap.size _ hkc).mono ?_; rintro r w' ⟨rfl, rfl⟩) | (refine wpList_store_block rfl 25 _ _ rfl b1 _ zeroCells8 _ rfl rfl (hres1 _) rfl (by kernel_rfl) rfl ?_; intro w2 hw2))
        refine bodyPost_ret (v := .agg #[.int .i64 (k : Int), .int .i64 0, .int .i64 0, .int .i64 0, .int .i64 0, .int .u8 0, .slice none 0 0, .int .i64 155]) (results_cell Tryd.results21 rfl hw2.at_ (by kernel_rfl) (by kernel_rfl)) rfl ?_
        rw [HO.out]
        have h1 := H1.out
        have hs := HI.out.below.size
        exact EntRet.bad k 155 ((HI.out.below.alloc hs _).trans (hw2.below (by omega)))
end Go.Proofs.YtbjkljmhhpoooaaDoor
