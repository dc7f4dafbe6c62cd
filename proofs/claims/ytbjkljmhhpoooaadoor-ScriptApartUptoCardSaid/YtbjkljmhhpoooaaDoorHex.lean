/- What script.bytes returns: nil and true of the text "-"; of an even number (not 0) of signs 0 to 9, a to f the bytes that they mean, in new memory, and true; of any other text nil and false. For texts of at most 2^40 bytes. -/
import Derived.Test.YtbjkljmhhpoooaaDoorRune
import Derived.Lib.JoinLaws
import Derived.Lib.OthersKept
namespace Go.Proofs.YtbjkljmhhpoooaaDoor
open Go.RowKit
set_option linter.unusedVariables false

def hexV (c : UInt8) : Option Nat := if isDig c then some (c.toNat - 48) else if 97 ≤ c.toNat ∧ c.toNat ≤ 102 then some (c.toNat - 87) else none
def isHex (c : UInt8) : Bool := (hexV c).isSome
def hv (c : UInt8) : Nat := (hexV c).getD 0
def hexP : List UInt8 → List Nat
  | a :: b :: l => (16 * hv a + hv b) :: hexP l
  | _ => []
def hexS (l : List UInt8) : Option (List Nat) :=
  if l = [45] then some [] else if l = [] ∨ l.length % 2 = 1 then none else if l.all isHex then some (hexP l) else none
def u8s (l : List Nat) : List Value := l.map fun (n : Nat) => Value.int .u8 (n : Int)

theorem hv_le (c : UInt8) : hv c ≤ 15 := by
  unfold hv hexV isDig
  split
  · rename_i h; simp at h; simp; omega
  · split
    · rename_i h; simp; omega
    · simp
theorem hexP_length : ∀ l : List UInt8, (hexP l).length = l.length / 2
  | [] => rfl
  | [_] => by simp [hexP]
  | a :: b :: l => by simp only [hexP, List.length_cons, hexP_length l]; omega
theorem hexP_even : ∀ (l : List UInt8) (a : UInt8), l.length % 2 = 0 → hexP (l ++ [a]) = hexP l
  | [], a, _ => rfl
  | [_], a, h => by simp at h
  | x :: y :: l, a, h => by
    simp only [List.cons_append, hexP]
    rw [hexP_even l a (by simp at h; omega)]
theorem hexP_odd : ∀ (l : List UInt8) (a b : UInt8), l.length % 2 = 0 → hexP (l ++ [a] ++ [b]) = hexP l ++ [16 * hv a + hv b]
  | [], a, b, _ => rfl
  | [_], a, b, h => by simp at h
  | x :: y :: l, a, b, h => by
    have := hexP_odd l a b (by simp at h; omega)
    simp only [List.cons_append, hexP]
    rw [this]
theorem hexP_le : ∀ (l : List UInt8), ∀ n ∈ hexP l, n ≤ 255
  | [], n, h => by simp [hexP] at h
  | [_], n, h => by simp [hexP] at h
  | a :: b :: l, n, h => by
    simp only [hexP, List.mem_cons] at h
    rcases h with rfl | h
    · have := hv_le a; have := hv_le b; omega
    · exact hexP_le l n h

def digits16 : List UInt8 := [48, 49, 50, 51, 52, 53, 54, 55, 56, 57, 97, 98, 99, 100, 101, 102]
theorem index16 : ∀ n : Fin 256, Lib.indexByte digits16 (UInt8.ofNat n.val) = match hexV (UInt8.ofNat n.val) with | some v => (v : Int) | none => -1 := by decide +kernel
theorem index_hex (c : UInt8) : Lib.indexByte digits16 c = match hexV c with | some v => (v : Int) | none => -1 := by
  have := index16 ⟨c.toNat, c.toNat_lt⟩
  simpa using this

theorem toNat8 (c : UInt8) : ((c.toNat : Int)).toNat.toUInt8 = c := by simp

/-- THE CALL of strings.IndexRune over the sixteen signs, of a sign and of any other rune. -/
theorem at_sign (c : UInt8) (v : Nat) (hc : hexV c = some v) (w : World) :
    Calls Tryd.prog 55 #[.string ⟨#[48, 49, 50, 51, 52, 53, 54, 55, 56, 57, 97, 98, 99, 100, 101, 102]⟩, .int .i32 (c.toNat : Int)] w fun e w' => e = .returned (.int .i64 v) ∧ w = w' := by
  have h128 : (c.toNat : Int) < 128 := by
    unfold hexV isDig at hc
    split at hc
    · rename_i h; simp at h; omega
    · split at hc
      · omega
      · cases hc
  refine (Tryd.strings_IndexRune_ascii _ (c.toNat : Int) w (by omega) h128).mono fun e w' ⟨he, hw⟩ => ⟨?_, hw.symm⟩
  rw [he, toNat8]
  have := index_hex c
  rw [hc] at this
  show Ending.returned (.int .i64 (Lib.indexByte digits16 c)) = _
  rw [this]
theorem at_none (c : Int) (hc : 0 ≤ c) (hc2 : c ≤ 2147483647) (hn : c < 128 → hexV c.toNat.toUInt8 = none) (w : World) :
    Calls Tryd.prog 55 #[.string ⟨#[48, 49, 50, 51, 52, 53, 54, 55, 56, 57, 97, 98, 99, 100, 101, 102]⟩, .int .i32 c] w fun e w' => e = .returned (.int .i64 (-1)) ∧ Below w.heap.size w w' := by
  by_cases h : c < 128
  · refine (Tryd.strings_IndexRune_ascii _ c w hc h).mono fun e w' ⟨he, hw⟩ => ⟨?_, by rw [hw]; exact Below.refl _ _⟩
    rw [he]
    have := index_hex c.toNat.toUInt8
    rw [hn h] at this
    show Ending.returned (.int .i64 (Lib.indexByte digits16 c.toNat.toUInt8)) = _
    rw [this]
  · refine indexRune_high _ c w ?_ (by decide) (by decide) (by omega) hc2
    intro k hk
    have : ∀ k : Fin 16, ((⟨#[48, 49, 50, 51, 52, 53, 54, 55, 56, 57, 97, 98, 99, 100, 101, 102]⟩ : ByteArray)[k.val]'(k.isLt)).toNat < 128 := by decide
    exact this ⟨k, hk⟩

/-- what bytes answers -/
def HexRet (l : List UInt8) (w : World) (e : Ending) (w' : World) : Prop :=
  ∃ v, e = .returned (.tuple #[v, .bool (hexS l).isSome]) ∧ w'.ownsRow w.heap.size 5 1 v ((hexS l).getD []).length (u8s ((hexS l).getD [])) ∧ Below w.heap.size w w'
theorem own_nil0 (W : World) (base : Nat) (e : TypeId) (size : Nat) : W.ownsRow base e size (.slice none 0 0) 0 [] := ⟨by simp, .inl ⟨rfl, rfl⟩⟩
theorem HexRet.no {l : List UInt8} {w w' : World} (h : hexS l = none) (hb : Below w.heap.size w w') : HexRet l w (.returned (.tuple #[.slice none 0 0, .bool false])) w' :=
  ⟨.slice none 0 0, by rw [h]; rfl, by rw [h]; exact own_nil0 _ _ _ _, hb⟩
theorem HexRet.dash {l : List UInt8} {w w' : World} (h : l = [45]) (hb : Below w.heap.size w w') : HexRet l w (.returned (.tuple #[.slice none 0 0, .bool true])) w' := by
  have h' : hexS l = some [] := by unfold hexS; rw [if_pos h]
  exact ⟨.slice none 0 0, by rw [h']; rfl, by rw [h']; exact own_nil0 _ _ _ _, hb⟩
theorem HexRet.yes {l : List UInt8} {w w' : World} {b : List Nat} {v : Value} (h : hexS l = some b) (ho : w'.ownsRow w.heap.size 5 1 v b.length (u8s b)) (hb : Below w.heap.size w w') : HexRet l w (.returned (.tuple #[v, .bool true])) w' :=
  ⟨v, by rw [h]; rfl, by rw [h]; exact ho, hb⟩

set_option maxHeartbeats 400000 in
theorem bytes_dash (s : ByteArray) (w : World) (h : s.data.toList = [45]) :
    Calls Tryd.prog 43 #[.string s] w fun e w' => HexRet s.data.toList w e w' := by
  have H := HexRet.dash h (Below.refl w.heap.size w)
  have h1 : s.toList = [45] := by rw [ByteArray.toList_eq]; exact h
  clear h
  go_enter Tryd.func43, Tryd.ntmps43
  go_wp2
  go_ret2
  exact H
set_option maxHeartbeats 400000 in
theorem bytes_bad (s : ByteArray) (w : World) (hs : s.size ≤ 1099511627776) (h : s.size = 0 ∨ s.size % 2 = 1) (hd : ¬ s.data.toList = [45]) :
    Calls Tryd.prog 43 #[.string s] w fun e w' => HexRet s.data.toList w e w' := by
  have hl : s.data.toList.length = s.size := by simp
  have H := HexRet.no (l := s.data.toList) (by
    unfold hexS; rw [if_neg hd, if_pos]
    rcases h with h | h
    · left; exact List.eq_nil_of_length_eq_zero (by omega)
    · right; omega) (Below.refl w.heap.size w)
  have h1 : (s.toList == [45]) = false := by rw [ByteArray.toList_eq]; simpa using hd
  clear hd hl
  rcases h with h | h
  · have h2 : s.toList.isEmpty = true := by rw [emptyB]; exact decide_eq_true h
    clear h
    go_enter Tryd.func43, Tryd.ntmps43
    go_wp2
    go_ret2
    exact H
  · have h2 : s.toList.isEmpty = false := by rw [emptyB]; exact decide_eq_false (by omega)
    have h3 : (((s.size : Int) % 2) != 0) = true := by rw [bne_iff_ne]; omega
    clear h
    go_enter Tryd.func43, Tryd.ntmps43
    go_wp2
    go_ret2
    exact H

theorem take_snoc_l (s : ByteArray) (k : Nat) (h : k < s.size) : s.data.toList.take (k + 1) = s.data.toList.take k ++ [s[k]] := take_snoc s k h
theorem len_take (s : ByteArray) (k : Nat) (h : k ≤ s.size) : (s.data.toList.take k).length = k := by simp; omega

/-- THE LOOP's RELATION: pos signs are gone through. -/
structure HexAt (B : Nat) (w0 : World) (s : ByteArray) (pos : Nat) (half : Nat) (v : Value) (wr : World) : Prop where
  le : pos ≤ s.size
  own : wr.ownsRow B 5 1 v (hexP (s.data.toList.take pos)).length (u8s (hexP (s.data.toList.take pos)))
  it : wr.heap[B + 1]? = some (.stringIter s pos)
  below : Below B w0 wr
  all : (s.data.toList.take pos).all isHex = true
  odd : pos % 2 = 1 → ∃ l a, s.data.toList.take pos = l ++ [a] ∧ hv a = half ∧ l.length % 2 = 0
  half : half ≤ 15

theorem hexS_no (s : ByteArray) (k : Nat) (h : k < s.size) (hd : isHex s[k] = false) (hn : ¬ s.data.toList = [45]) : hexS s.data.toList = none := by
  unfold hexS
  rw [if_neg hn]
  split
  · rfl
  · rw [if_neg]
    intro ha
    have := List.all_eq_true.1 ha _ (mem_at s k h)
    rw [hd] at this; cases this
theorem hexS_yes (s : ByteArray) (h0 : 0 < s.size) (h2 : s.size % 2 = 0) (ha : (s.data.toList.take s.size).all isHex = true) : hexS s.data.toList = some (hexP (s.data.toList.take s.size)) := by
  have e : s.data.toList.take s.size = s.data.toList := List.take_of_length_le (by simp)
  rw [e] at ha ⊢
  have hl : s.data.toList.length = s.size := by simp
  unfold hexS
  rw [if_neg, if_neg, if_pos ha]
  · rintro (h | h)
    · rw [h] at hl; simp at hl; omega
    · omega
  · intro h; rw [h] at hl; simp at hl; omega

theorem iterPos_at {w : World} {k : Nat} {s : ByteArray} {p : Nat} (h : w.heap[k]? = some (.stringIter s p)) : w.iterPos k = p := by simp [World.iterPos, h]
theorem own_ne_iter {w : World} {base k size n p : Nat} {e : TypeId} {s : ByteArray} {v : Value} {xs : List Value} (h : w.ownsRow base e size v n xs) (hk : w.heap[k]? = some (.stringIter s p)) : some k ≠ v.ownBlock := by
  rcases h.2 with ⟨rfl, _⟩ | ⟨g, cap, cur, rfl, _, hh, _⟩
  · simp [Value.ownBlock]
  · intro e
    have : k = g := by simpa [Value.ownBlock] using e
    subst this
    rw [hk] at hh; cases hh
theorem own_from {w : World} {base size n : Nat} {e : TypeId} {v : Value} {xs : List Value} (h : w.ownsRow base e size v n xs) (k : Nat) (hk : v.ownBlock = some k) : base ≤ k := by
  rcases h.2 with ⟨rfl, _⟩ | ⟨g, cap, cur, rfl, hb, _⟩
  · simp [Value.ownBlock] at hk
  · have : g = k := by simpa [Value.ownBlock] using hk
    omega
theorem info_u8 : (Tryd.prog.info? 5).map (fun i => (i.zero, i.size, i.bytes)) = some (some (.int .u8 0), 1, 1) := by kernel_rfl

/-- one sign at an even place -/
theorem HexAt.even {B : Nat} {w0 wr w1 : World} {s : ByteArray} {pos half n : Nat} {v : Value} (h : HexAt B w0 s pos half v wr) (hlt : pos < s.size) (he : pos % 2 = 0) (hx : hexV s[pos] = some n) (hw : w1 = wr.iterAt (B + 1) s (pos + 1)) : HexAt B w0 s (pos + 1) n v w1 := by
  subst hw
  have hsn := take_snoc_l s pos hlt
  have hl := len_take s pos h.le
  refine ⟨by omega, ?_, Lib.iterAt_heap _ _ _ _ _ h.it, Lib.below_iterAt h.below (by omega) _ _, ?_, fun _ => ⟨_, _, hsn, ?_, by rw [hl]; exact he⟩, ?_⟩
  · rw [hsn, hexP_even _ _ (by rw [hl]; exact he)]
    have := h.own
    obtain ⟨h1, h2⟩ := this
    refine ⟨h1, ?_⟩
    rcases h2 with h2 | ⟨g, cap, cur, a, b, c, d⟩
    · exact .inl h2
    · refine .inr ⟨g, cap, cur, a, b, ?_, d⟩
      rw [Lib.iterAt_other]
      · exact c
      · rintro rfl
        rw [h.it] at c
        cases c
  · rw [hsn, List.all_append, h.all]; simp [isHex, hx]
  · simp [hv, hx]
  · have := hv_le s[pos]
    simp [hv, hx] at this; exact this

/-- one sign at an odd place: behind the append -/
theorem HexAt.odd' {B : Nat} {w0 wr w1 w2 : World} {s : ByteArray} {pos half n : Nat} {v v2 : Value} (h : HexAt B w0 s pos half v wr) (hlt : pos < s.size) (he : ¬ pos % 2 = 0) (hx : hexV s[pos] = some n) (hB : B ≤ w0.heap.size) (hw : w1 = wr.iterAt (B + 1) s (pos + 1))
    (hown : w2.ownsRow B 5 1 v2 ((hexP (s.data.toList.take pos)).length + 1) (u8s (hexP (s.data.toList.take pos)) ++ [.int .u8 (16 * (half : Int) + n)]))
    (hg : (w1.alloc (.cells #[.int .u8 (16 * (half : Int) + n)] 5)).grownBy w2 v.ownBlock) : HexAt B w0 s (pos + 1) half v2 w2 := by
  subst hw
  have hsn := take_snoc_l s pos hlt
  have hl := len_take s pos h.le
  obtain ⟨l, a, hla, hva, hle⟩ := h.odd (by omega)
  have hp : hexP (s.data.toList.take (pos + 1)) = hexP (s.data.toList.take pos) ++ [16 * half + n] := by
    rw [hsn, hla, hexP_odd _ _ _ hle, hexP_even _ _ hle, hva]
    simp [hv, hx]
  have hB1 : B + 1 < wr.heap.size := (Array.getElem?_eq_some_iff.1 h.it).1
  have hit := Lib.iterAt_heap _ _ _ _ (pos + 1) h.it
  have hbw := Lib.below_iterAt h.below (k := B + 1) (by omega) s (pos + 1)
  refine ⟨by omega, ?_, ?_, ?_, ?_, fun h2 => by omega, h.half⟩
  · rw [hp]
    have : u8s (hexP (s.data.toList.take pos) ++ [16 * half + n]) = u8s (hexP (s.data.toList.take pos)) ++ [.int .u8 (16 * (half : Int) + n)] := by
      simp [u8s]
    rw [this, List.length_append]
    exact hown
  · rw [hg.block _ (by simp [Lib.iterAt_size]; omega) (own_ne_iter h.own h.it), Below.heap_alloc _ _ _ (by rw [Lib.iterAt_size]; omega)]
    exact hit
  · refine (hbw.alloc (by rw [Lib.iterAt_size]; omega) _).grown hg (by simp [Lib.iterAt_size]; omega) ?_
    intro k hk
    exact own_from h.own k hk
  · rw [hsn, List.all_append, h.all]; simp [isHex, hx]

set_option maxHeartbeats 2000000 in
theorem bytes_rest (s : ByteArray) (w : World) (hs : s.size ≤ 1099511627776) (h0 : 0 < s.size) (he : s.size % 2 = 0) (hd : ¬ s.data.toList = [45]) :
    Calls Tryd.prog 43 #[.string s] w fun e w' => HexRet s.data.toList w e w' := by
  have Hyes : Hid (∀ (_ : (s.data.toList.take s.size).all isHex = true), hexS s.data.toList = some (hexP (s.data.toList.take s.size))) := Lib.hid (fun ha => hexS_yes s h0 he ha)
  have Hno : Hid (∀ (k : Nat) (h : k < s.size), isHex s[k] = false → hexS s.data.toList = none) := Lib.hid (fun k h hx => hexS_no s k h hx hd)
  have h1 : (s.toList == [45]) = false := by rw [ByteArray.toList_eq]; simpa using hd
  have h2 : s.toList.isEmpty = false := by rw [emptyB]; exact decide_eq_false (by omega)
  have h3 : (((s.size : Int) % 2) != 0) = false := by rw [bne_eq_false_iff_eq]; omega
  obtain ⟨m, hm⟩ : ∃ m : Nat, (s.size : Int) / 2 = m := ⟨s.size / 2, by omega⟩
  have hm1 : m ≤ 549755813888 := by omega
  have hmk := fun W => run_make_room (P := Tryd.prog) 22 5 (.int .u8 0) 1 Tryd.underlying22 info_u8 rfl .i64 .i64 m (by omega) (by omega) W
  have HE := Lib.hid he
  clear hd he
  go_enter Tryd.func43, Tryd.ntmps43
  go_wp2
  have hs0 : w.heap.size ≤ (w.alloc (.cells (madeCells #[.int .u8 0] m) 5)).heap.size := by simp
  go_loopw [4, 5] (fun v hf wr => ∃ (pos half : Nat), hf = .int .i64 (half : Int) ∧ HexAt w.heap.size w s pos half v wr) (fun _ _ wr => s.size - wr.iterPos (w.heap.size + 1))
  case atStart =>
    refine ⟨0, 0, rfl, by omega, ?_, ?_, ?_, rfl, by omega, by omega⟩
    · have := World.ownsRow_made (base := w.heap.size) (size := 1) (e := 5) w (madeCells #[.int .u8 0] m) m (Nat.le_refl _) (by unfold maxLen; omega) (by simp [size_madeCells])
      exact this.alloc _
    · have := World.iter_heap (w.alloc (.cells (madeCells #[.int .u8 0] m) 5)) s 0
      simpa using this
    · exact ((Below.refl _ w).alloc (Nat.le_refl _) _).alloc (by simp) _
  case round =>
    obtain ⟨pos, half, rfl, hI⟩ := hrel
    have hit := Lib.hid hI.it
    have hsz : w.heap.size + 1 < wr.heap.size := (Array.getElem?_eq_some_iff.1 hI.it).1
    have HI := Lib.hid hI
    have hhalf : (half : Int) ≤ 15 := by have := hI.half; omega
    clear hI
    by_cases hlt : pos < s.size
    · cases hx : hexV s[pos] with
      | none =>
        have hno : isHex s[pos] = false := by simp [isHex, hx]
        obtain ⟨c, wd, hnx, hc0, hc1, hc2⟩ : ∃ (c : Int) (wd : Nat), (∀ ty, (Instr.next (.pointer (some ⟨w.heap.size + 1, 0, none⟩)) true ty).run Tryd.prog wr = .ok (.tuple #[.bool true, .int .i64 pos, .int .i32 c]) (wr.iterAt (w.heap.size + 1) s wd)) ∧ 0 ≤ c ∧ c ≤ 2147483647 ∧ (c < 128 → hexV c.toNat.toUInt8 = none) := by
          by_cases ha : (s[pos]).toNat < 128
          · refine ⟨_, _, fun ty => Lib.run_next_ascii_at wr (w.heap.size + 1) s pos ty hit.out hlt ha, by omega, by omega, fun _ => ?_⟩
            rw [toNat8]; exact hx
          · refine ⟨_, _, fun ty => Lib.run_next_any_at wr (w.heap.size + 1) s pos ty hit.out hlt, by omega, by have := decode_le s pos; omega, fun h => ?_⟩
            have := (decode_high s pos hlt (by omega)).1
            omega
        have hb := Lib.below_iterAt HI.out.below (k := w.heap.size + 1) (by omega) s wd
        have hszw : w.heap.size ≤ (wr.iterAt (w.heap.size + 1) s wd).heap.size := by rw [Lib.iterAt_size]; omega
        generalize wr.iterAt (w.heap.size + 1) s wd = w1 at hnx hb hszw
        have HB := Lib.hid hb
        have HC2 := Lib.hid hc2
        have HNO := Lib.hid (Hno.out pos hlt hno)
        clear hx hno hb hc2
        go_wp2_with (go_at_call 55; refine (at_none c hc0 hc1 HC2.out _).mono ?_; rintro e w' ⟨rfl, hbw⟩)
        go_ret2
        exact HexRet.no HNO.out (HB.out.trans (hbw.mono hszw))
      | some n =>
        have ha : (s[pos]).toNat < 128 := by
          unfold hexV isDig at hx
          split at hx
          · rename_i h; simp at h; omega
          · split at hx
            · omega
            · cases hx
        have hn15 : (n : Int) ≤ 15 := by have := hv_le s[pos]; simp [hv, hx] at this; omega
        have hnx := fun ty => Lib.run_next_ascii_at (P := Tryd.prog) wr (w.heap.size + 1) s pos ty hit.out hlt ha
        obtain ⟨w1, hw1⟩ : ∃ w1, wr.iterAt (w.heap.size + 1) s (pos + 1) = w1 := ⟨_, rfl⟩
        rw [hw1] at hnx
        have HW := Lib.hid hw1
        have HX := Lib.hid hx
        have hneg : decide ((n : Int) < 0) = false := by simp
        by_cases hp : pos % 2 = 0
        · have hpe : (((pos : Int) % 2) == 0) = true := by rw [beq_iff_eq]; omega
          have HP := Lib.hid hp
          clear hw1 hx hp ha
          go_wp2_with (go_at_call 55; refine (at_sign s[pos] n HX.out _).mono ?_; rintro e w' ⟨rfl, rfl⟩)
          go_roundw
          case rel => exact ⟨pos + 1, n, rfl, HI.out.even hlt HP.out HX.out HW.out.symm⟩
          case measure => rw [iterPos_at hit.out, ← HW.out, iterPos_at (Lib.iterAt_heap _ _ _ _ _ hit.out)]; omega
        · have hpe : (((pos : Int) % 2) == 0) = false := by rw [beq_eq_false_iff_ne]; omega
          have HP := Lib.hid hp
          have hown : w1.ownsRow w.heap.size 5 1 u4 (hexP (s.data.toList.take pos)).length (u8s (hexP (s.data.toList.take pos))) := by
            subst hw1
            obtain ⟨h1, h2⟩ := HI.out.own
            refine ⟨h1, ?_⟩
            rcases h2 with h2 | ⟨g, cap, cur, a, b, c, d⟩
            · exact .inl h2
            · refine .inr ⟨g, cap, cur, a, b, ?_, d⟩
              rw [Lib.iterAt_other]
              · exact c
              · rintro rfl
                rw [hit.out] at c
                cases c
          have hlen : (hexP (s.data.toList.take pos)).length ≤ pos := by rw [hexP_length, len_take s pos (by omega)]; omega
          have hsz1 : w.heap.size + 1 < w1.heap.size := by subst hw1; rw [Lib.iterAt_size]; exact hsz
          obtain ⟨i0, hi, hzz⟩ := Option.map_eq_some_iff.1 info_u8
          simp only [Prod.mk.injEq] at hzz
          obtain ⟨hz0, hz1, hz2⟩ := hzz
          have HO := Lib.hid hown
          have HL := Lib.hid hlen
          have HI0 := Lib.hid hi
          have HZ0 := Lib.hid hz0
          have HZ1 := Lib.hid hz1
          have HZ2 := Lib.hid hz2
          clear hw1 hx hp ha hown hlen hi hz0 hz1 hz2
          go_wp2_with (first | (go_at_call 55; refine (at_sign s[pos] n HX.out _).mono ?_; rintro e w' ⟨rfl, rfl⟩) | (at_builtin; refine wpList_append_own _ rfl _ _ 22 rfl w.heap.size 5 i0 (.int .u8 0) 1 1 Tryd.underlying22 HI0.out HZ0.out HZ1.out HZ2.out rfl (by decide) _ _ _ rfl (HO.out.alloc _) ⟨w1.heap.size, 0, none⟩ 1 1 [.int .u8 (16 * (half : Int) + n)] rfl rfl ?c1 ?c2 ?c3 ?c4 ?c5 ?_))
          case c1 => exact cell_one_new _ _ _
          case c2 => intro u hu; simp at hu; subst hu; rfl
          case c3 => unfold maxLen; have := HL.out; omega
          case c4 => have := HL.out; omega
          case c5 => simp; omega
          intro v2 w2 hown2 hg2 _
          have HO2 := Lib.hid hown2
          have HG2 := Lib.hid hg2
          clear hown2 hg2
          go_wp2
          go_roundw
          case rel => exact ⟨pos + 1, half, rfl, HI.out.odd' hlt HP.out HX.out (Nat.le_refl _) HW.out.symm HO2.out HG2.out⟩
          case measure => rw [iterPos_at hit.out, iterPos_at (HI.out.odd' hlt HP.out HX.out (Nat.le_refl _) HW.out.symm HO2.out HG2.out).it]; omega
    · obtain rfl : pos = s.size := by have := HI.out.le; omega
      have hnx := fun ty => Lib.run_next_end_at (P := Tryd.prog) wr (w.heap.size + 1) s s.size ty hit.out hlt
      have H := HexRet.yes (Hyes.out HI.out.all) HI.out.own HI.out.below
      go_wp2
      go_ret2
      exact H

/-- THE CONTRACT OF bytes. -/
theorem bytes_calls (s : ByteArray) (w : World) (hs : s.size ≤ 1099511627776) :
    Calls Tryd.prog 43 #[.string s] w fun e w' => HexRet s.data.toList w e w' := by
  by_cases hd : s.data.toList = [45]
  · exact bytes_dash s w hd
  by_cases h : s.size = 0 ∨ s.size % 2 = 1
  · exact bytes_bad s w hs h hd
  · exact bytes_rest s w hs (by omega) (by omega) hd
end Go.Proofs.YtbjkljmhhpoooaaDoor
