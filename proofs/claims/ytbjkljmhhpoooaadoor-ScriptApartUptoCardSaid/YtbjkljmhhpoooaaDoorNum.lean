/- What script.number returns: of one to six digits, the first of several not 0, the number and true; of any other text 0 and false. For every string of at most 2^62 bytes; memory below is as it was. -/
import Derived.Test.YtbjkljmhhpoooaaDoorChecked
import Derived.WalkKit
import Derived.WalkSpells
import Derived.WalkLawsBesides
import Derived.WalkSmall
import Derived.Laws.RangeAny
import Derived.LoopTactic
import Derived.Outline
import Derived.Handy
import Derived.Lib.Hide
namespace Go.Proofs.YtbjkljmhhpoooaaDoor
open Go.RowKit

def isDig (c : UInt8) : Bool := 48 ≤ c.toNat && c.toNat ≤ 57
def numV : List UInt8 → Nat → Nat
  | [], a => a
  | c :: l, a => numV l (10 * a + (c.toNat - 48))
def numS (l : List UInt8) : Option Nat :=
  if l = [] ∨ 6 < l.length ∨ (1 < l.length ∧ l.head? = some 48) then none
  else if l.all isDig then some (numV l 0) else none

theorem numV_snoc (l : List UInt8) (c : UInt8) (a : Nat) : numV (l ++ [c]) a = 10 * numV l a + (c.toNat - 48) := by
  induction l generalizing a with
  | nil => rfl
  | cons x l ih => simp only [List.cons_append, numV]; exact ih _
theorem numV_lt (l : List UInt8) (h : l.all isDig = true) : ∀ a, numV l a + 1 ≤ (a + 1) * 10 ^ l.length := by
  induction l with
  | nil => intro a; simp [numV]
  | cons x l ih =>
    intro a
    simp only [List.all_cons, Bool.and_eq_true, isDig, decide_eq_true_eq] at h
    have := ih h.2 (10 * a + (x.toNat - 48))
    simp only [numV, List.length_cons, Nat.pow_succ]
    refine Nat.le_trans this ?_
    rw [Nat.mul_comm (10 ^ l.length) 10, ← Nat.mul_assoc]
    exact Nat.mul_le_mul_right _ (by omega)
theorem numV_lt6 (l : List UInt8) (h : l.all isDig = true) (hl : l.length ≤ 6) : numV l 0 < 1000000 := by
  have h1 := numV_lt l h 0
  have h2 : 10 ^ l.length ≤ 10 ^ 6 := Nat.pow_le_pow_right (by omega) hl
  omega
theorem take_snoc (s : ByteArray) (k : Nat) (h : k < s.size) : s.data.toList.take (k + 1) = s.data.toList.take k ++ [s[k]] := by
  rw [List.take_succ_eq_append_getElem (by simpa using h)]; rfl
theorem head_at (s : ByteArray) (h : 0 < s.size) : s.data.toList.head? = some s[0] := by
  rw [List.head?_eq_getElem?, Array.getElem?_toList, Array.getElem?_eq_getElem (by simpa using h)]; rfl
theorem mem_at (s : ByteArray) (k : Nat) (h : k < s.size) : s[k] ∈ s.data.toList := by
  have := take_snoc s k h
  have h2 : s[k] ∈ s.data.toList.take (k + 1) := by rw [this]; simp
  exact List.mem_of_mem_take h2
theorem numS_no_dig (s : ByteArray) (k : Nat) (h : k < s.size) (hd : isDig s[k] = false) : numS s.data.toList = none := by
  unfold numS
  split
  · rfl
  · rw [if_neg]
    intro ha
    have := List.all_eq_true.1 ha _ (mem_at s k h)
    rw [hd] at this; cases this
theorem numS_yes (s : ByteArray) (h0 : s.size ≠ 0) (h6 : s.size ≤ 6) (hz : s.size ≤ 1 ∨ s.data.toList.head? ≠ some 48) (ha : (s.data.toList.take s.size).all isDig = true) : numS s.data.toList = some (numV (s.data.toList.take s.size) 0) := by
  have e : s.data.toList.take s.size = s.data.toList := List.take_of_length_le (by simp)
  rw [e] at ha ⊢
  unfold numS
  rw [if_neg, if_pos ha]
  have hl : s.data.toList.length = s.size := by simp
  rw [hl]
  rintro (h | h | ⟨h, h'⟩)
  · rw [h] at hl; simp at hl; omega
  · omega
  · rcases hz with hz | hz
    · omega
    · exact hz h'
theorem ret_two {a b : Int} {x y : Bool} (h : a = b) (h' : x = y) : Ending.returned (.tuple #[.int .i64 a, .bool x]) = .returned (.tuple #[.int .i64 b, .bool y]) := by rw [h, h']

/-- what number answers -/
def NumRet (l : List UInt8) (e : Ending) : Prop := e = .returned (.tuple #[.int .i64 ((numS l).getD 0 : Nat), .bool (numS l).isSome])
theorem NumRet.no {l : List UInt8} (h : numS l = none) : NumRet l (.returned (.tuple #[.int .i64 0, .bool false])) := by unfold NumRet; rw [h]; rfl
theorem NumRet.yes {l : List UInt8} {n : Nat} (h : numS l = some n) : NumRet l (.returned (.tuple #[.int .i64 n, .bool true])) := by unfold NumRet; rw [h]; rfl

theorem emptyB (s : ByteArray) : s.toList.isEmpty = decide (s.size = 0) := by
  rw [ByteArray.toList_eq, Bool.eq_iff_iff, List.isEmpty_iff_length_eq_zero, Array.length_toList, decide_eq_true_iff]
  exact Iff.rfl

set_option maxHeartbeats 400000 in
theorem number_short (s : ByteArray) (w : World) (h : s.size = 0) :
    Calls Tryd.prog 44 #[.string s] w fun e w' => NumRet s.data.toList e ∧ Below w.heap.size w w' := by
  have h1 : s.toList.isEmpty = true := by rw [emptyB]; exact decide_eq_true h
  have hn : numS s.data.toList = none := by
    unfold numS; rw [if_pos]; left; exact List.eq_nil_of_length_eq_zero (by simpa using h)
  have HN := NumRet.no hn
  clear hn h
  go_enter Tryd.func44, Tryd.ntmps44
  go_wp2
  go_ret2
  exact ⟨HN, Below.refl _ _⟩
set_option maxHeartbeats 400000 in
theorem number_long (s : ByteArray) (w : World) (h : 6 < s.size) (hs : s.size ≤ 4611686018427387904) :
    Calls Tryd.prog 44 #[.string s] w fun e w' => NumRet s.data.toList e ∧ Below w.heap.size w w' := by
  have h1 : s.toList.isEmpty = false := by rw [emptyB]; exact decide_eq_false (by omega)
  have hn : numS s.data.toList = none := by
    unfold numS; rw [if_pos]; right; left; simpa using h
  have HN := NumRet.no hn
  clear hn
  have h2 : decide ((s.size : Int) > 6) = true := by simp; omega
  go_enter Tryd.func44, Tryd.ntmps44
  go_wp2
  go_ret2
  exact ⟨HN, Below.refl _ _⟩
set_option maxHeartbeats 400000 in
theorem number_zero (s : ByteArray) (w : World) (h1' : 1 < s.size) (h6 : s.size ≤ 6) (hz : (s[0]'(by omega)).toNat = 48) :
    Calls Tryd.prog 44 #[.string s] w fun e w' => NumRet s.data.toList e ∧ Below w.heap.size w w' := by
  have h1 : s.toList.isEmpty = false := by rw [emptyB]; exact decide_eq_false (by omega)
  have hn : numS s.data.toList = none := by
    unfold numS; rw [if_pos]; right; right
    refine ⟨by simpa using h1', ?_⟩
    have e : (s[0]'(by omega)) = 48 := UInt8.toNat_inj.1 hz
    have := take_snoc s 0 (by omega)
    have h2 : s.data.toList.take 1 = [48] := by rw [this, e]; rfl
    cases hl : s.data.toList with
    | nil => rw [hl] at h2; simp at h2
    | cons x l => rw [hl] at h2; simp at h2; simp [h2]
  have HN := NumRet.no hn
  clear hn
  have h2 : decide ((s.size : Int) > 6) = false := by simp; omega
  have h3 : decide ((s.size : Int) > 1) = true := by simp; omega
  have h4 : ((((s[0]'(by omega)).toNat : Int) == 48)) = true := by rw [hz]; rfl
  have h5 : 0 < s.size := by omega
  go_enter Tryd.func44, Tryd.ntmps44
  go_wp2
  go_ret2
  exact ⟨HN, Below.refl _ _⟩

theorem below_iter {B : Nat} {w : World} (h : B ≤ w.heap.size) (s : ByteArray) (p : Nat) : Below B w (w.iter s p) := (Below.refl _ _).alloc h _
theorem size_iter (w : World) (s : ByteArray) (p : Nat) : (w.iter s p).heap.size = w.heap.size + 1 := by simp [World.iter]

set_option maxHeartbeats 1000000 in
theorem number_rest (s : ByteArray) (w : World) (h0 : 0 < s.size) (h6 : s.size ≤ 6) (hz : s.size ≤ 1 ∨ s.data.toList.head? ≠ some 48) :
    Calls Tryd.prog 44 #[.string s] w fun e w' => NumRet s.data.toList e ∧ Below w.heap.size w w' := by
  have h1 : s.toList.isEmpty = false := by rw [emptyB]; exact decide_eq_false (by omega)
  have h2 : decide ((s.size : Int) > 6) = false := by simp; omega
  have h3 : decide ((s.size : Int) > 1) = false ∨ (decide ((s.size : Int) > 1) = true ∧ ((((s[0]'(by omega)).toNat : Int) == 48)) = false) := by
    by_cases h : s.size ≤ 1
    · left; simp; omega
    · right
      refine ⟨by simp; omega, ?_⟩
      rw [beq_eq_false_iff_ne]
      intro e
      rcases hz with hz | hz
      · omega
      · apply hz
        have e' : (s[0]'(by omega)) = 48 := UInt8.toNat_inj.1 (by have := Int.ofNat.inj e; simpa using this)
        have := take_snoc s 0 (by omega)
        rw [e'] at this
        cases hl : s.data.toList with
        | nil => rw [hl] at this; simp at this
        | cons x l => rw [hl] at this; simp at this; simp [this]
  have Hyes : Hid (∀ (_ : (s.data.toList.take s.size).all isDig = true), numS s.data.toList = some (numV (s.data.toList.take s.size) 0)) := Lib.hid (fun ha => numS_yes s (by omega) h6 hz ha)
  have Hno : Hid (∀ (k : Nat) (h : k < s.size), isDig s[k] = false → numS s.data.toList = none) := Lib.hid (fun k h hd => numS_no_dig s k h hd)
  clear hz
  rcases h3 with h3 | ⟨h3, h4⟩
  all_goals
    go_enter Tryd.func44, Tryd.ntmps44
    go_wp2
    go_loopw [4] (fun n wr => ∃ pos : Nat, pos ≤ s.size ∧ wr = w.iter s pos ∧ n = .int .i64 (numV (s.data.toList.take pos) 0 : Nat) ∧ Hid ((s.data.toList.take pos).all isDig = true)) (fun _ wr => s.size - wr.iterPos w.heap.size)
    case atStart => exact ⟨0, by omega, rfl, rfl, Lib.hid rfl⟩
    case round =>
      obtain ⟨pos, hpos, rfl, rfl, hall⟩ := hrel
      by_cases hlt : pos < s.size
      · by_cases hdig : isDig s[pos] = true
        · have ha : (s[pos]).toNat < 128 := by simp [isDig] at hdig; omega
          have hd1 : (48 : Int) ≤ (s[pos].toNat : Int) := by simp [isDig] at hdig; omega
          have hd2 : (s[pos].toNat : Int) ≤ 57 := by simp [isDig] at hdig; omega
          obtain ⟨c, hc⟩ : ∃ c : Int, (s[pos].toNat : Int) = c := ⟨_, rfl⟩
          obtain ⟨n0, hn0⟩ : ∃ n0 : Int, (numV (s.data.toList.take pos) 0 : Int) = n0 := ⟨_, rfl⟩
          have hnx : ∀ ty, (Instr.next (.pointer (some ⟨w.heap.size, 0, none⟩)) true ty).run Tryd.prog (w.iter s pos) = .ok (.tuple #[.bool true, .int .i64 pos, .int .i32 c]) (w.iter s (pos + 1)) := fun ty => by rw [run_next_ascii w s pos ty hlt ha, ← hc]
          have hv : n0 < 1000000 := by
            have := numV_lt6 _ hall.out (by have : (s.data.toList.take pos).length ≤ pos := List.length_take_le _ _; omega)
            omega
          have hv0 : 0 ≤ n0 := by omega
          have HD := Lib.hid hdig
          have HC := Lib.hid hc
          have HN0 := Lib.hid hn0
          rw [hn0]
          rw [hc] at hd1 hd2
          clear hdig hc hn0 ha hpos
          go_wp2
          go_roundw
          case rel =>
            have hsn := take_snoc s pos hlt
            refine ⟨pos + 1, by omega, rfl, ?_, ?_⟩
            · rw [hsn, numV_snoc, ← HC.out, ← HN0.out]
              have := HC.out
              have e : ((10 * numV (s.data.toList.take pos) 0 + (s[pos].toNat - 48) : Nat) : Int) = 10 * (numV (s.data.toList.take pos) 0 : Int) + ((s[pos].toNat : Int) - 48) := by omega
              rw [e]
            · refine Lib.hid ?_
              rw [hsn, List.all_append, hall.out]
              simp [HD.out]
          case measure => simp [World.iterPos_iter]; omega
        · have hno : isDig s[pos] = false := by simpa using hdig
          have HN := NumRet.no (Hno.out pos hlt hno)
          have hb := below_iter (B := w.heap.size) (Nat.le_refl _) s
          obtain ⟨c, wd, hnx0, hc⟩ : ∃ (c : Int) (wd : Nat), (∀ ty, (Instr.next (.pointer (some ⟨w.heap.size, 0, none⟩)) true ty).run Tryd.prog (w.iter s pos) = .ok (.tuple #[.bool true, .int .i64 pos, .int .i32 c]) (w.iter s wd)) ∧ (c < 48 ∨ 57 < c) := by
            by_cases ha : (s[pos]).toNat < 128
            · refine ⟨_, _, fun ty => run_next_ascii w s pos ty hlt ha, ?_⟩
              simp [isDig] at hno; omega
            · refine ⟨_, _, fun ty => run_next_any w s pos ty hlt, ?_⟩
              have := (decode_high s pos hlt (by omega)).1
              omega
          clear hdig hno hpos
          rcases hc with hc | hc
          · have hc1 : decide (c < 48) = true := by simpa using hc
            go_wp2
            all_goals go_ret2
            all_goals exact ⟨HN, hb _⟩
          · have hc1 : decide (c < 48) = false := by simp; omega
            have hc2 : decide (c > 57) = true := by simpa using hc
            go_wp2
            all_goals go_ret2
            all_goals exact ⟨HN, hb _⟩
      · obtain rfl : pos = s.size := by omega
        have hnx := fun ty => run_next_end (P := Tryd.prog) w s s.size ty hlt
        have HN := NumRet.yes (Hyes.out hall.out)
        have hb := below_iter (B := w.heap.size) (Nat.le_refl _) s s.size
        go_wp2
        all_goals go_ret2
        all_goals exact ⟨HN, hb⟩

/-- THE CONTRACT OF number. -/
theorem number_calls (s : ByteArray) (w : World) (hs : s.size ≤ 4611686018427387904) :
    Calls Tryd.prog 44 #[.string s] w fun e w' => NumRet s.data.toList e ∧ Below w.heap.size w w' := by
  by_cases h0 : s.size = 0
  · exact number_short s w h0
  by_cases h6 : 6 < s.size
  · exact number_long s w h6 hs
  by_cases hz : 1 < s.size ∧ s.data.toList.head? = some 48
  · refine number_zero s w hz.1 (by omega) ?_
    have h := hz.2
    rw [head_at s (by omega)] at h
    rw [Option.some.inj h]; rfl
  · exact number_rest s w (by omega) (by omega) (by
      by_cases h1 : s.size ≤ 1
      · exact .inl h1
      · exact .inr fun h => hz ⟨by omega, h⟩)
end Go.Proofs.YtbjkljmhhpoooaaDoor
