/- Plain laws, no program in sight: what the second reading of a line (the printed functions) answers for a number, for bytes: the same as the first. -/
import Derived.Test.YtbjkljmhhpoooaaDoorHex
import Derived.Test.YtbjkljmhhpoooaaDoorPScriptLinesx5
namespace Go.Proofs.YtbjkljmhhpoooaaDoor
open Go.RowKit Go.Proofs.YtbjkljmhhpoooaaDoor.PScriptLines Go.Proofs.YtbjkljmhhpoooaaDoorW.PrintWords
set_option linter.unusedVariables false

theorem w64 (x : Int) (h : -9223372036854775808 ≤ x ∧ x < 9223372036854775808) : wrap64 x = x := by
  simp only [wrap64]; omega
theorem bt_get (s : ByteArray) (i : Nat) (h : i < s.size) : bt s (i : Int) = (s[i].toNat : Int) := by
  unfold bt; simp [h]
theorem drop_get (s : ByteArray) (i : Nat) (h : i < s.size) : s.data.toList.drop i = s[i] :: s.data.toList.drop (i + 1) := by
  rw [List.drop_eq_getElem_cons (by simpa using h)]; rfl
theorem dig_sub (c : UInt8) (h : isDig c = true) : ((c.toNat : Int) - 48) % 256 = ((c.toNat - 48 : Nat) : Int) := by
  simp [isDig] at h; omega

theorem number_l0 (s : ByteArray) (h6 : s.size ≤ 6) : ∀ (n i k a : Nat), i + n = s.size → n < k → (a + 1) * 10 ^ n ≤ 1000000 →
    jotterref15_number.l0 k s (a : Int) (i : Int) = some (if (s.data.toList.drop i).all isDig then ((numV (s.data.toList.drop i) a : Nat) : Int) else -1)
  | 0, i, k + 1, a, hi, hk, ha => by
    have e : s.data.toList.drop i = [] := by rw [List.drop_eq_nil_iff]; simp; omega
    unfold jotterref15_number.l0
    rw [if_neg (by omega), e]; rfl
  | n + 1, i, k + 1, a, hi, hk, ha => by
    have hlt : i < s.size := by omega
    have hp2 : (a + 1) * 10 ^ (n + 1) = ((10 * a + 9) + 1) * 10 ^ n := by rw [Nat.pow_succ, Nat.mul_comm (10 ^ n) 10, ← Nat.mul_assoc]; congr 1; omega
    have hone : 1 ≤ 10 ^ n := Nat.pow_pos (by decide)
    have hbig : (10 * a + 9) + 1 ≤ ((10 * a + 9) + 1) * 10 ^ n := Nat.le_mul_of_pos_right _ hone
    unfold jotterref15_number.l0
    rw [if_pos (by omega), if_pos (by omega), bt_get s i hlt, drop_get s i hlt, List.all_cons]
    by_cases hd : isDig s[i] = true
    · have hd' := hd
      simp [isDig] at hd'
      have hrec := number_l0 s h6 n (i + 1) k (10 * a + (s[i].toNat - 48)) (by omega) (by omega) (by
        refine Nat.le_trans (Nat.mul_le_mul_right _ (show 10 * a + (s[i].toNat - 48) + 1 ≤ (10 * a + 9) + 1 by omega)) ?_
        omega)
      rw [if_neg (by omega), if_neg (by omega), dig_sub _ hd, w64 (10 * (a : Int)) (by omega), w64 _ (by omega), w64 _ (by omega), hd]
      push_cast at hrec
      rw [hrec]
      rfl
    · have hd2 : isDig s[i] = false := by simpa using hd
      rw [hd2]
      have : (s[i].toNat : Int) < 48 ∨ (s[i].toNat : Int) > 57 := by
        simp [isDig] at hd; omega
      rcases this with h | h
      · rw [if_pos h]; rfl
      · rw [if_neg (by omega), if_pos h]; rfl
def numI (l : List UInt8) : Int := match numS l with | none => -1 | some n => (n : Int)
/-- THE NUMBER, READ TWICE. -/
theorem number_ref (s : ByteArray) (k : Nat) (hk : 9 ≤ k) : jotterref15_number.f k s = some (numI s.data.toList) := by
  obtain ⟨k, rfl⟩ : ∃ j, k = j + 1 := ⟨k - 1, by omega⟩
  have hl : s.data.toList.length = s.size := by simp
  have hbad : ∀ c, c = true → jotterref15_number.j0 (k + 1) s c = some (-1) := by rintro c rfl; rw [jotterref15_number.j0, if_pos rfl]
  have hgood : ∀ c, c = false → 0 < s.size → s.size ≤ 6 → (s.size ≤ 1 ∨ s.data.toList.head? ≠ some 48) → jotterref15_number.j0 (k + 1) s c = some (numI s.data.toList) := by
    rintro c rfl h0 h6 hz
    rw [jotterref15_number.j0, if_neg (by decide)]
    have h := number_l0 s h6 s.size 0 k 0 (by omega) (by omega) (by
      have : 10 ^ s.size ≤ 10 ^ 6 := Nat.pow_le_pow_right (by decide) h6
      omega)
    rw [List.drop_zero] at h
    refine h.trans ?_
    have hc : ¬ (s.data.toList = [] ∨ 6 < s.data.toList.length ∨ (1 < s.data.toList.length ∧ s.data.toList.head? = some 48)) := by
      rintro (h | h | ⟨h, h'⟩)
      · rw [h] at hl; simp at hl; omega
      · omega
      · rcases hz with hz | hz
        · omega
        · exact hz h'
    unfold numI numS
    rw [if_neg hc]
    by_cases ha : s.data.toList.all isDig = true
    · rw [if_pos ha, if_pos ha]
    · rw [if_neg ha, if_neg ha]
  unfold jotterref15_number.f
  by_cases h0 : s.size = 0
  · rw [if_pos (by omega), hbad _ rfl]
    have : numS s.data.toList = none := by unfold numS; rw [if_pos (Or.inl (List.eq_nil_of_length_eq_zero (by omega)))]
    unfold numI; rw [this]
  rw [if_neg (by omega)]
  by_cases h6 : 6 < s.size
  · rw [if_pos (by omega), hbad _ rfl]
    have : numS s.data.toList = none := by unfold numS; rw [if_pos (Or.inr (Or.inl (by omega)))]
    unfold numI; rw [this]
  rw [if_neg (by omega)]
  by_cases h1 : 1 < s.size
  · rw [if_pos (by omega), if_pos (by omega)]
    have hb0 := bt_get s 0 (by omega)
    have hh := head_at s (by omega)
    rw [show ((0 : Nat) : Int) = 0 from rfl] at hb0
    by_cases hz : s[0]'(by omega) = 48
    · rw [hbad _ (by rw [hb0, hz]; rfl)]
      have : numS s.data.toList = none := by unfold numS; rw [if_pos (Or.inr (Or.inr ⟨by omega, by rw [hh, hz]⟩))]
      unfold numI; rw [this]
    · have hz' : ¬ (s[0]'(by omega)).toNat = 48 := fun h => hz (by apply UInt8.toNat_inj.1; rw [h]; rfl)
      rw [hgood _ (by rw [hb0, beq_eq_false_iff_ne]; omega) (by omega) (by omega) (Or.inr (by rw [hh]; intro h; exact hz (Option.some.inj h)))]
  · rw [if_neg (by omega), hgood _ rfl (by omega) (by omega) (Or.inl (by omega))]

/-! ### bytes -/
theorem digit_step : ∀ n : Fin 256, ∀ k : Nat, 17 ≤ k → jotterref15_digit.f k (n.val : Int) = some (match hexV (UInt8.ofNat n.val) with | some v => (v : Int) | none => -1) := by
  intro n k hk
  obtain ⟨j, rfl⟩ : ∃ j, k = 17 + j := ⟨k - 17, by omega⟩
  have hm : ∀ j, LeO (jotterref15_digit.f 17 (n.val : Int)) (jotterref15_digit.f (17 + j) (n.val : Int)) := by
    intro j
    induction j with
    | zero => exact LeO.refl _
    | succ j ih => exact fun r h => jotterref15_digit.mono _ _ r (ih r h)
  have h17 : ∀ n : Fin 256, jotterref15_digit.f 17 (n.val : Int) = some (match hexV (UInt8.ofNat n.val) with | some v => (v : Int) | none => -1) := by decide +kernel
  exact hm j _ (h17 n)
theorem digit_ref (c : UInt8) (k : Nat) (hk : 17 ≤ k) : jotterref15_digit.f k (c.toNat : Int) = some (match hexV c with | some v => (v : Int) | none => -1) := by
  have := digit_step ⟨c.toNat, c.toNat_lt⟩ k hk
  simpa using this
def ints (l : List Nat) : List Int := l.map fun (n : Nat) => (n : Int)
theorem bytes_l0 (s : ByteArray) (hs : s.size ≤ 1099511627776) : ∀ (n i k : Nat) (acc : List Int), i + 2 * n = s.size → n + 18 ≤ k → acc.length ≤ i →
    jotterref15_bytesOf.l0 k s acc (i : Int) = some (if (s.data.toList.drop i).all isHex then (acc ++ ints (hexP (s.data.toList.drop i)), true) else ([], false))
  | 0, i, k, acc, hi, hk, ha => by
    obtain ⟨k, rfl⟩ : ∃ j, k = j + 1 := ⟨k - 1, by omega⟩
    have e : s.data.toList.drop i = [] := by rw [List.drop_eq_nil_iff]; simp; omega
    unfold jotterref15_bytesOf.l0
    rw [if_neg (by omega), e]; simp [hexP, ints]
  | n + 1, i, k, acc, hi, hk, ha => by
    obtain ⟨k, rfl⟩ : ∃ j, k = j + 1 := ⟨k - 1, by omega⟩
    have hlt : i < s.size := by omega
    have hlt1 : i + 1 < s.size := by omega
    have e1 : wrap64 ((i : Int) + 1) = ((i + 1 : Nat) : Int) := by rw [w64 _ (by omega)]; push_cast; rfl
    have e2 : wrap64 ((i : Int) + 2) = ((i + 2 : Nat) : Int) := by rw [w64 _ (by omega)]; push_cast; rfl
    unfold jotterref15_bytesOf.l0
    rw [if_pos (by omega), if_pos (by omega), e1, e2, bt_get s i hlt, bt_get s (i + 1) hlt1, digit_ref _ k (by omega), digit_ref _ k (by omega), drop_get s i hlt, drop_get s (i + 1) hlt1, List.all_cons, List.all_cons]
    simp only [Option.bind_some]
    rw [if_pos (by omega), if_pos (by omega)]
    cases h1 : hexV s[i] with
    | none =>
      have : isHex s[i] = false := by unfold isHex; rw [h1]; rfl
      rw [this]; rfl
    | some x =>
      have hx : isHex s[i] = true := by unfold isHex; rw [h1]; rfl
      have hxv : hv s[i] = x := by unfold hv; rw [h1]; rfl
      have hx15 := hv_le s[i]
      simp only []
      rw [if_neg (by omega), hx]
      cases h2 : hexV s[i + 1] with
      | none =>
        have : isHex s[i + 1] = false := by unfold isHex; rw [h2]; rfl
        rw [this]; rfl
      | some y =>
        have hy : isHex s[i + 1] = true := by unfold isHex; rw [h2]; rfl
        have hyv : hv s[i + 1] = y := by unfold hv; rw [h2]; rfl
        have hy15 := hv_le s[i + 1]
        simp only []
        rw [if_neg (by omega), hy, if_pos (by omega), bytes_l0 s hs n (i + 2) k _ (by omega) (by omega) (by simp; omega)]
        have e3 : (wrap64 (wrap64 (16 * (x : Int)) + (y : Int))) % 256 = ((16 * hv s[i] + hv s[i + 1] : Nat) : Int) := by
          rw [w64 (16 * (x : Int)) (by omega), w64 _ (by omega)]; omega
        rw [e3]
        simp only [Bool.true_and, hexP, ints, List.map_cons, List.append_assoc, List.singleton_append]
theorem bytes_ref (s : ByteArray) (hs : s.size ≤ 1099511627776) (k : Nat) (hk : s.size + 20 ≤ k) : jotterref15_bytesOf.f k s = some (ints ((hexS s.data.toList).getD []), (hexS s.data.toList).isSome) := by
  obtain ⟨k, rfl⟩ : ∃ j, k = j + 1 := ⟨k - 1, by omega⟩
  have hl : s.data.toList.length = s.size := by simp
  have htl : s.toList = s.data.toList := ByteArray.toList_eq s
  unfold jotterref15_bytesOf.f
  rw [htl]
  unfold hexS
  by_cases hd : s.data.toList = [45]
  · rw [if_pos hd, if_pos hd]; rfl
  rw [if_neg hd, if_neg hd]
  have hbad : ∀ c, c = true → jotterref15_bytesOf.j0 (k + 1) s c = some ([], false) := by rintro c rfl; rw [jotterref15_bytesOf.j0, if_pos rfl]
  by_cases h0 : s.size = 0
  · rw [if_pos (by omega), hbad _ rfl, if_pos (Or.inl (List.eq_nil_of_length_eq_zero (by omega)))]; rfl
  rw [if_neg (by omega)]
  by_cases h2 : s.size % 2 = 1
  · rw [hbad _ (by rw [bne_iff_ne]; omega), if_pos (Or.inr (by omega))]; rfl
  · rw [if_neg (by
      rintro (h | h)
      · rw [h] at hl; simp at hl; omega
      · omega)]
    have hc : (((s.size : Int) % 2) != 0) = false := by rw [bne_eq_false_iff_eq]; omega
    rw [hc, jotterref15_bytesOf.j0, if_neg (by decide)]
    have := bytes_l0 s hs (s.size / 2) 0 k [] (by omega) (by omega) (Nat.le_refl _)
    rw [List.drop_zero] at this
    refine this.trans ?_
    split <;> simp [ints]
end Go.Proofs.YtbjkljmhhpoooaaDoor
