/- What jotterlaw15.within answers. -/
import Derived.Test.YtbjkljmhhpoooaaDoorSame
namespace Go.Proofs.YtbjkljmhhpoooaaDoor
open Go.RowKit
set_option linter.unusedVariables false

def withinS (v lo hi : Int) : Int :=
  if lo ≤ v ∧ v ≤ hi then v else if v.tmod (hi - lo + 1) < 0 then lo + (v.tmod (hi - lo + 1) + hi - lo + 1) else lo + v.tmod (hi - lo + 1)
theorem tmod_in (v d : Int) (hd : 0 < d) : -d < v.tmod d ∧ v.tmod d < d := by
  have h1 := Int.tmod_lt_of_pos v hd
  have h2 : -d < v.tmod d := by
    rcases Int.lt_or_le v 0 with h | h
    · have := Int.tmod_lt_of_pos (-v) hd
      rw [Int.neg_tmod] at this
      omega
    · have := Int.tmod_nonneg d h
      omega
  exact ⟨h2, h1⟩
theorem within_in (v lo hi : Int) (h : lo ≤ hi) : lo ≤ withinS v lo hi ∧ withinS v lo hi ≤ hi := by
  unfold withinS
  have := tmod_in v (hi - lo + 1) (by omega)
  split
  · assumption
  · split <;> omega

theorem ret_int {a b : Int} (h : a = b) : Ending.returned (.int .i64 a) = .returned (.int .i64 b) := by rw [h]
set_option maxHeartbeats 1000000 in
theorem within_calls (v lo hi : Int) (hv0 : -9223372036854775808 ≤ v) (hv1 : v ≤ 9223372036854775807) (h0 : 0 ≤ lo) (h1 : lo ≤ hi) (h2 : hi ≤ 1000000) (w : World) :
    Calls Tryd.prog 12 #[.int .i64 v, .int .i64 lo, .int .i64 hi] w fun e w' => e = .returned (.int .i64 (withinS v lo hi)) ∧ w' = w := by
  go_enter Tryd.func12, Tryd.ntmps12
  have HT := Lib.hid (tmod_in v (hi - lo + 1) (by omega))
  by_cases ha : lo ≤ v
  · by_cases hb : v ≤ hi
    · have hS : withinS v lo hi = v := if_pos ⟨ha, hb⟩
      rw [hS]
      go_wp2_with fail
      go_ret
      exact ⟨rfl, rfl⟩
    · have hS : withinS v lo hi = lo + v % (hi - lo + 1) := by
        unfold withinS
        rw [if_neg (fun h => hb h.2), Int.tmod_eq_emod_of_nonneg (by omega), if_neg]
        have := Int.emod_nonneg v (show (hi - lo + 1) ≠ 0 by omega)
        omega
      have he1 := Int.emod_nonneg v (show (hi - lo + 1) ≠ 0 by omega)
      have he2 := Int.emod_lt_of_pos v (show 0 < hi - lo + 1 by omega)
      have he3 : ¬ v % (hi - lo + 1) < 0 := by omega
      have hw : wrap64 (lo + v % (hi - lo + 1)) = lo + v % (hi - lo + 1) := by unfold wrap64; omega
      rw [hS]
      go_wp2_with fail
      go_ret
      exact ⟨by first | rfl | exact ret_int hw, rfl⟩
  · have hT1 := HT.out
    have hneg : ¬ (lo ≤ v ∧ v ≤ hi) := fun h => ha h.1
    go_wp2_with fail
    · rename_i hk
      go_ret
      refine ⟨?_, rfl⟩
      unfold withinS
      rw [if_neg hneg, if_pos hk]
      generalize v.tmod (hi - lo + 1) = r at hT1 hk ⊢
      rfl
    · rename_i hk
      go_ret
      refine ⟨?_, rfl⟩
      unfold withinS
      rw [if_neg hneg, if_neg (show ¬ v.tmod (hi - lo + 1) < 0 by omega)]
      generalize v.tmod (hi - lo + 1) = r at hT1 hk ⊢
      rfl
end Go.Proofs.YtbjkljmhhpoooaaDoor
