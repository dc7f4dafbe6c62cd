/- What script.header returns: of a line that begins with the word and the number of clients, that number; else 0. Of a line of at most 2^60 bytes. -/
import Derived.Test.YtbjkljmhhpoooaaDoorLine
import Derived.Test.YtbjkljmhhpoooaaDoorShlf
namespace Go.Proofs.YtbjkljmhhpoooaaDoor
open Go.RowKit
set_option linter.unusedVariables false

def clB : ByteArray := ⟨#[99, 108, 105, 101, 110, 116, 115, 32]⟩
/-- what header answers -/
def headS (s : ByteArray) : Nat :=
  if Lib.hasPrefix s.data.toList clB.data.toList = true then
    match numS (Lib.trimPrefix s.data.toList clB.data.toList) with
    | some n => if n ≤ 64 then n else 0
    | none => 0
  else 0
theorem headS_le (s : ByteArray) : headS s ≤ 64 := by
  unfold headS
  split
  · split
    · split
      · assumption
      · exact Nat.zero_le _
    · exact Nat.zero_le _
  · exact Nat.zero_le _
theorem trim_le (l p : List UInt8) : (Lib.trimPrefix l p).length ≤ l.length := by
  unfold Lib.trimPrefix
  split
  · simp
  · exact Nat.le_refl _

theorem numS_small {l : List UInt8} {n : Nat} (h : numS l = some n) : n < 1000000 := by
  unfold numS at h
  split at h
  · cases h
  · rename_i hn
    split at h
    · rename_i ha
      injection h with h
      subst h
      exact numV_lt6 l ha (by
        rcases Nat.lt_or_ge 6 l.length with h6 | h6
        · exact absurd (.inr (.inl h6)) hn
        · exact h6)
    · cases h

set_option maxRecDepth 100000 in
set_option maxHeartbeats 1000000 in
theorem header_calls (s : ByteArray) (w : World) (hs : s.size ≤ 1152921504606846976) :
    Calls Tryd.prog 36 #[.string s] w fun e w' => e = .returned (.int .i64 (headS s : Nat)) ∧ Below w.heap.size w w' := by
  have hcut := Tryd.strings_CutPrefix s clB w
  have hnum := number_calls ⟨(Lib.trimPrefix s.data.toList clB.data.toList).toArray⟩ w (by
    have := trim_le s.data.toList clB.data.toList
    have e : s.data.toList.length = s.size := rfl
    show (Lib.trimPrefix s.data.toList clB.data.toList).length ≤ _
    omega)
  unfold NumRet at hnum
  have hsm := @numS_small (Lib.trimPrefix s.data.toList clB.data.toList)
  have hg : headS s = if Lib.hasPrefix s.data.toList clB.data.toList = true then (match numS (Lib.trimPrefix s.data.toList clB.data.toList) with | some n => if n ≤ 64 then n else 0 | none => 0) else 0 := rfl
  generalize headS s = H at hg ⊢
  simp only at hnum
  have hb0 : Below w.heap.size w w := Below.refl _ _
  generalize (Lib.trimPrefix s.data.toList clB.data.toList).toArray = R at hcut hnum
  generalize numS (Lib.trimPrefix s.data.toList clB.data.toList) = N at hg hnum hsm
  generalize Lib.hasPrefix s.data.toList clB.data.toList = B at hg hcut
  unfold clB at hcut
  have HC := Lib.hid hcut
  have HN := Lib.hid hnum
  have HB0 := Lib.hid hb0
  clear hcut hnum hb0
  go_enter Tryd.func36, Tryd.ntmps36
  cases B with
  | false =>
    have hg' : H = 0 := hg
    subst hg'
    clear hg
    go_wp2_with (first | (go_at_call 51; refine HC.out.mono ?_; rintro e w1 ⟨rfl, rfl⟩) | (go_at_call 44; refine HN.out.mono ?_; rintro e w2 ⟨rfl, hb⟩))
    all_goals go_ret
    all_goals exact ⟨rfl, hb⟩
  | true =>
    rw [if_pos rfl] at hg
    cases N with
    | none =>
      have hg' : H = 0 := hg
      subst hg'
      clear hg
      go_wp2_with (first | (go_at_call 51; refine HC.out.mono ?_; rintro e w1 ⟨rfl, rfl⟩) | (go_at_call 44; refine HN.out.mono ?_; rintro e w2 ⟨rfl, hb⟩))
      all_goals go_ret
      all_goals exact ⟨rfl, hb⟩
    | some n =>
      have hn := hsm rfl
      have hg' : H = if n ≤ 64 then n else 0 := hg
      clear hg hsm
      by_cases h64 : n ≤ 64
      · rw [if_pos h64] at hg'
        subst hg'
        have hd : ¬ (H : Int) > 64 := by omega
        go_wp2_with (first | (go_at_call 51; refine HC.out.mono ?_; rintro e w1 ⟨rfl, rfl⟩) | (go_at_call 44; refine HN.out.mono ?_; rintro e w2 ⟨rfl, hb⟩))
        all_goals go_ret
        all_goals exact ⟨rfl, hb⟩
      · rw [if_neg h64] at hg'
        subst hg'
        have hd : (n : Int) > 64 := by omega
        go_wp2_with (first | (go_at_call 51; refine HC.out.mono ?_; rintro e w1 ⟨rfl, rfl⟩) | (go_at_call 44; refine HN.out.mono ?_; rintro e w2 ⟨rfl, hb⟩))
        all_goals go_ret
        all_goals exact ⟨rfl, hb⟩
end Go.Proofs.YtbjkljmhhpoooaaDoor
