/- Plain laws: the loops of the second reading of a line, and the line. -/
import Derived.Test.YtbjkljmhhpoooaaDoorPlainD
namespace Go.Proofs.YtbjkljmhhpoooaaDoor
open Go.RowKit Go.Proofs.YtbjkljmhhpoooaaDoor.PScriptLines Go.Proofs.YtbjkljmhhpoooaaDoorW.PrintWords
set_option linter.unusedVariables false

/-- what the second reading answers when the first pass is through -/
def lastR (kind : Nat) (eF : EnSt) : Int × Int × Int × Int × Int × Int × List Int × Int := if eF.wide then ((kind : Int), 0, 0, 0, 0, 0, ([] : List Int), 155) else flds kind eF
theorem line_l1 (kind : Nat) (fs : List Nat) (ws : List ByteArray) (hl : ws.length = fs.length + 1) (hf : ∀ f, f ∈ fs → f ≤ 9) (hn : numsLeft fs ≤ 3) (K0 : Nat) (hz : ∀ j, (ws.getD j ByteArray.empty).size + 20 ≤ K0) (hz2 : ∀ j, (ws.getD j ByteArray.empty).size ≤ 1099511627776) (h5 : fs.length ≤ 5) :
    ∀ (n i k : Nat) (e eF : EnSt), i + n = fs.length → n + K0 ≤ k → e.nums = numsLeft (fs.take i) → e.ch ≤ 255 → e.wide = false → enRun (fs.drop i) ((strL (ws.drop 1)).drop i) e = .inr eF →
    jotterref15_Line.l1 (k + 1) ws kind (wList fs 0) i kind e.site e.a e.b e.c e.ch (ints e.by_) 0 = some (lastR kind eF)
  | 0, i, k, e, eF, hi, hk, hen, hc, hw, hr => by
    obtain rfl : i = fs.length := by omega
    rw [List.drop_eq_nil_iff.2 (Nat.le_refl _)] at hr
    simp only [enRun] at hr
    injection hr with hr
    rw [l1_end, ← hr]
    unfold lastR
    rw [hw]
    rfl
  | n + 1, i, k, e, eF, hi, hk, hen, hc, hw, hr => by
    have hlt : i < fs.length := by omega
    obtain ⟨k, rfl⟩ : ∃ j, k = j + 1 := ⟨k - 1, by omega⟩
    have hk1 : n + K0 ≤ k := by omega
    have hk2 : (ws.getD (i + 1) ByteArray.empty).size + 20 ≤ k + 1 := by have := hz (i + 1); omega
    have hlw : i + 1 < ws.length := by omega
    have hi' : i + 1 + n = fs.length := by omega
    clear hi hk
    have hroom := room fs hn i hlt
    rw [← hen] at hroom
    rw [fs_drop fs i hlt, strL_drop ws i hlw] at hr
    simp only [enRun] at hr
    rw [l1_round kind fs ws hl h5 i (k + 1) hlt, ← hen]
    cases hs : enStep (fs.getD i 0) (ws.getD (i + 1) ByteArray.empty).data.toList e with
    | inl x => rw [hs] at hr; cases hr
    | inr e' =>
      rw [hs] at hr
      simp only [] at hr
      obtain ⟨hn', hc'⟩ := take_nums fs ws hf hn i hlt e e' hen hc hs
      obtain ⟨v, hv, hwv, hwith⟩ := value_ref (fs.getD i 0) kind (ws.getD (i + 1) ByteArray.empty) e e' (k + 1) hk2 (hz2 (i + 1)) (form_at fs hf i hlt) hroom hs
      rw [hv]
      simp only [Option.bind_some]
      by_cases h1 : v < (wOf (fs.getD i 0) e.nums).f1
      · rw [if_pos h1]
        have hw' : e'.wide = true := by rw [hwv, decide_eq_true h1]; simp
        unfold lastR
        rw [enRun_wide _ _ _ _ hr hw']; rfl
      · rw [if_neg h1]
        by_cases h2 : (wOf (fs.getD i 0) e.nums).f2 < v
        · rw [if_pos h2]
          have hw' : e'.wide = true := by rw [hwv, decide_eq_true h2]; simp
          unfold lastR
          rw [enRun_wide _ _ _ _ hr hw']; rfl
        · rw [if_neg h2, hwith]
          have hw' : e'.wide = false := by rw [hwv, hw, decide_eq_false h1, decide_eq_false h2]; rfl
          exact line_l1 kind fs ws hl hf hn K0 hz hz2 h5 n (i + 1) k e' eF hi' hk1 hn' hc' hw' hr
def ansR (kind : Nat) : Nat ⊕ EnSt → Int × Int × Int × Int × Int × Int × List Int × Int
  | .inl x => ((kind : Int), 0, 0, 0, 0, 0, ([] : List Int), (x : Int))
  | .inr eF => lastR kind eF
theorem line_l0 (kind : Nat) (fs : List Nat) (ws : List ByteArray) (hl : ws.length = fs.length + 1) (hf : ∀ f, f ∈ fs → f ≤ 9) (hn : numsLeft fs ≤ 3) (K0 : Nat) (hz : ∀ j, (ws.getD j ByteArray.empty).size + 20 ≤ K0) (hz2 : ∀ j, (ws.getD j ByteArray.empty).size ≤ 1099511627776) (h5 : fs.length ≤ 5) :
    ∀ (n i k : Nat) (e : EnSt), i + n = fs.length → n + fs.length + K0 + 1 ≤ k → e.nums = numsLeft (fs.take i) → e.ch ≤ 255 → enRun (fs.take i) ((strL (ws.drop 1)).take i) st0 = .inr e →
    jotterref15_Line.l0 (k + 1) ws kind (wList fs 0) i = some (ansR kind (enRun fs (strL (ws.drop 1)) st0))
  | 0, i, k, e, hi, hk, hen, hc, hr => by
    obtain rfl : i = fs.length := by omega
    obtain ⟨k, rfl⟩ : ∃ j, k = j + 1 := ⟨k - 1, by omega⟩
    have hk1 : fs.length + K0 ≤ k := by omega
    have hlen : (strL (ws.drop 1)).length ≤ fs.length := by simp [strL]; omega
    rw [List.take_of_length_le (Nat.le_refl _), List.take_of_length_le hlen] at hr
    rw [l0_end, hr]
    exact line_l1 kind fs ws hl hf hn K0 hz hz2 h5 fs.length 0 k st0 e (Nat.zero_add _) hk1 rfl (by decide) rfl hr
  | n + 1, i, k, e, hi, hk, hen, hc, hr => by
    have hlt : i < fs.length := by omega
    obtain ⟨k, rfl⟩ : ∃ j, k = j + 1 := ⟨k - 1, by omega⟩
    have hk1 : n + fs.length + K0 + 1 ≤ k := by omega
    have hk2 : (ws.getD (i + 1) ByteArray.empty).size + 20 ≤ k + 1 := by have := hz (i + 1); omega
    have hlw : i < (ws.drop 1).length := by simp; omega
    have hi' : i + 1 + n = fs.length := by omega
    have hlen : (fs.take i).length = ((strL (ws.drop 1)).take i).length := by simp [strL]; omega
    clear hi hk
    have hroom := room fs hn i hlt
    have hget : (ws.drop 1).getD i ByteArray.empty = ws.getD (i + 1) ByteArray.empty := by simp [List.getD_eq_getElem?_getD]
    rw [l0_round kind fs ws hl h5 i (k + 1) hlt]
    have hform : jotterref15_formed.f (k + 1) (wOf (fs.getD i 0) (numsLeft (fs.take i))).f0 (wOf (fs.getD i 0) (numsLeft (fs.take i))).f1 (wOf (fs.getD i 0) (numsLeft (fs.take i))).f2 (ws.getD (i + 1) ByteArray.empty) = some (match enStep (fs.getD i 0) (ws.getD (i + 1) ByteArray.empty).data.toList e with | .inl x => (x : Int) | .inr _ => 0) := by
      rcases hroom with h2 | h2
      · exact formed_ref _ _ _ e (k + 1) hk2 (hz2 (i + 1)) (form_at fs hf i hlt) h2
      · rw [wOf_any _ _ (form_at fs hf i hlt) h2]
        exact formed_ref _ _ _ e (k + 1) hk2 (hz2 (i + 1)) (form_at fs hf i hlt) (Nat.zero_le _)
    rw [hform]
    simp only [Option.bind_some]
    cases hs : enStep (fs.getD i 0) (ws.getD (i + 1) ByteArray.empty).data.toList e with
    | inl x =>
      have hstop := enRun_stop (fs.take i) (fs.drop (i + 1)) ((strL (ws.drop 1)).take i) ((strL (ws.drop 1)).drop (i + 1)) (fs.getD i 0) _ st0 e x hlen hr hs
      have e1 := fs_split fs i hlt
      have e2 := strL_split (ws.drop 1) i hlw
      rw [hget] at e2
      rw [← e1, ← e2] at hstop
      rw [hstop, if_neg (step_bad _ _ _ _ hs)]
      rfl
    | inr e' =>
      obtain ⟨hn', hc'⟩ := take_nums fs ws hf hn i hlt e e' hen hc hs
      rw [if_pos rfl]
      refine line_l0 kind fs ws hl hf hn K0 hz hz2 h5 n (i + 1) k e' hi' hk1 hn' hc' ?_
      rw [fs_get fs i hlt, strL_get (ws.drop 1) i hlw, enRun_snoc _ _ _ _ _ hlen, hr, hget]
      exact hs
end Go.Proofs.YtbjkljmhhpoooaaDoor
