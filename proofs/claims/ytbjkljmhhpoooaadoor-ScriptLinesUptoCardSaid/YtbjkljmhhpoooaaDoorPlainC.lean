/- Plain laws: a line, read twice: the second reading (the printed functions) answers what script.Line answers. -/
import Derived.Test.YtbjkljmhhpoooaaDoorPlainB
import Derived.Test.YtbjkljmhhpoooaaDoorLine
namespace Go.Proofs.YtbjkljmhhpoooaaDoor
open Go.RowKit Go.Proofs.YtbjkljmhhpoooaaDoor.PScriptLines Go.Proofs.YtbjkljmhhpoooaaDoorW.PrintWords
set_option linter.unusedVariables false

theorem verb_at : ∀ i : Fin 13, jotterref15_verb.f ((i.val : Int) + 1) = some (vWords.getD i.val ByteArray.empty) := by decide +kernel
theorem kind_l0 (x : ByteArray) : ∀ (n i k : Nat), i + n = 13 → n < k → (∀ j, j < i → ¬ vWords.getD j ByteArray.empty = x) →
    jotterref15_kindOf.l0 k x ((i : Int) + 1) = some (if verbIx x < 13 then ((verbIx x : Nat) : Int) + 1 else 0)
  | 0, i, k + 1, hi, hk, hne => by
    unfold jotterref15_kindOf.l0
    rw [if_neg (by omega), if_neg]
    intro h
    have hx' : verbIx x < vWords.length := h
    have h1 := List.findIdx_getElem (w := hx')
    apply hne _ (show verbIx x < i by omega)
    rw [List.getD_eq_getElem?_getD, List.getElem?_eq_getElem hx']
    exact of_decide_eq_true h1
  | n + 1, i, k + 1, hi, hk, hne => by
    have hlt : i < 13 := by omega
    have hw : wrap64 ((i : Int) + 1 + 1) = ((i + 1 : Nat) : Int) + 1 := by rw [w64 _ (by omega)]; push_cast; rfl
    unfold jotterref15_kindOf.l0
    rw [if_pos (by omega), verb_at ⟨i, hlt⟩, hw]
    simp only [Option.bind_some]
    by_cases he : vWords.getD i ByteArray.empty = x
    · rw [if_pos (by rw [he]), verbIx_eq i x hlt hne he, if_pos hlt]
    · rw [if_neg (by
        intro h
        apply he
        rw [ByteArray.toList_eq, ByteArray.toList_eq] at h
        exact ByteArray.ext (Array.toList_inj.1 h))]
      refine kind_l0 x n (i + 1) k (by omega) (by omega) fun j hj => ?_
      rcases Nat.lt_succ_iff_lt_or_eq.1 hj with hj | rfl
      · exact hne j hj
      · exact he
theorem kind_ref (x : ByteArray) (k : Nat) (hk : 14 ≤ k) : jotterref15_kindOf.f k x = some (if verbIx x < 13 then ((verbIx x : Nat) : Int) + 1 else 0) := by
  have := kind_l0 x 13 0 k (by omega) (by omega) (fun j hj => absurd hj (by omega))
  exact this

def wOf (f nums : Nat) : S59 := if f ≤ 1 then ⟨83, lows.getD f 0, mosts.getD f 0⟩ else if f = 8 then ⟨99, 32, 126⟩ else if f = 9 then ⟨104, 0, 64⟩ else ⟨65 + nums, lows.getD f 0, mosts.getD f 0⟩
def numOf (f : Nat) : Nat := if 2 ≤ f ∧ f < 8 then 1 else 0
def wList : List Nat → Nat → List S59
  | [], _ => []
  | f :: fs, n => wOf f n :: wList fs (n + numOf f)
theorem words_at (k : Nat) (hk : 3 ≤ k) (i : Nat) (hi : i < 13) : jotterref15_words.f k ((i : Int) + 1) = some (wList (vForms.getD i []) 0) := by
  obtain ⟨k, rfl⟩ : ∃ j, k = j + 1 + 1 := ⟨k - 2, by omega⟩
  have hc : i = 0 ∨ i = 1 ∨ i = 2 ∨ i = 3 ∨ i = 4 ∨ i = 5 ∨ i = 6 ∨ i = 7 ∨ i = 8 ∨ i = 9 ∨ i = 10 ∨ i = 11 ∨ i = 12 := by omega
  rcases hc with rfl | rfl | rfl | rfl | rfl | rfl | rfl | rfl | rfl | rfl | rfl | rfl | rfl <;>
    simp [jotterref15_words.f, jotterref15_words.j0, jotterref15_words.j1, vForms, wList, wOf, numOf, lows, mosts]
end Go.Proofs.YtbjkljmhhpoooaaDoor
