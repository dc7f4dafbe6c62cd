/- The second reading of a line, and script.Line, in one form: the same entry, its bytes in a row of the call's own. -/
import Derived.Test.YtbjkljmhhpoooaaDoorAlike
namespace Go.Proofs.YtbjkljmhhpoooaaDoor
open Go.RowKit Go.Proofs.YtbjkljmhhpoooaaDoor.PScriptLines Go.Proofs.YtbjkljmhhpoooaaDoorW.PrintWords
set_option linter.unusedVariables false

theorem reps_u8 (xs : List Int) (inner : List Value) (w : World) (base : Nat) (ok : Nat → Prop) (h : Reps ((Kd.int .u8).M w base ok) 1 xs inner) : inner = xs.map fun x => Value.int .u8 x := by
  obtain ⟨hl, hr⟩ := h
  apply List.ext_getElem?
  intro j
  by_cases hj : j < xs.length
  · have h1 := hr j xs[j] (List.getElem?_eq_getElem hj)
    have h2 : (inner.drop (j * 1)).take 1 = [Value.int .u8 xs[j]] := h1
    have hji : j < inner.length := by omega
    rw [Nat.mul_one, List.drop_eq_getElem_cons hji, List.take_succ_cons, List.take_zero] at h2
    injection h2 with h2 _
    rw [List.getElem?_eq_getElem hji, h2, List.getElem?_map, List.getElem?_eq_getElem hj]
    rfl
  · rw [List.getElem?_eq_none (by omega), List.getElem?_eq_none (by simp; omega)]
theorem ref_calls (s : ByteArray) (w : World) (hs : s.size ≤ 1048576) :
    Calls Tryd.prog 11 #[.string s] w fun e w' => EntRet w.heap.size w (lineS (wordsB s)) e w' := by
  generalize hE : lineS (wordsB s) = E
  have href := line_ref s hs (s.size + 50) (Nat.le_refl _)
  rw [hE] at href
  refine (jotterref15_Line.calls (s.size + 50) s E.kind E.site E.a E.b E.c E.ch (ints E.by_) E.err w href).mono ?_
  rintro e w' ⟨v, rfl, hR, hb⟩
  refine ⟨_, rfl, ⟨v, rfl, ?_⟩, hb⟩
  obtain ⟨_, inner, ho, hr⟩ := hR
  have hi := reps_u8 _ _ _ _ _ hr
  have hu : inner = u8s E.by_ := by rw [hi]; simp [ints, u8s]
  rw [hu] at ho
  have hlen : (ints E.by_).length = E.by_.length := by simp [ints]
  rw [hlen] at ho
  exact ho
/-- The form for the walk: the entry written out. -/
def EntOut (w : World) (E : Ent) (e : Ending) (w' : World) : Prop :=
  ∃ A c, e = .returned (.agg #[.int .i64 E.kind, .int .i64 E.site, .int .i64 E.a, .int .i64 E.b, .int .i64 E.c, .int .u8 E.ch, .slice A E.by_.length c, .int .i64 E.err]) ∧ w'.ownsRow w.heap.size 5 1 (.slice A E.by_.length c) E.by_.length (u8s E.by_) ∧ Below w.heap.size w w'
theorem EntRet.out {w w' : World} {E : Ent} {e : Ending} (h : EntRet w.heap.size w E e w') : EntOut w E e w' := by
  obtain ⟨v, rfl, ⟨bv, rfl, ho⟩, hb⟩ := h
  obtain ⟨A, c, rfl⟩ := own_form ho
  exact ⟨A, c, rfl, ho, hb⟩
theorem hexP_len (l : List UInt8) : (hexP l).length ≤ l.length := by rw [hexP_length]; omega
theorem lit1 : lineS (wordsB ⟨#[99, 114, 97, 115, 104, 32, 51, 32, 48, 32, 50, 53, 53]⟩) = ⟨10, 0, 3, 0, 255, 0, [], 0⟩ := by kernel_rfl
theorem lit2 : lineS (wordsB ⟨#[102, 111, 114, 103, 101, 32, 49, 32, 102, 102, 101, 101]⟩) = ⟨13, 1, 0, 0, 0, 0, [255, 238], 0⟩ := by kernel_rfl
end Go.Proofs.YtbjkljmhhpoooaaDoor
