/-
  STAGES IN COMPANY: a call of script.Parse on a plan's text; a call of the laws' fixed run.
-/
import Derived.Test.YtbjkljmhhpoooaaDoorFix
namespace Go.Proofs.YtbjkljmhhpoooaaDoor
open Go.Conc Go.Co Go.Proofs Go.RowKit
set_option linter.unusedVariables false

theorem line_len : ∀ (L : List (List UInt8)) (x : List UInt8), x ∈ L → x.length ≤ (L.flatMap (· ++ [10])).length
  | y :: L, x, h => by
    rw [List.flatMap_cons, List.length_append, List.length_append]
    rcases List.mem_cons.1 h with rfl | h
    · omega
    · have := line_len L x h; omega

section
variable (w0 : World) (m : Int) (V o cap : Nat) (F : Nat → Option Addr) (C : Nat → Nat)
  (hm : w0.cell? ⟨4, 0, none⟩ = some (.int .i64 m)) (hv : VerbsAt V o cap F C w0) (hp : PowAt w0) (hgs : Tryd.prog.globals.size ≤ w0.heap.size)
include hm hv hgs in
/-- A call of Parse on a plan's text. -/
theorem parse_plan {c : Frame} {cs : List Frame} {n : Nat} (hn1 : 1 ≤ n) (hn2 : n ≤ 64) {ls : List (List UInt8)} (h10 : ∀ x ∈ ls, (10 : UInt8) ∉ x) (hl : ls.length ≤ 1024) (hz : (planW n ls).length ≤ 65536) {k : Nat} {mc : Machine} {t : Trace}
    (h : Done Tryd.prog (fun a w => a = GP (T0P (strB (planW n ls))) [.code bodyP] (c :: cs) ∧ w = w0) k mc t) :
    Ev Tryd.prog mc t (Done Tryd.prog (fun a w => ∃ sv, a = G (c.finish (.tuple #[.agg #[.int .i64 (n : Int), sv], .nilIface])) cs ∧ EntsAt w w0.heap.size sv (ls.map readL) ∧ Abv w0.heap.size w0 w) (k + 1)) := by
  have hst := plan_fold n hn1 hn2 ls hl
  refine parse_done w0 m V o cap F C hm hv hgs (s := strB (planW n ls)) (by exact hz) (ls := ((clB.data.toList ++ Lib.decDigits n) :: ls).map ofL) (plan_lines n ls h10) ?_ hst (by show n ≠ 0; omega) rfl h
  intro x hx
  obtain ⟨y, hy, rfl⟩ := List.mem_map.1 hx
  have := line_len _ y hy
  have e : (ofL y).size = y.length := rfl
  unfold planW at hz
  omega

include hm hv hp hgs in
/-- A call of the fixed run. -/
theorem fixed_done {c : Frame} {cs : List Frame} {k : Nat} {mc : Machine} {t : Trace} (h : Done Tryd.prog (fun a w => a = startFx (c :: cs) ∧ w = w0) k mc t) :
    Ev Tryd.prog mc t (Done Tryd.prog (fun a w => a = G (c.finish (.bool true)) cs ∧ Abv w0.heap.size w0 w) (k + 1)) := by
  refine (beside (P := Tryd.prog) (Stop := fun a w => a = GP (T0P txtF) [.code bodyP] (frFx :: c :: cs) ∧ Rely None' w0 w) ?_ (h.mono ?_)).then fun m1 t1 h1 => ?_
  · rintro g w ⟨rfl, _⟩; rfl
  · rintro a w ⟨rfl, rfl⟩
    exact fixed_entry w (c :: cs)
  obtain ⟨a, w1, ⟨rfl, hr⟩, h1⟩ := h1.fix
  have hA : Abv w0.heap.size w0 w1 := (Abv.refl _ w0).rely hr fun _ h => h.elim
  have hm1 := cell_abv hm hA
  have hv1 := verbs_abv hv hA
  rw [← txtF_eq] at h1
  refine (parse_plan w1 m V o cap F C hm1 hv1 (Nat.le_trans hgs hA.size) (n := 2) (by decide) (by decide) (ls := [eF1, eF2].map writW) ?_ (by decide) ?_ h1).then fun m2 t2 h2 => ?_
  · intro x hx
    obtain ⟨e, he, rfl⟩ := List.mem_map.1 hx
    exact writW_no10 (meant_F e he)
  · have := planW_len 2 (by decide) [eF1, eF2] meant_F
    simp only [List.length_cons, List.length_nil] at this
    omega
  refine beside ?_ (h2.mono ?_)
  · rintro g w ⟨rfl, _⟩; rfl
  · rintro a w ⟨sv, rfl, hes, hA2⟩
    rw [read_writ meant_F] at hes
    exact fixed_rest w0 m V o cap F C hm hv hp hes (hA.trans (hA2.mono (by exact hA.size)))
end
end Go.Proofs.YtbjkljmhhpoooaaDoor
