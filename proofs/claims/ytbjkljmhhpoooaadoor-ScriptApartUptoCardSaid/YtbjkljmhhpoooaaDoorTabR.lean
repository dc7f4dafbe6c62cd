/- The tables that the laws of Parse and Print are laid with. -/
import Derived.Test.YtbjkljmhhpoooaaDoorTabG
import Derived.Test.YtbjkljmhhpoooaaDoorPut
namespace Go.Proofs.YtbjkljmhhpoooaaDoor
open Go.RowKit
set_option linter.unusedVariables false

theorem pow_data : (Rows.laid_internal_strconv_uint64pow10 : DataW Unit) = Lib.tabData .u64 Lib.pow10Tab := by kernel_rfl
theorem und_pow : (Tryd.prog.globals[5]?).map (·.type) = some 145 := by kernel_rfl
theorem laid_refused {w : World} (h : laidMetH Tryd.prog Rows.scriptRefusedRow.laid w) : (∃ V o cap F C, VerbsAt V o cap F C w) ∧ PowAt w := by
  have hL : laidMet Tryd.prog Rows.scriptRefusedRow.laid w := h
  obtain ⟨ps, hvars, _⟩ := hL
  obtain ⟨g0, t0, cs0, f0, p0, q0, _, _, _, _, hvars, _⟩ := hvars
  obtain ⟨g1, t1, cs1, f1, p1, q1, _, _, _, _, hvars, _⟩ := hvars
  obtain ⟨gp, tp, csp, fp, pp, qp, hgp, htp, hvp, hdp, hvars, _⟩ := hvars
  obtain ⟨g2, t2, cs2, f2, p2, q2, _, _, _, _, hvars, _⟩ := hvars
  obtain ⟨gm, tm, csm, fm, pm, qm, hgm, htm, hvm, hdm, hvars, _⟩ := hvars
  obtain ⟨gl, tl, csl, fl, pl, ql, hgl, htl, hvl, hdl, hvars, _⟩ := hvars
  obtain ⟨gv, tv, csv, fv, pv, qv, hgv, htv, hvv, hdv, _, _⟩ := hvars
  refine ⟨?_, ?_⟩
  rotate_left
  · obtain rfl : gp = 5 := Option.some.inj (hgp.symm.trans (by kernel_rfl))
    obtain rfl : tp = 145 := Option.some.inj (htp.symm.trans und_pow)
    rw [pow_data] at hdp
    unfold PowAt Lib.TabIs
    rw [hvp, ← Lib.cells_of_tab (n := 20) (e := 122) (by kernel_rfl) (by kernel_rfl) (by kernel_rfl) (by kernel_rfl) hdp]
  obtain rfl : gm = 2 := Option.some.inj (hgm.symm.trans (by kernel_rfl))
  obtain rfl : gl = 1 := Option.some.inj (hgl.symm.trans (by kernel_rfl))
  obtain rfl : gv = 0 := Option.some.inj (hgv.symm.trans (by kernel_rfl))
  obtain rfl : tm = 86 := Option.some.inj (htm.symm.trans (by kernel_rfl))
  obtain rfl : tl = 86 := Option.some.inj (htl.symm.trans (by kernel_rfl))
  obtain rfl : tv = 49 := Option.some.inj (htv.symm.trans (by kernel_rfl))
  rw [most_data] at hdm
  rw [least_data] at hdl
  rw [verbs_data] at hdv
  have cm := Lib.cells_of_tab und_arr und_int (by kernel_rfl) (by kernel_rfl) hdm
  have cl := Lib.cells_of_tab und_arr und_int (by kernel_rfl) (by kernel_rfl) hdl
  have km : ∀ f, f < 8 → w.cell? ⟨2, f, none⟩ = some (.int .i64 (mosts.getD f 0 : Nat)) := by
    intro f hf
    have h1 := World.var?_cell hgm hvm f
    rw [h1, ← Array.getElem?_toList, cm]
    rcases (by omega : f = 0 ∨ f = 1 ∨ f = 2 ∨ f = 3 ∨ f = 4 ∨ f = 5 ∨ f = 6 ∨ f = 7) with rfl | rfl | rfl | rfl | rfl | rfl | rfl | rfl <;> rfl
  have kl : ∀ f, f < 8 → w.cell? ⟨1, f, none⟩ = some (.int .i64 (lows.getD f 0 : Nat)) := by
    intro f hf
    have h1 := World.var?_cell hgl hvl f
    rw [h1, ← Array.getElem?_toList, cl]
    rcases (by omega : f = 0 ∨ f = 1 ∨ f = 2 ∨ f = 3 ∨ f = 4 ∨ f = 5 ∨ f = 6 ∨ f = 7) with rfl | rfl | rfl | rfl | rfl | rfl | rfl | rfl <;> rfl
  exact verbs_of (cap0 := 0) (by rw [World.var?_cell hgv hvv 0, ← Array.getElem?_toList]) hdv kl km
end Go.Proofs.YtbjkljmhhpoooaaDoor
