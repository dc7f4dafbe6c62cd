/-
  jotterlaw15.ScriptRefused: the whole run.
-/
import Derived.Test.YtbjkljmhhpoooaaDoorRefd
namespace Go.Proofs.YtbjkljmhhpoooaaDoor
open Go.Conc Go.Co Go.Proofs Go.RowKit
set_option linter.unusedVariables false

theorem Abv.frame {W w' : World} (h : Abv W.heap.size W w') (may : MemPlace → Prop) : W.keptBut w' may :=
  (show Below W.heap.size W (w'.on W.tape w'.drawn) from ⟨h.os, rfl, h.output, h.size, h.block⟩).frame may

noncomputable def T0R (s : ByteArray) : Array Value := ⟨.string s :: List.replicate 66 undef⟩
noncomputable def T1R (s : ByteArray) : Array Value := (T0R s).setIfInBounds 2 (.bool false)
noncomputable def T2R (s : ByteArray) : Array Value := (T1R s).setIfInBounds 7 (.bool true)
noncomputable def T3R (s : ByteArray) : Array Value := (T2R s).setIfInBounds 8 (.bool false)
theorem T3R_eq (s : ByteArray) : T3R s = #[.string s, undef, .bool false, undef, undef, undef, undef, .bool true, .bool false, undef, undef, undef, undef, undef, undef, undef, undef, undef, undef, undef, undef, undef, undef, undef, undef, undef, undef, undef, undef, undef, undef, undef, undef, undef, undef, undef, undef, undef, undef, undef, undef, undef, undef, undef, undef, undef, undef, undef, undef, undef, undef, undef, undef, undef, undef, undef, undef, undef, undef, undef, undef, undef, undef, undef, undef, undef, undef] := by kernel_rfl
noncomputable def frR (s : ByteArray) : Frame := (base 6).at ⟨T1R s, []⟩ [.inRegion ops1R [0, 1], .code condR, .code restR]
noncomputable def startR (s : ByteArray) : Goroutine := G ((base 6).at ⟨T0R s, []⟩ [.code bodyR]) []
set_option maxRecDepth 100000 in
theorem startR_eq (s : ByteArray) : G (Frame.enter Tryd.prog 6 #[.string s] .normal) [] = startR s := by
  have hb : Tryd.f6.body = some bodyR := rfl
  have ht : (#[.string s] : Array Value) ++ Array.replicate (67 - (#[.string s] : Array Value).size) undef = T0R s := by kernel_rfl
  rw [enter_at (c := bodyR) _ Tryd.func6 hb, Tryd.ntmps6, ht]
  rfl
set_option maxRecDepth 100000 in
theorem refused_entry (s : ByteArray) (w0 : World) : Co.Way Tryd.prog true (Rely None') (Guar None') (fun a w => a = startFx [frR s] ∧ Rely None' w0 w) (startR s) w0 := by
  unfold startR
  refine way_silent (mildR _) rfl (fun _ => stepG_seq) ?_
  refine way_silent (mildR _) rfl (fun _ => stepG_region) ?_
  refine way_pure' (mildR _) ⟨T1R s, []⟩ rfl rfl (by decide) (fun _ _ => rfl) rfl ?_
  refine way_silent (mildR _) rfl (fun _ => stepG_region_end) ?_
  refine way_silent (mildR _) rfl (fun _ => stepG_seq) ?_
  refine way_silent (mildR _) rfl (fun _ => stepG_seq) ?_
  refine way_silent (mildR _) rfl (fun _ => stepG_region) ?_
  refine way_enter (mildR _) #[] rfl rfl (by decide) rfl Tryd.func17 rfl (by kernel_rfl) (by simp only [List.map_toArray, List.map_nil]) ?_
  exact Co.Way.stop fun w1 h1 => ⟨rfl, h1⟩

section
variable (w0 : World) (m : Int) (V o cap : Nat) (F : Nat → Option Addr) (C : Nat → Nat)
  (hm : w0.cell? ⟨4, 0, none⟩ = some (.int .i64 m)) (hv : VerbsAt V o cap F C w0) (hp : PowAt w0) (hgs : Tryd.prog.globals.size ≤ w0.heap.size)
include hm hv hp
theorem refused_rest {s : ByteArray} (hs : s.size ≤ 1048576) {w : World} (hA : Abv w0.heap.size w0 w) :
    Co.Way Tryd.prog true (Rely None') (Guar None') (AtEnd' Tryd.prog fun v w' => v = .bool true ∧ Abv w0.heap.size w0 w') (G ((frR s).finish (.bool true)) []) w := by
  have hd : (ops1R[0]?).bind (·.dst) = some 7 := by kernel_rfl
  have hfin : (frR s).finish (.bool true) = (base 6).at ⟨T2R s, []⟩ [.inRegion ops1R [1], .code condR, .code restR] := by
    unfold frR
    rw [Frame.finish_at, hd]
    simp only [Act.put, T2R]
  rw [hfin]
  refine way_pure' (mildR _) ⟨T3R s, []⟩ rfl rfl (by decide) (fun _ _ => rfl) rfl ?_
  refine way_silent (mildR _) rfl (fun _ => stepG_region_end) ?_
  refine way_silent (mildR _) rfl (fun _ => stepG_cond (t := false) rfl) ?_
  refine way_silent (mildR _) rfl (fun _ => stepG_skip) ?_
  refine (lift_body (b := base 6) (a := ⟨T3R s, []⟩) (c := restR) ready2 codes2 true [] restR_ok restR_brought rfl (veil_none w)
    (Q := fun a' v' => ∃ T, a' = ⟨T, []⟩ ∧ T[2]? = some (.bool true) ∧ Abv w0.heap.size w0 v') ?_ ?_).then (Rely.refl _) ?_
  · rintro a v t d ⟨T', h1, h2, h6⟩
    exact ⟨T', h1, h2, ⟨h6.os, h6.output, h6.size, h6.block⟩⟩
  · intro t d
    have hAt : Abv w0.heap.size w0 (w.on t d) := ⟨hA.os, hA.output, hA.size, hA.block⟩
    rw [T3R_eq]
    refine Code.wp_mono ?_ (rest_refused s hs (w.on t d) m V o cap F C (cell_abv hm hAt) (verbs_abv hv hAt) (pow_abv w0 hp hAt))
    intro e a' w' h
    cases e with
    | ret =>
      obtain ⟨T', h1, h2, h6⟩ := h
      exact ⟨rfl, T', h1, h2, hA.trans ⟨h6.os, h6.output, h6.size, fun k hk => h6.block k (Nat.lt_of_lt_of_le hk hA.size)⟩⟩
    | _ => exact h.elim
  · rintro g w' ⟨a', todo, v', ⟨T', rfl, h2, h6⟩, _, rfl, hv'⟩
    have hAw : Abv w0.heap.size w0 w' := ⟨hv'.os.trans h6.os, hv'.output.trans h6.output, by rw [hv'.size]; exact h6.size, fun k hk => (veil_none_heap hv' k).trans (h6.block k hk)⟩
    refine Co.Way.stop fun w1 h1 => at_end (b := base 6) (a := ⟨T', []⟩) (todo := todo) (fn := Tryd.f6) (v := .bool true) rfl rfl Tryd.func6 (by kernel_rfl) ?_ ⟨rfl, hAw.rely h1 fun _ h => h.elim⟩
    simp [results, Tryd.results6, h2]

include hgs in
/-- ████ THE RUN ████ -/
theorem refused_run {s : ByteArray} (hs : s.size ≤ 1048576) : EvEnd Tryd.prog (solo (G (Frame.enter Tryd.prog 6 #[.string s] .normal) []) w0) #[] (fun v w' => v = .bool true ∧ Abv w0.heap.size w0 w') := by
  rw [startR_eq]
  have h0 : Done Tryd.prog (fun a w => a = startR s ∧ w = w0) 1 (solo (startR s) w0) #[] := done_first ⟨rfl, rfl⟩
  refine (beside (P := Tryd.prog) (Stop := fun a w => a = startFx [frR s] ∧ Rely None' w0 w) ?_ (h0.mono ?_)).ends fun m1 t1 h1 => ?_
  · rintro g w ⟨rfl, _⟩; rfl
  · rintro a w ⟨rfl, rfl⟩
    exact refused_entry s w
  obtain ⟨a, w1, ⟨rfl, hr⟩, h1⟩ := h1.fix
  have hA : Abv w0.heap.size w0 w1 := (Abv.refl _ w0).rely hr fun _ h => h.elim
  refine (fixed_done w1 m V o cap F C (cell_abv hm hA) (verbs_abv hv hA) (pow_abv w0 hp hA) (Nat.le_trans hgs hA.size) h1).ends fun m2 t2 h2 => ended (h2.mono ?_)
  rintro a w ⟨rfl, hA2⟩
  exact refused_rest w0 m V o cap F C hm hv hp hs (hA.trans (hA2.mono hA.size))
end
end Go.Proofs.YtbjkljmhhpoooaaDoor
