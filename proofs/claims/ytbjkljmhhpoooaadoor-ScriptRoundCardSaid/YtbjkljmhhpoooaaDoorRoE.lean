/- jotterlaw15.ScriptRound: the row (every input) and its card. -/
import Derived.Test.YtbjkljmhhpoooaaDoorRoD
import Derived.Test.YtbjkljmhhpoooaaDoorOpen
import Derived.Test.YtbjkljmhhpoooaaDoorRefR
import Derived.Test.YtbjkljmhhpoooaaDoorRowL
import Derived.Test.YtbjkljmhhpoooaaDoorWit
import Derived.Test.YtbjkljmhhpoooaaDoorLeaving
import Derived.Test.YtbjkljmhhpoooaaDoorCards
import Derived.Test.YtbjkljmhhpoooaaDoorTie
import Derived.Test.YtbjkljmhhpoooaaDoorShelf
import Derived.ProofKit
import Derived.OpenShut
import Derived.ChangeMaps5
import Derived.SevenTiedAt
import Derived.Deep.DeepWitnessRowRef
namespace Go.Proofs.YtbjkljmhhpoooaaDoor.scriptRound
open Go.ChangeShapes Go.WideShapes Go.ChangeAt Go.RowKit Go.ChangeMaps Go.Conc Go.Co
set_option linter.unusedVariables false

theorem room : Tryd.prog.globals.size < (begin Tryd.prog (fun _ _ => 0) default).world.heap.size := of_decide_eq_true (by kernel_rfl)
theorem globals_low {W : World} (h : W.ShapedOpen Tryd.prog) : Tryd.prog.globals.size ≤ W.heap.size := by
  obtain ⟨o, _, ho, _⟩ := h.2 Tryd.prog.globals.size (Nat.le_refl _) room
  exact Nat.le_of_lt (Array.getElem?_eq_some_iff.1 ho).1
theorem own : ownKnob Tryd.prog.godebug = none := by kernel_rfl
theorem agg_of {P : Program} {w : World} {r : Reach} {base : Nat} {t : TypeId} {v : Value} {fs : Array Field} (ht : P.underlying t = some (.struct fs)) (h : Value.okWide P w r base t v) : ∃ cs, v = .agg cs := by
  unfold Value.okWide at h
  rw [ht] at h
  obtain ⟨cs, rfl, _⟩ := h
  exact ⟨cs, rfl⟩

set_option maxRecDepth 100000 in
theorem runs (H : Type) (enc : TypeId × Value → H) (F : Stop.Interp) (W : World) (base : Nat) (args : Array Value) (ds gs : List (DataW H)) (before : List MemPlace)
    (hval0 : ∀ (j : Nat) t v, Tryd.f4.params[j]? = some t → args[j]? = some v → Value.okWide Tryd.prog W .any base t v)
    (hW : DataW.Whole enc Tryd.prog Tryd.f4.params.toList Rows.scriptRoundSpec.vars false W args.toList ds gs before) (hL : laidMetH Tryd.prog Rows.scriptRoundRow.laid W) (hsh : W.ShapedOpen Tryd.prog) :
    ∃ M last o w' t', runNT Tryd.prog (M + 1) (solo (G (Frame.enter Tryd.prog 4 args .normal) []) W) #[] = (.ended o w', t') ∧ runN Tryd.prog M (solo (G (Frame.enter Tryd.prog 4 args .normal) []) W) = .next last ∧
      step Tryd.prog last = .ended o w' ∧ Conc.Good Tryd.prog (fun v W' => Rows.scriptRoundSpec.post enc Tryd.prog Tryd.f4 false true false false W args v W') last o w' t' := by
  have hval : ∀ (j : Nat) t v, Tryd.f4.params[j]? = some t → args[j]? = some v → Value.okWide Tryd.prog W .any base t v := hval0
  have hW' := hW
  obtain ⟨p, q, hA0, hV0, rfl, _, _⟩ := hW
  have hA : DataW.TrodAll enc Tryd.prog W 0 (fun _ => true) true Tryd.f4.params.toList args.toList ds p := hA0
  rw [Tryd.params4] at hA hval
  obtain ⟨v0, v1, v2, d0, d1, d2, p0, p1, p2, rfl, rfl, rfl, h0, h1, h2⟩ := trodAll_three hA
  obtain ⟨rfl, rfl⟩ := trodVars_none hV0
  obtain ⟨fs0, ht0, _⟩ := plan_fields
  obtain ⟨fs2, ht2, _⟩ := ent_fields
  obtain ⟨c0, rfl⟩ := agg_of ht0 (hval 0 31 v0 rfl rfl)
  obtain ⟨c2, rfl⟩ := agg_of ht2 (hval 2 25 v2 rfl rfl)
  obtain ⟨n1, rfl, rfl, rfl, wn⟩ := open_int und_int (hval 1 3 v1 rfl rfl) h1
  obtain ⟨f0, g0⟩ := h0
  obtain ⟨f2, g2⟩ := h2
  obtain ⟨cl, A, k, cap, e0, hcl, hraw⟩ := open_plan g0
  obtain ⟨R, AR, cR, e2, hR, hR1, hR2, hR3⟩ := open_entry g2
  have e0' : c0 = #[.int .i64 cl, .slice A k cap] := Array.toList_inj.1 e0
  have e2' : c2 = rawArr R AR cR := Array.toList_inj.1 e2
  subst e0' e2'
  clear hA0 hV0 hval0 hA e0 e2
  obtain ⟨m, hm⟩ := Tryd.laysM145.s1_3 W hsh
  obtain ⟨⟨V, o, cap', Fo, C, hv⟩, hp⟩ := laid_refused hL
  simp only [List.append_nil] at hW'
  obtain ⟨N, last, o', w', t', h1', h2', h3', h4'⟩ := round_run cl n1 A k cap R AR cR W hcl (bounds_i64 wn) hraw hR hR1 hR2 hR3 m V o cap' Fo C hm hv hp (globals_low hsh)
  refine ⟨N, last, o', w', t', h1', h2', h3', h4'.mono fun v ⟨he, hb⟩ => ?_⟩
  subst he
  have hsp : ∀ k, k < W.heap.size → (fun b => decide (b < W.heap.size)) k = true := fun k hk => decide_eq_true hk
  exact ⟨_, _, _, [], _, [], hW', trodAll_mk1 (shut_bool Tryd.underlying4 true), ⟨p0, _, ⟨f0, again_plan hb.block hsp _ _ _ g0⟩, ⟨[], _, shut_int und_int wn, ⟨p2, [], ⟨f2, again_entry hb.block hsp _ _ _ g2⟩, rfl, rfl⟩, rfl⟩, rfl⟩, rfl, hb.frame _, fun h => by cases h⟩

noncomputable def args0 : Array Value := #[.agg #[.int .i64 0, .slice none 0 0], .int .i64 0, .agg #[.int .i64 0, .int .i64 0, .int .i64 0, .int .i64 0, .int .i64 0, .int .u8 0, .slice none 0 0, .int .i64 0]]
theorem witness_row (os : Os) {H : Type} (enc : TypeId × Value → H) :
    (OpenSpec.ofChange Rows.scriptRoundSpec).preRow enc Tryd.prog Tryd.f4 Rows.scriptRoundRow.domain false Rows.scriptRoundRow.laid ((laidWorldR os).forCall (fun _ _ => 0) ⟨#[], args0, []⟩).memory args0 := by
  have hw : (DataW.whole enc Tryd.prog ((laidWorldR os).forCall (fun _ _ => 0) ⟨#[], args0, []⟩).memory Tryd.f4.params.toList Rows.scriptRoundSpec.vars false args0.toList 8).map (fun x => (x.1, x.2.1)) =
      some ([.agg [.lit (.int .i64 0), .nil], .lit (.int .i64 0), .agg [.lit (.int .i64 0), .lit (.int .i64 0), .lit (.int .i64 0), .lit (.int .i64 0), .lit (.int .i64 0), .lit (.int .u8 0), .nil, .lit (.int .i64 0)]], []) := by kernel_rfl
  obtain ⟨⟨x1, x2, x3⟩, hx, hx1⟩ := Option.map_eq_some_iff.1 hw
  simp only [Prod.mk.injEq] at hx1
  obtain ⟨rfl, rfl⟩ := hx1
  exact OpenSpec.preRow_of_cond 8 hx (by kernel_rfl) (fun k hk => by cases hk) (by kernel_rfl) (laidR_met os _)

set_option maxRecDepth 100000 in
set_option maxHeartbeats 2000000 in
theorem lifted (os : Os) (started : os.Started) (H : Type) (enc : TypeId × Value → H) (F : Stop.Interp) :
    ReturnsInLeavingWide {} Tryd.checked os 4 .any ((OpenSpec.ofChange Rows.scriptRoundSpec).preRow enc Tryd.prog Tryd.f4 Rows.scriptRoundRow.domain false Rows.scriptRoundRow.laid) (((OpenSpec.ofChange Rows.scriptRoundSpec).at F).post enc Tryd.prog Tryd.f4 false true false false) := by
  refine leaving_of_row (C := Tryd.checked) (s := OpenSpec.ofChange Rows.scriptRoundSpec) own started Tryd.func4
    (witness_row_atRef (enc := enc) (C := Tryd.checked) false (laidWorldR os) args0 rfl (by kernel_rfl) (by kernel_rfl) (by kernel_rfl) (witness_row os enc)) ?_
  intro W base args ds gs before hval hW _ _ hL hsh
  exact runs H enc F W base args ds gs before hval hW hL hsh

theorem said : Rows.ScriptRoundSaid :=
  leaving.holds_of_cond_leaving 4 Tryd.f4 rfl rfl rfl rfl rfl rfl rfl ⟨rfl, rfl, rfl, rfl, rfl⟩ rfl rfl rfl rfl rfl (by kernel_rfl) Tryd.func4 (by kernel_rfl)
    (of_decide_eq_true (by kernel_rfl)) (by unfold Func.isWrapper; first | (rw [if_pos (by decide +kernel)]; kernel_rfl) | (rw [if_neg (by decide +kernel)]; exact ⟨rfl, rfl⟩))
    (fun os started H enc _ F => by rw [OpenClaim.pre_eq_preRow]; exact lifted os started H enc F)

theorem plain (f : FuncId) (fn : Func) (hf : Tryd.pinned.checked.prog.funcNamed "jotter/jotterlaw15.ScriptRound" = some f) (hfn : Tryd.pinned.checked.prog.funcs[f]? = some fn) :
    true = Tryd.pinned.checked.prog.looks [] ∧ ∀ (j : Nat) t, fn.params[j]? = some t → Tryd.pinned.checked.prog.wantsStandIn t = false := by
  obtain rfl : f = 4 := Option.some.inj ((show Tryd.prog.funcNamed "jotter/jotterlaw15.ScriptRound" = some 4 by kernel_rfl).symm.trans hf) |>.symm
  obtain rfl : fn = Tryd.f4 := (Option.some.inj (Tryd.func4.symm.trans hfn)).symm
  refine ⟨by kernel_rfl, fun j t ht => ?_⟩
  rw [Tryd.params4] at ht
  have h : t = 31 ∨ t = 3 ∨ t = 25 := by simpa using Array.mem_of_getElem? ht
  rcases h with rfl | rfl | rfl
  · exact (show Tryd.prog.wantsStandIn 31 = false by kernel_rfl)
  · exact (show Tryd.prog.wantsStandIn 3 = false by kernel_rfl)
  · exact (show Tryd.prog.wantsStandIn 25 = false by kernel_rfl)

/-- ████ THE CARD ████ -/
theorem card : Rows.ScriptRoundCardSaid := by
  have h := Claim7.tied_new_at .later [.data, .data, .data, .data, .data, .data, .widerDeep, .pinned] true (Claim7.new_of_sixth said Rows.scriptRoundCard.stood.harness true rfl ⟨rfl, rfl⟩ (by kernel_rfl) rfl plain) (by kernel_rfl)
  refine ⟨h, ?_, scriptRound_row_tie, ?_, ?_⟩
  · intro D hD; cases hD
  · intro hd; cases hd
  · kernel_rfl
end Go.Proofs.YtbjkljmhhpoooaaDoor.scriptRound
