/- jotterlaw15.ScriptRefused: the row, where what it reads is of bulk at most 1048576, and its card. -/
import Derived.Test.YtbjkljmhhpoooaaDoorRefR
import Derived.Test.YtbjkljmhhpoooaaDoorRowL
import Derived.Test.YtbjkljmhhpoooaaDoorWit
import Derived.Test.YtbjkljmhhpoooaaDoorBulk
import Derived.Test.YtbjkljmhhpoooaaDoorLeaving
import Derived.Test.YtbjkljmhhpoooaaDoorCards
import Derived.Test.YtbjkljmhhpoooaaDoorTie
import Derived.Test.YtbjkljmhhpoooaaDoorShelf
import Derived.ProofKit
import Derived.OpenShut
import Derived.ChangeMaps5
import Derived.SevenTiedAt
import Derived.Deep.DeepWitnessRowRef
namespace Go.Proofs.YtbjkljmhhpoooaaDoor.scriptRefused
open Go.ChangeShapes Go.WideShapes Go.ChangeAt Go.RowKit Go.ChangeMaps Go.Conc Go.Co
set_option linter.unusedVariables false

theorem room : Tryd.prog.globals.size < (begin Tryd.prog (fun _ _ => 0) default).world.heap.size := of_decide_eq_true (by kernel_rfl)
theorem globals_low {W : World} (h : W.ShapedOpen Tryd.prog) : Tryd.prog.globals.size ≤ W.heap.size := by
  obtain ⟨o, _, ho, _⟩ := h.2 Tryd.prog.globals.size (Nat.le_refl _) room
  exact Nat.le_of_lt (Array.getElem?_eq_some_iff.1 ho).1
theorem own : ownKnob Tryd.prog.godebug = none := by kernel_rfl

set_option maxRecDepth 100000 in
theorem runs (H : Type) (enc : TypeId × Value → H) (F : Stop.Interp) (W : World) (base : Nat) (args : Array Value) (ds gs : List (DataW H)) (before : List MemPlace)
    (hval0 : ∀ (j : Nat) t v, Tryd.f6.params[j]? = some t → args[j]? = some v → Value.okWide Tryd.prog W .any base t v)
    (hW : DataW.Whole enc Tryd.prog Tryd.f6.params.toList Rows.scriptRefusedSpec.vars false W args.toList ds gs before) (hcond : Rows.uptoSmall H (ds ++ gs) = true) (hL : laidMetH Tryd.prog Rows.scriptRefusedUptoRow.laid W) (hsh : W.ShapedOpen Tryd.prog) :
    ∃ M last o w' t', runNT Tryd.prog (M + 1) (solo (G (Frame.enter Tryd.prog 6 args .normal) []) W) #[] = (.ended o w', t') ∧ runN Tryd.prog M (solo (G (Frame.enter Tryd.prog 6 args .normal) []) W) = .next last ∧
      step Tryd.prog last = .ended o w' ∧ Conc.Good Tryd.prog (fun v W' => Rows.scriptRefusedSpec.post enc Tryd.prog Tryd.f6 false true false false W args v W') last o w' t' := by
  have hval : ∀ (j : Nat) t v, Tryd.f6.params[j]? = some t → args[j]? = some v → Value.okWide Tryd.prog W .any base t v := hval0
  have hW' := hW
  obtain ⟨p, q, hA0, hV0, rfl, _, _⟩ := hW
  have hA : DataW.TrodAll enc Tryd.prog W 0 (fun _ => true) true Tryd.f6.params.toList args.toList ds p := hA0
  rw [Tryd.params6] at hA hval
  obtain ⟨v0, d0, rfl, rfl, h0⟩ := trodAll_one hA
  obtain ⟨rfl, rfl⟩ := trodVars_none hV0
  obtain ⟨s, rfl, rfl, rfl, ws⟩ := open_string Tryd.underlying9 (hval 0 9 v0 rfl rfl) h0
  clear hA0 hV0 hval0
  have hs : s.size ≤ 1048576 := by
    have hb := bulks.bound hcond
    simp only [List.append_nil, Rows.uptoBulkAll] at hb
    rw [bulks.string_eq] at hb
    have : s.data.toList.length = s.size := by simp
    omega
  obtain ⟨m, hm⟩ := Tryd.laysM145.s1_3 W hsh
  obtain ⟨⟨V, o, cap, Fo, C, hv⟩, hp⟩ := laid_refused hL
  simp only [List.append_nil] at hW'
  obtain ⟨N, last, o', w', t', h1, h2, h3, h4⟩ := refused_run W m V o cap Fo C hm hv hp (globals_low hsh) hs
  refine ⟨N, last, o', w', t', h1, h2, h3, h4.mono fun v ⟨he, hb⟩ => ?_⟩
  subst he
  exact ⟨_, _, _, [], _, [], hW', trodAll_mk1 (shut_bool Tryd.underlying4 true), trodAll_mk1 (shut_string Tryd.underlying9 ws), rfl, hb.frame _, fun h => by cases h⟩

theorem witness_row (os : Os) {H : Type} (enc : TypeId × Value → H) :
    (Rows.OpenSpec.upto Rows.scriptRefusedSpec).preRow enc Tryd.prog Tryd.f6 Rows.scriptRefusedUptoRow.domain false Rows.scriptRefusedUptoRow.laid ((laidWorldR os).forCall (fun _ _ => 0) ⟨#[], #[.string ⟨#[]⟩], []⟩).memory #[.string ⟨#[]⟩] := by
  have hw : (DataW.whole enc Tryd.prog ((laidWorldR os).forCall (fun _ _ => 0) ⟨#[], #[.string ⟨#[]⟩], []⟩).memory Tryd.f6.params.toList Rows.scriptRefusedSpec.vars false #[Value.string ⟨#[]⟩].toList 8).map (fun x => (x.1, x.2.1)) =
      some ([.lit (.string [])], []) := by kernel_rfl
  obtain ⟨⟨x1, x2, x3⟩, hx, hx1⟩ := Option.map_eq_some_iff.1 hw
  simp only [Prod.mk.injEq] at hx1
  obtain ⟨rfl, rfl⟩ := hx1
  exact OpenSpec.preRow_of_cond 8 hx (by kernel_rfl) (fun k hk => by cases hk; kernel_rfl) (by kernel_rfl) (laidR_met os _)

set_option maxRecDepth 100000 in
set_option maxHeartbeats 2000000 in
theorem liftedUpto (os : Os) (started : os.Started) (H : Type) (enc : TypeId × Value → H) (F : Stop.Interp) :
    ReturnsInLeavingWide {} Tryd.checked os 6 .any ((Rows.OpenSpec.upto Rows.scriptRefusedSpec).preRow enc Tryd.prog Tryd.f6 Rows.scriptRefusedUptoRow.domain false Rows.scriptRefusedUptoRow.laid) (((Rows.OpenSpec.upto Rows.scriptRefusedSpec).at F).post enc Tryd.prog Tryd.f6 false true false false) := by
  refine leaving_of_row (C := Tryd.checked) (s := Rows.OpenSpec.upto Rows.scriptRefusedSpec) own started Tryd.func6
    (witness_row_atRef (enc := enc) (C := Tryd.checked) false (laidWorldR os) #[.string ⟨#[]⟩] rfl (by kernel_rfl) (by kernel_rfl) (by kernel_rfl) (witness_row os enc)) ?_
  intro W base args ds gs before hval hW hcond _ hL hsh
  exact runs H enc F W base args ds gs before hval hW (hcond _ rfl) hL hsh

theorem saidUpto : Rows.ScriptRefusedUptoSaid :=
  leaving.holds_of_cond_leaving 6 Tryd.f6 rfl rfl rfl rfl rfl rfl rfl ⟨rfl, rfl, rfl, rfl, rfl⟩ rfl rfl rfl rfl rfl (by kernel_rfl) Tryd.func6 (by kernel_rfl)
    (of_decide_eq_true (by kernel_rfl)) (by unfold Func.isWrapper; first | (rw [if_pos (by decide +kernel)]; kernel_rfl) | (rw [if_neg (by decide +kernel)]; exact ⟨rfl, rfl⟩))
    (fun os started H enc _ F => by rw [OpenClaim.pre_eq_preRow]; exact liftedUpto os started H enc F)

theorem plain (f : FuncId) (fn : Func) (hf : Tryd.pinned.checked.prog.funcNamed "jotter/jotterlaw15.ScriptRefused" = some f) (hfn : Tryd.pinned.checked.prog.funcs[f]? = some fn) :
    true = Tryd.pinned.checked.prog.looks [] ∧ ∀ (j : Nat) t, fn.params[j]? = some t → Tryd.pinned.checked.prog.wantsStandIn t = false := by
  obtain rfl : f = 6 := Option.some.inj ((show Tryd.prog.funcNamed "jotter/jotterlaw15.ScriptRefused" = some 6 by kernel_rfl).symm.trans hf) |>.symm
  obtain rfl : fn = Tryd.f6 := (Option.some.inj (Tryd.func6.symm.trans hfn)).symm
  refine ⟨by kernel_rfl, fun j t ht => ?_⟩
  rw [Tryd.params6] at ht
  obtain rfl : t = 9 := by simpa using Array.mem_of_getElem? ht
  exact (show Tryd.prog.wantsStandIn 9 = false by kernel_rfl)

/-- ████ THE SECOND FORM's CARD ████ -/
theorem cardUpto : Rows.ScriptRefusedUptoCardSaid := by
  have h := Claim7.tied_new_at .later [.data, .data, .data, .data, .data, .data, .widerDeep, .pinned] true (Claim7.new_of_sixth saidUpto Rows.scriptRefusedUptoCard.stood.harness true rfl ⟨rfl, rfl⟩ (by kernel_rfl) rfl plain) (by kernel_rfl)
  refine ⟨h, ?_, scriptRefusedUpto_row_tie, ?_, ?_⟩
  · intro D hD; cases hD
  · intro hd; cases hd
  · kernel_rfl
end Go.Proofs.YtbjkljmhhpoooaaDoor.scriptRefused
