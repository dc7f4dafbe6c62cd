/- jotterlaw15.ScriptApart: the row, where what it reads is of bulk at most 1048576, and its card. -/
import Derived.Test.YtbjkljmhhpoooaaDoorApD
import Derived.Test.YtbjkljmhhpoooaaDoorOpen
import Derived.Test.YtbjkljmhhpoooaaDoorRefR
import Derived.Deep.Strs
import Derived.Test.YtbjkljmhhpoooaaDoorRowL
import Derived.Test.YtbjkljmhhpoooaaDoorWit
import Derived.Test.YtbjkljmhhpoooaaDoorBulk
import Derived.Test.YtbjkljmhhpoooaaDoorLeaving
import Derived.Test.YtbjkljmhhpoooaaDoorCards
import Derived.Test.YtbjkljmhhpoooaaDoorTie
import Derived.Test.YtbjkljmhhpoooaaDoorShelf
import Derived.ProofKit
import Derived.OpenShut
import Derived.ChangeMaps5
import Derived.SevenTiedAt
import Derived.Deep.DeepWitnessRowRef
namespace Go.Proofs.YtbjkljmhhpoooaaDoor.scriptApart
open Go.ChangeShapes Go.WideShapes Go.ChangeAt Go.RowKit Go.ChangeMaps Go.Conc Go.Co
set_option linter.unusedVariables false

theorem room : Tryd.prog.globals.size < (begin Tryd.prog (fun _ _ => 0) default).world.heap.size := of_decide_eq_true (by kernel_rfl)
theorem globals_low {W : World} (h : W.ShapedOpen Tryd.prog) : Tryd.prog.globals.size ≤ W.heap.size := by
  obtain ⟨o, _, ho, _⟩ := h.2 Tryd.prog.globals.size (Nat.le_refl _) room
  exact Nat.le_of_lt (Array.getElem?_eq_some_iff.1 ho).1
theorem own : ownKnob Tryd.prog.godebug = none := by kernel_rfl

theorem und_str : Tryd.prog.underlying 9 = some .string := by kernel_rfl
theorem und_strs : Tryd.prog.underlying 42 = some (.slice 9) := by kernel_rfl
theorem cells_str : Tryd.prog.cellsOf 9 = 1 := by kernel_rfl
theorem again_str {H : Type} {enc : TypeId × Value → H} {w w' : World} {held : Bool} {sp : Nat → Bool} : Again enc Tryd.prog w w' held sp 9 := by
  intro n cs x h
  obtain ⟨s, rfl, rfl, hw⟩ := DataW.trod_string und_str h
  cases n with
  | zero => simp [DataW.trod] at h
  | succ n => simp [DataW.trod, hw]
set_option maxRecDepth 100000 in
theorem lines_in {H : Type} {enc : TypeId × Value → H} {W : World} {base : Nat} {v : Value} {d : DataW H} {p : List MemPlace} {f : Nat} (hok : Value.okWide Tryd.prog W .any base 42 v) (h : DataW.trod enc Tryd.prog W 0 (fun _ => true) true f 42 v.cells.toList = some (d, p)) (hb : Rows.uptoBulk d ≤ 1048576) :
    ∃ A k cap, v = .slice A k cap ∧ LinesIn W A k := by
  obtain ⟨A, k, cap, rfl⟩ : ∃ A k cap, v = .slice A k cap := by
    unfold Value.okWide at hok
    rw [und_strs] at hok
    unfold Cell.okWide Cell.ok at hok
    rw [und_strs] at hok
    cases v <;> first | exact ⟨_, _, _, rfl⟩ | exact hok.elim
  refine ⟨A, k, cap, rfl, ?_⟩
  rcases Go.Deep.open_strs und_strs und_str cells_str h with ⟨hc, _⟩ | ⟨a, len, cap', M, Sx, hc, _, hlc, _, hM, hx, hcell⟩
  · injection hc with hc
    injection hc with _ hk _
    exact .inl hk
  · injection hc with hc
    injection hc with hA hk hcp
    subst hA hk hcp
    rw [if_pos rfl] at hM
    by_cases hz : k = 0
    · exact .inl hz
    have hsp : a.spot = none := by
      have := cell_spot (hcell 0 (by omega)).1
      simpa [Addr.add] using this
    obtain ⟨b, o, s⟩ := a
    simp only [] at hsp
    subst hsp
    have hlt := World.block_lt_of_cell? W _ (hcell 0 (by omega)).1
    refine .inr ⟨b, o, rfl, by simpa [Addr.add] using hlt, fun i hi => ⟨Sx i, ?_, ?_⟩⟩
    · injection hx with hx _
      subst hx
      have hmem : DataW.lit (.string (Sx i).data.toList) ∈ (List.range k).map fun i => (DataW.lit (.string (Sx i).data.toList) : DataW H) := List.mem_map.2 ⟨i, List.mem_range.2 hi, rfl⟩
      have h1 := bulks.part_le hmem
      have h2 := bulks.slice_elems ((List.range k).map fun i => (DataW.lit (.string (Sx i).data.toList) : DataW H)) ((List.range (M - k)).map fun j => .lit (.string (Sx (k + j)).data.toList))
      rw [bulks.string_eq] at h1
      have h3 : (Sx i).data.toList.length = (Sx i).size := by simp
      omega
    · have := (hcell i (by omega)).1
      rw [Addr.add_mid] at this
      exact this

set_option maxRecDepth 100000 in
theorem runs (H : Type) (enc : TypeId × Value → H) (F : Stop.Interp) (W : World) (base : Nat) (args : Array Value) (ds gs : List (DataW H)) (before : List MemPlace)
    (hval0 : ∀ (j : Nat) t v, Tryd.f5.params[j]? = some t → args[j]? = some v → Value.okWide Tryd.prog W .any base t v)
    (hW : DataW.Whole enc Tryd.prog Tryd.f5.params.toList Rows.scriptApartSpec.vars false W args.toList ds gs before) (hcond : Rows.uptoSmall H (ds ++ gs) = true) (hL : laidMetH Tryd.prog Rows.scriptApartUptoRow.laid W) (hsh : W.ShapedOpen Tryd.prog) :
    ∃ M last o w' t', runNT Tryd.prog (M + 1) (solo (G (Frame.enter Tryd.prog 5 args .normal) []) W) #[] = (.ended o w', t') ∧ runN Tryd.prog M (solo (G (Frame.enter Tryd.prog 5 args .normal) []) W) = .next last ∧
      step Tryd.prog last = .ended o w' ∧ Conc.Good Tryd.prog (fun v W' => Rows.scriptApartSpec.post enc Tryd.prog Tryd.f5 false true false false W args v W') last o w' t' := by
  have hval : ∀ (j : Nat) t v, Tryd.f5.params[j]? = some t → args[j]? = some v → Value.okWide Tryd.prog W .any base t v := hval0
  have hW' := hW
  obtain ⟨p, q, hA0, hV0, rfl, _, _⟩ := hW
  have hA : DataW.TrodAll enc Tryd.prog W 0 (fun _ => true) true Tryd.f5.params.toList args.toList ds p := hA0
  rw [Tryd.params5] at hA hval
  obtain ⟨v0, v1, d0, d1, p0, p1, rfl, rfl, rfl, h0, h1⟩ := trodAll_two hA
  obtain ⟨rfl, rfl⟩ := trodVars_none hV0
  obtain ⟨cl, rfl, rfl, rfl, wcl⟩ := open_int und_int (hval 0 3 v0 rfl rfl) h0
  obtain ⟨f1, g1⟩ := h1
  obtain ⟨A, k, cap, hv1, hlines⟩ : ∃ A k cap, v1 = .slice A k cap ∧ LinesIn W A k := by
    have hb := bulks.bound hcond
    simp only [List.append_nil, Rows.uptoBulkAll] at hb
    exact lines_in (hval 1 42 v1 rfl rfl) g1 (by omega)
  subst hv1
  clear hA0 hV0 hval0 hA
  obtain ⟨m, hm⟩ := Tryd.laysM145.s1_3 W hsh
  obtain ⟨⟨V, o, cap', Fo, C, hv⟩, hp⟩ := laid_refused hL
  simp only [List.append_nil] at hW'
  obtain ⟨N, last, o', w', t', h1', h2', h3', h4'⟩ := apart_run cl A k cap W (bounds_i64 wcl) hlines m V o cap' Fo C hm hv hp (globals_low hsh)
  refine ⟨N, last, o', w', t', h1', h2', h3', h4'.mono fun v ⟨he, hb⟩ => ?_⟩
  subst he
  have hsp : ∀ k, k < W.heap.size → (fun b => decide (b < W.heap.size)) k = true := fun k hk => decide_eq_true hk
  exact ⟨_, _, _, [], _, [], hW', trodAll_mk1 (shut_bool Tryd.underlying4 true), ⟨[], _, shut_int und_int wcl, ⟨p1, [], ⟨f1, again_slice hb.block hsp und_strs (by rw [cells_str]; decide) again_str _ _ _ g1⟩, rfl, rfl⟩, rfl⟩, rfl, hb.frame _, fun h => by cases h⟩

noncomputable def args0 : Array Value := #[.int .i64 0, .slice none 0 0]
theorem witness_row (os : Os) {H : Type} (enc : TypeId × Value → H) :
    (Rows.OpenSpec.upto Rows.scriptApartSpec).preRow enc Tryd.prog Tryd.f5 Rows.scriptApartUptoRow.domain false Rows.scriptApartUptoRow.laid ((laidWorldR os).forCall (fun _ _ => 0) ⟨#[], args0, []⟩).memory args0 := by
  have hw : (DataW.whole enc Tryd.prog ((laidWorldR os).forCall (fun _ _ => 0) ⟨#[], args0, []⟩).memory Tryd.f5.params.toList Rows.scriptApartSpec.vars false args0.toList 8).map (fun x => (x.1, x.2.1)) =
      some ([.lit (.int .i64 0), .nil], []) := by kernel_rfl
  obtain ⟨⟨x1, x2, x3⟩, hx, hx1⟩ := Option.map_eq_some_iff.1 hw
  simp only [Prod.mk.injEq] at hx1
  obtain ⟨rfl, rfl⟩ := hx1
  exact OpenSpec.preRow_of_cond 8 hx (by kernel_rfl) (fun k hk => by cases hk; kernel_rfl) (by kernel_rfl) (laidR_met os _)

set_option maxRecDepth 100000 in
set_option maxHeartbeats 2000000 in
theorem liftedUpto (os : Os) (started : os.Started) (H : Type) (enc : TypeId × Value → H) (F : Stop.Interp) :
    ReturnsInLeavingWide {} Tryd.checked os 5 .any ((Rows.OpenSpec.upto Rows.scriptApartSpec).preRow enc Tryd.prog Tryd.f5 Rows.scriptApartUptoRow.domain false Rows.scriptApartUptoRow.laid) (((Rows.OpenSpec.upto Rows.scriptApartSpec).at F).post enc Tryd.prog Tryd.f5 false true false false) := by
  refine leaving_of_row (C := Tryd.checked) (s := Rows.OpenSpec.upto Rows.scriptApartSpec) own started Tryd.func5
    (witness_row_atRef (enc := enc) (C := Tryd.checked) false (laidWorldR os) args0 rfl (by kernel_rfl) (by kernel_rfl) (by kernel_rfl) (witness_row os enc)) ?_
  intro W base args ds gs before hval hW hcond _ hL hsh
  exact runs H enc F W base args ds gs before hval hW (hcond _ rfl) hL hsh

theorem saidUpto : Rows.ScriptApartUptoSaid :=
  leaving.holds_of_cond_leaving 5 Tryd.f5 rfl rfl rfl rfl rfl rfl rfl ⟨rfl, rfl, rfl, rfl, rfl⟩ rfl rfl rfl rfl rfl (by kernel_rfl) Tryd.func5 (by kernel_rfl)
    (of_decide_eq_true (by kernel_rfl)) (by unfold Func.isWrapper; first | (rw [if_pos (by decide +kernel)]; kernel_rfl) | (rw [if_neg (by decide +kernel)]; exact ⟨rfl, rfl⟩))
    (fun os started H enc _ F => by rw [OpenClaim.pre_eq_preRow]; exact liftedUpto os started H enc F)

theorem plain (f : FuncId) (fn : Func) (hf : Tryd.pinned.checked.prog.funcNamed "jotter/jotterlaw15.ScriptApart" = some f) (hfn : Tryd.pinned.checked.prog.funcs[f]? = some fn) :
    true = Tryd.pinned.checked.prog.looks [] ∧ ∀ (j : Nat) t, fn.params[j]? = some t → Tryd.pinned.checked.prog.wantsStandIn t = false := by
  obtain rfl : f = 5 := Option.some.inj ((show Tryd.prog.funcNamed "jotter/jotterlaw15.ScriptApart" = some 5 by kernel_rfl).symm.trans hf) |>.symm
  obtain rfl : fn = Tryd.f5 := (Option.some.inj (Tryd.func5.symm.trans hfn)).symm
  refine ⟨by kernel_rfl, fun j t ht => ?_⟩
  rw [Tryd.params5] at ht
  have h : t = 3 ∨ t = 42 := by simpa using Array.mem_of_getElem? ht
  rcases h with rfl | rfl
  · exact (show Tryd.prog.wantsStandIn 3 = false by kernel_rfl)
  · exact (show Tryd.prog.wantsStandIn 42 = false by kernel_rfl)

/-- ████ THE SECOND FORM's CARD ████ -/
theorem cardUpto : Rows.ScriptApartUptoCardSaid := by
  have h := Claim7.tied_new_at .later [.data, .data, .data, .data, .data, .data, .widerDeep, .pinned] true (Claim7.new_of_sixth saidUpto Rows.scriptApartUptoCard.stood.harness true rfl ⟨rfl, rfl⟩ (by kernel_rfl) rfl plain) (by kernel_rfl)
  refine ⟨h, ?_, scriptApartUpto_row_tie, ?_, ?_⟩
  · intro D hD; cases hD
  · intro hd; cases hd
  · kernel_rfl
end Go.Proofs.YtbjkljmhhpoooaaDoor.scriptApart
