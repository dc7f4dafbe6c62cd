/- jotterlaw15.ScriptLines: the row, where what it reads is of bulk at most 1048576, and its card. -/
import Derived.Test.YtbjkljmhhpoooaaDoorTabs
import Derived.Test.YtbjkljmhhpoooaaDoorBulk
import Derived.Test.YtbjkljmhhpoooaaDoorLeaving
import Derived.Test.YtbjkljmhhpoooaaDoorCards
import Derived.Test.YtbjkljmhhpoooaaDoorTie
import Derived.Leaving
import Derived.ProofKit
import Derived.OpenShut
import Derived.ChangeMaps5
import Derived.SevenTiedAt
import Derived.Deep.DeepHandedRow
import Derived.Deep.DeepWitnessRowRef
import Derived.Lib.LaidIn
namespace Go.Proofs.YtbjkljmhhpoooaaDoor.scriptLines
open Go.ChangeShapes Go.WideShapes Go.ChangeAt Go.RowKit Go.ChangeMaps
set_option linter.unusedVariables false

theorem own : ownKnob Tryd.prog.godebug = none := by kernel_rfl

/-- Handed over and quiet is more than only leaving. -/
theorem leaving_of_handed {a : Assume} {C : Checked} {os : Os} {f : FuncId} {Pre : World → Array Value → Prop} {Post : World → Array Value → Value → World → Prop} (h : ReturnsInHanded a C os f .any Pre Post) : ReturnsInLeavingWide a C os f .any Pre Post := fun enter => by
  obtain ⟨g0, g1, g2, g3, all⟩ := h enter
  refine ⟨g0, g1, g2, g3, fun w tape i hf => ?_⟩
  obtain ⟨n, v, w', hn, hc, hr, hp, ⟨j, last, hj, hs, hq, hh, he⟩, ha⟩ := all w tape i hf
  exact ⟨n, v, w', hn, hc, hr, hp, ⟨j, last, hj, hs, hh, onlyLeaving_of_quiet hq, he⟩, ha⟩

/-- unicode/utf8's table 'first', as the pinned constant reads. -/
def first1 (c : Nat) : Int := if c < 128 then 240 else if c < 194 then 241 else if c < 224 then 2 else if c = 224 then 19 else if c < 237 then 3 else if c = 237 then 35 else if c < 240 then 3 else if c = 240 then 52 else if c < 244 then 4 else if c = 244 then 68 else 241
/-- A WORLD FOR THE WITNESS. -/
noncomputable def laidWorld (os : Os) : World :=
  let N := (World.settled Tryd.prog os).heap.size
  let fsl (i n : Nat) : Value := .slice (some ⟨N + i, 0, none⟩) n n
  let fb (l : List Int) : Obj := .cells (l.map fun z => Value.int .i64 z).toArray 3
  let w0 := World.holding Tryd.prog os ⟨#[
    .cells #[.string ⟨#[105, 110, 115, 101, 114, 116]⟩, fsl 1 3, .string ⟨#[100, 101, 108, 101, 116, 101]⟩, fsl 2 2, .string ⟨#[116, 105, 99, 107]⟩, fsl 3 1, .string ⟨#[100, 101, 108, 105, 118, 101, 114]⟩, fsl 4 1, .string ⟨#[100, 114, 111, 112]⟩, fsl 5 1,
      .string ⟨#[100, 111, 117, 98, 108, 101]⟩, fsl 6 1, .string ⟨#[102, 108, 105, 112]⟩, fsl 7 3, .string ⟨#[97, 108, 108]⟩, .slice none 0 0, .string ⟨#[114, 111, 117, 110, 100]⟩, .slice none 0 0, .string ⟨#[99, 114, 97, 115, 104]⟩, fsl 8 3,
      .string ⟨#[98, 111, 111, 116]⟩, .slice none 0 0, .string ⟨#[115, 116, 117, 109, 98, 108, 101]⟩, fsl 9 3, .string ⟨#[102, 111, 114, 103, 101]⟩, fsl 10 2] 51,
    fb [0, 2, 8], fb [0, 2], fb [1], fb [3], fb [3], fb [3], fb [3, 4, 5], fb [6, 6, 7], fb [6, 6, 7], fb [1, 9]], #[], []⟩
  let put (h : Array Obj) (g : Nat) (cs : Array Value) : Array Obj := h.modify g fun
    | .cells _ t frozen => .cells cs t frozen
    | o => o
  let h1 := put w0.heap 6 ((List.range 256).map fun c => Value.int .u8 (first1 c)).toArray
  let h2 := put h1 7 ((List.range 16).flatMap fun i => [Value.int .u8 (Lib.accLo i), Value.int .u8 (Lib.accHi i)]).toArray
  let h3 := put h2 0 #[.slice (some ⟨N, 0, none⟩) 13 13]
  let h4 := put h3 1 (([1, 0, 0, 0, 0, 1, 0, 0] : List Int).map fun z => Value.int .i64 z).toArray
  let h5 := put h4 2 (([64, 64, 4095, 2047, 63, 255, 262144, 255] : List Int).map fun z => Value.int .i64 z).toArray
  { w0 with heap := h5 }
noncomputable abbrev N0 : Nat := (World.settled Tryd.prog default).heap.size
theorem laid_met (os : Os) (args : Array Value) : laidMet Tryd.prog Rows.scriptLinesUptoRow.laid ((laidWorld os).forCall (fun _ _ => 0) ⟨#[], args, []⟩).memory :=
  (LaidIn.of_run (l := Rows.scriptLinesUptoRow.laid) [0, 1, 2, 6, 7, N0, N0 + 1, N0 + 2, N0 + 3, N0 + 4, N0 + 5, N0 + 6, N0 + 7, N0 + 8, N0 + 9, N0 + 10] 8 (by kernel_rfl) (by kernel_rfl) (by kernel_rfl) (by kernel_rfl)).met

set_option maxRecDepth 100000 in
theorem contract (H : Type) (enc : TypeId × Value → H) (F : Stop.Interp) (W : World) (base : Nat) (args : Array Value) (ds gs : List (DataW H)) (before : List MemPlace)
    (hval0 : ∀ (j : Nat) t v, Tryd.f3.params[j]? = some t → args[j]? = some v → Value.okWide Tryd.prog W .any base t v)
    (hW : DataW.Whole enc Tryd.prog Tryd.f3.params.toList Rows.scriptLinesSpec.vars false W args.toList ds gs before) (hcond : Rows.uptoSmall H (ds ++ gs) = true) (hL : laidMetH Tryd.prog Rows.scriptLinesUptoRow.laid W) (hsh : W.ShapedOpen Tryd.prog) :
    Calls Tryd.prog 3 args W fun e W' => ∃ v, e = .returned v ∧ Rows.scriptLinesSpec.post enc Tryd.prog Tryd.f3 false true false false W args v W' := by
  have hval : ∀ (j : Nat) t v, Tryd.f3.params[j]? = some t → args[j]? = some v → Value.okWide Tryd.prog W .any base t v := hval0
  have hW' := hW
  obtain ⟨p, q, hA0, hV0, rfl, _, _⟩ := hW
  have hA : DataW.TrodAll enc Tryd.prog W 0 (fun _ => true) true Tryd.f3.params.toList args.toList ds p := hA0
  rw [Tryd.params3] at hA hval
  obtain ⟨v0, d0, rfl, rfl, h0⟩ := trodAll_one hA
  obtain ⟨rfl, rfl⟩ := trodVars_none hV0
  obtain ⟨s, rfl, rfl, rfl, ws⟩ := open_string Tryd.underlying9 (hval 0 9 v0 rfl rfl) h0
  clear hA0 hV0 hval0
  have hs : s.size ≤ 1048576 := by
    have hb := bulks.bound hcond
    simp only [List.append_nil, Rows.uptoBulkAll] at hb
    rw [bulks.string_eq] at hb
    have : s.data.toList.length = s.size := by simp
    omega
  obtain ⟨m, hm⟩ := Tryd.laysM145.s1_3 W hsh
  obtain ⟨V, o, cap, Fo, C, hv⟩ := verbs_at hL
  refine (law_calls s W m V o cap Fo C hs hm hv).mono fun e W' ⟨he, hb⟩ => ?_
  subst he
  simp only [List.append_nil] at hW'
  exact ⟨_, rfl, _, _, _, [], _, [], hW', trodAll_mk1 (shut_bool Tryd.underlying4 true), trodAll_mk1 (shut_string Tryd.underlying9 ws), rfl, hb.frame _, fun h => by cases h⟩

theorem witness_row (os : Os) {H : Type} (enc : TypeId × Value → H) :
    (Rows.OpenSpec.upto Rows.scriptLinesSpec).preRow enc Tryd.prog Tryd.f3 Rows.scriptLinesUptoRow.domain false Rows.scriptLinesUptoRow.laid ((laidWorld os).forCall (fun _ _ => 0) ⟨#[], #[.string ⟨#[]⟩], []⟩).memory #[.string ⟨#[]⟩] := by
  have hw : (DataW.whole enc Tryd.prog ((laidWorld os).forCall (fun _ _ => 0) ⟨#[], #[.string ⟨#[]⟩], []⟩).memory Tryd.f3.params.toList Rows.scriptLinesSpec.vars false #[Value.string ⟨#[]⟩].toList 8).map (fun x => (x.1, x.2.1)) =
      some ([.lit (.string [])], []) := by kernel_rfl
  obtain ⟨⟨x1, x2, x3⟩, hx, hx1⟩ := Option.map_eq_some_iff.1 hw
  simp only [Prod.mk.injEq] at hx1
  obtain ⟨rfl, rfl⟩ := hx1
  exact OpenSpec.preRow_of_cond 8 hx (by kernel_rfl) (fun k hk => by cases hk; kernel_rfl) (by kernel_rfl) (laid_met os _)

set_option maxRecDepth 100000 in
set_option maxHeartbeats 2000000 in
theorem liftedUpto (os : Os) (started : os.Started) (H : Type) (enc : TypeId × Value → H) (F : Stop.Interp) :
    ReturnsInHanded {} Tryd.checked os 3 .any ((Rows.OpenSpec.upto Rows.scriptLinesSpec).preRow enc Tryd.prog Tryd.f3 Rows.scriptLinesUptoRow.domain false Rows.scriptLinesUptoRow.laid) (((Rows.OpenSpec.upto Rows.scriptLinesSpec).at F).post enc Tryd.prog Tryd.f3 false true false false) := by
  refine returnsInHanded_of_row (C := Tryd.checked) (s := Rows.OpenSpec.upto Rows.scriptLinesSpec) own started (by kernel_rfl) Tryd.func3
    (witness_row_atRef (enc := enc) (C := Tryd.checked) false (laidWorld os) #[.string ⟨#[]⟩] rfl (by kernel_rfl) (by kernel_rfl) (by kernel_rfl) (witness_row os enc)) ?_
  intro W base args ds gs before hval hW _ hcond _ hL hsh _
  exact contract H enc F W base args ds gs before hval hW (hcond _ rfl) hL hsh

theorem saidUpto : Rows.ScriptLinesUptoSaid :=
  leaving.holds_of_cond_leaving 3 Tryd.f3 rfl rfl rfl rfl rfl rfl rfl ⟨rfl, rfl, rfl, rfl, rfl⟩ rfl rfl rfl rfl rfl (by kernel_rfl) Tryd.func3 (by kernel_rfl)
    (of_decide_eq_true (by kernel_rfl)) (by unfold Func.isWrapper; first | (rw [if_pos (by decide +kernel)]; kernel_rfl) | (rw [if_neg (by decide +kernel)]; exact ⟨rfl, rfl⟩))
    (fun os started H enc _ F => by rw [OpenClaim.pre_eq_preRow]; exact leaving_of_handed (liftedUpto os started H enc F))

theorem plain (f : FuncId) (fn : Func) (hf : Tryd.pinned.checked.prog.funcNamed "jotter/jotterlaw15.ScriptLines" = some f) (hfn : Tryd.pinned.checked.prog.funcs[f]? = some fn) :
    true = Tryd.pinned.checked.prog.looks [] ∧ ∀ (j : Nat) t, fn.params[j]? = some t → Tryd.pinned.checked.prog.wantsStandIn t = false := by
  obtain rfl : f = 3 := Option.some.inj ((show Tryd.prog.funcNamed "jotter/jotterlaw15.ScriptLines" = some 3 by kernel_rfl).symm.trans hf) |>.symm
  obtain rfl : fn = Tryd.f3 := (Option.some.inj (Tryd.func3.symm.trans hfn)).symm
  refine ⟨by kernel_rfl, fun j t ht => ?_⟩
  rw [Tryd.params3] at ht
  obtain rfl : t = 9 := by simpa using Array.mem_of_getElem? ht
  exact (show Tryd.prog.wantsStandIn 9 = false by kernel_rfl)

/-- ████ THE SECOND FORM's CARD ████ -/
theorem cardUpto : Rows.ScriptLinesUptoCardSaid := by
  have h := Claim7.tied_new_at .later [.data, .data, .data, .widerDeep, .pinned] true (Claim7.new_of_sixth saidUpto Rows.scriptLinesUptoCard.stood.harness true rfl ⟨rfl, rfl⟩ (by kernel_rfl) rfl plain) (by kernel_rfl)
  refine ⟨h, ?_, scriptLinesUpto_row_tie, ?_, ?_⟩
  · intro D hD; cases hD
  · intro hd; cases hd
  · kernel_rfl
end Go.Proofs.YtbjkljmhhpoooaaDoor.scriptLines
