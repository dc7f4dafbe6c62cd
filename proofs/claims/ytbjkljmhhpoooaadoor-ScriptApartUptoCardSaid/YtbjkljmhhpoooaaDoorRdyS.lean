import Derived.Test.YtbjkljmhhpoooaaDoorRdy
namespace Go.Proofs.YtbjkljmhhpoooaaDoor
open Go.Conc Go.Co Go.Proofs

/-- The functions that goroutine 0 enters while script.lines sends. -/
def F1 : List Nat := [9,20,21,36,39,40,41,42,43,44,51,53,54,55,59,64,65,66,67,68,69,70,76,80,81,82,83,91,92]
def X1 : List Nat := [71,84,90]
def D1 : List (Nat × List Nat) := [(21, [7, 18, 24, 50, 89, 120, 132])]

theorem types_ok : noCopyB Tryd.prog.types = true := by kernel_rfl
theorem ahead_ok : Tryd.prog.follows .staticDataAhead = true := by kernel_rfl
theorem steps_ok : (Tryd.prog.funcs.all fun f => !((f.body.map readies).any fun l => !l.isEmpty)) = true := by kernel_rfl
theorem f1_ok : (F1.all (okFn Tryd.prog (mkSets false F1 X1 D1))) = true := by kernel_rfl
theorem codes1 : Codes Tryd.prog (mkSets false F1 X1 D1) := codes_of f1_ok ahead_ok steps_ok

theorem ext71 : Extern.findNext Tryd.f71 = none ∧ Extern.find Tryd.f71 = some Extern.BytealgIndex.index := ⟨by kernel_rfl, by kernel_rfl⟩
theorem ext84 : Extern.findNext Tryd.f84 = none ∧ Extern.find Tryd.f84 = some Extern.BytealgCount.count := ⟨by kernel_rfl, by kernel_rfl⟩
theorem ext90 : Extern.findNext Tryd.f90 = none ∧ Extern.find Tryd.f90 = some Extern.BytealgIndexByte.indexByte := ⟨by kernel_rfl, by kernel_rfl⟩

theorem ext_ok {B : Nat → Prop} {S : Sets} : ∀ f args, X1.contains f = true → Co.Loc Tryd.prog B (NextOk S) (callFunc f args) := by
  intro f args hf
  simp only [X1, List.contains_eq_mem, List.mem_cons, List.not_mem_nil, or_false, decide_eq_true_eq] at hf
  rcases hf with rfl | rfl | rfl
  · exact loc_extern Tryd.func71 rfl (by kernel_rfl) ext71.1 ext71.2 loc_indexS args
  · exact loc_extern Tryd.func84 rfl (by kernel_rfl) ext84.1 ext84.2 loc_count args
  · exact loc_extern Tryd.func90 rfl (by kernel_rfl) ext90.1 ext90.2 loc_indexByte args

theorem ready1 {B : Nat → Prop} (h : ∀ k, B k → Tryd.prog.globals.size ≤ k) : Ready Tryd.prog (mkSets false F1 X1 D1) B := ready_of types_ok h f1_ok (fun h => by cases h) ext_ok

/-- The functions that a law enters beside leavers. -/
def F2 : List Nat := [9,10,12,13,14,16,18,20,21,28,29,30,31,32,33,34,36,39,40,41,42,43,44,48,49,50,51,53,54,55,58,59,64,65,66,67,68,69,70,72,73,74,75,76,80,81,82,83,85,86,87,88,89,91,92,93,94]
def X2 : List Nat := [57,71,84,90]
def D2 : List (Nat × List Nat) := [(21, [7, 18, 24, 50, 89, 120, 132]), (31, [4, 14, 34, 48, 55, 60, 65, 74])]
theorem f2_ok : (F2.all (okFn Tryd.prog (mkSets true F2 X2 D2))) = true := by kernel_rfl
theorem codes2 : Codes Tryd.prog (mkSets true F2 X2 D2) := codes_of f2_ok ahead_ok steps_ok
theorem ext57 : Extern.findNext Tryd.f57 = none ∧ Extern.find Tryd.f57 = some Extern.AbiNoEscape.same := ⟨by kernel_rfl, by kernel_rfl⟩
theorem loc_same {B : Nat → Prop} (args : Array Value) : Co.Loc Tryd.prog B (fun _ => True) (Extern.AbiNoEscape.same args) := by
  obtain ⟨l⟩ := args
  rcases l with _ | ⟨x, _ | ⟨y, l⟩⟩
  · exact loc_stuck _
  · exact Loc.pure trivial
  · exact loc_stuck _
theorem ext_ok2 {B : Nat → Prop} {S : Sets} : ∀ f args, X2.contains f = true → Co.Loc Tryd.prog B (NextOk S) (callFunc f args) := by
  intro f args hf
  simp only [X2, List.contains_eq_mem, List.mem_cons, List.not_mem_nil, or_false, decide_eq_true_eq] at hf
  rcases hf with rfl | rfl | rfl | rfl
  · exact loc_extern Tryd.func57 rfl (by kernel_rfl) ext57.1 ext57.2 loc_same args
  · exact loc_extern Tryd.func71 rfl (by kernel_rfl) ext71.1 ext71.2 loc_indexS args
  · exact loc_extern Tryd.func84 rfl (by kernel_rfl) ext84.1 ext84.2 loc_count args
  · exact loc_extern Tryd.func90 rfl (by kernel_rfl) ext90.1 ext90.2 loc_indexByte args
noncomputable abbrev S2 : Sets := mkSets true F2 X2 D2
theorem ready2 : Ready Tryd.prog S2 None' := ready_of types_ok (fun _ h => h.elim) f2_ok (fun _ _ h => h) ext_ok2
end Go.Proofs.YtbjkljmhhpoooaaDoor
