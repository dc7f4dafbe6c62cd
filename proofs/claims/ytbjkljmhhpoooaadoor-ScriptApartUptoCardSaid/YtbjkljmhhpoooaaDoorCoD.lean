/-
  THE OPERATIONS THEMSELVES ARE WELL BEHAVED.
-/
import Derived.Test.YtbjkljmhhpoooaaDoorCoC
import Derived.Laws.Sem
namespace Go.Co

section
variable {P : Program} {B : Nat → Prop}

theorem loc_forInList {α β : Type} {f : α → β → Sem (ForInStep β)} (hf : ∀ a b, Loc P B (fun _ => True) (f a b)) : ∀ (l : List α) (b : β), Loc P B (fun _ => True) (forIn l b f)
  | [], b => by rw [List.forIn_nil]; exact Loc.pure trivial
  | a :: l, b => by
    rw [List.forIn_cons]
    refine Loc.bind (hf a b) fun x _ => ?_
    cases x with
    | done b => exact Loc.pure trivial
    | yield b => exact loc_forInList hf l b
theorem loc_forInArray {α β : Type} {f : α → β → Sem (ForInStep β)} (hf : ∀ a b, Loc P B (fun _ => True) (f a b)) (l : Array α) (b : β) : Loc P B (fun _ => True) (forIn l b f) := by
  rw [← Array.forIn_toList]; exact loc_forInList hf _ _
theorem loc_forInRange {β : Type} {f : Nat → β → Sem (ForInStep β)} (hf : ∀ a b, Loc P B (fun _ => True) (f a b)) (r : Std.Legacy.Range) (b : β) : Loc P B (fun _ => True) (forIn r b f) := by
  rw [Std.Legacy.Range.forIn_eq_forIn_range']; exact loc_forInList hf _ _
theorem loc_mapMList {α β : Type} {f : α → Sem β} (hf : ∀ a, Loc P B (fun _ => True) (f a)) : ∀ (l : List α), Loc P B (fun _ => True) (l.mapM f)
  | [] => by rw [List.mapM_nil]; exact Loc.pure trivial
  | a :: l => by
    rw [List.mapM_cons]
    exact Loc.bind (hf a) fun _ _ => Loc.bind (loc_mapMList hf l) fun _ _ => Loc.pure trivial
theorem loc_mapM {α β : Type} {f : α → Sem β} (hf : ∀ a, Loc P B (fun _ => True) (f a)) (l : Array α) : Loc P B (fun _ => True) (l.mapM f) := by
  rw [Array.mapM_eq_mapM_toList]
  exact loc_map _ (loc_mapMList hf _)
theorem loc_foldlMList {α β : Type} {f : β → α → Sem β} (hf : ∀ b a, Loc P B (fun _ => True) (f b a)) : ∀ (l : List α) (b : β), Loc P B (fun _ => True) (l.foldlM f b)
  | [], b => by rw [List.foldlM_nil]; exact Loc.pure trivial
  | a :: l, b => by
    rw [List.foldlM_cons]
    exact Loc.bind (hf b a) fun _ _ => loc_foldlMList hf l _

theorem loc_byteOf (a : Addr) : Loc P B (fun _ => True) (byteOf a) := by
  unfold byteOf
  (repeat' (first
    | assumption
    | exact Loc.pure trivial
    | exact Loc.halt trivial
    | exact loc_stuck _
    | exact loc_unsupported _
    | exact loc_goPanic _
    | exact Loc.load _
    | exact Loc.store _ _
    | exact Loc.freeze _ _
    | exact Loc.frozen _
    | exact Loc.choose _
    | exact Loc.mono (Loc.shape _) (fun _ _ => trivial)
    | exact Loc.mono (Loc.newObj _) (fun _ _ => trivial)
    | exact Loc.mono Loc.program (fun _ _ => trivial)
    | exact loc_typeInfo _
    | exact loc_underlying _
    | exact loc_zeroValue _
    | exact loc_sizeOf _
    | exact loc_isAgg _
    | exact loc_loadCells _ _
    | exact loc_storeCells _ _ _
    | exact loc_loadVar _ _
    | exact loc_storeVar _ _ _
    | exact loc_newRow _ _
    | exact loc_newVar _ _
    | exact loc_elemOf _
    | exact loc_part _ _ _
    | exact loc_runtimePanic _
    | exact loc_boundsPanic _ _ _ _
    | exact loc_asIntOf _
    | exact loc_asInt _
    | exact loc_asBool _
    | exact loc_asString _
    | exact loc_asAgg _
    | exact loc_asAddr _
    | exact loc_askRoom _
    | exact loc_markStringish _
    | exact loc_noView' _
    | exact loc_sameAddr _ _
    | exact loc_samePointer _ _
    | apply_assumption -exfalso -symm
    | refine Loc.bind (Loc.load _) ?_
    | refine Loc.bind (Loc.store _ _) ?_
    | refine Loc.bind Loc.program ?_
    | refine Loc.bind (Loc.shape _) ?_
    | refine Loc.bind (Loc.newObj _) ?_
    | refine Loc.bind (Loc.choose _) ?_
    | refine Loc.bind (loc_typeInfo _) ?_
    | refine Loc.bind (loc_underlying _) ?_
    | refine Loc.bind (loc_zeroValue _) ?_
    | refine Loc.bind (loc_sizeOf _) ?_
    | refine Loc.bind (loc_isAgg _) ?_
    | refine Loc.bind (loc_loadCells _ _) ?_
    | refine Loc.bind (loc_storeCells _ _ _) ?_
    | refine Loc.bind (loc_loadVar _ _) ?_
    | refine Loc.bind (loc_storeVar _ _ _) ?_
    | refine Loc.bind (loc_newRow _ _) ?_
    | refine Loc.bind (loc_newVar _ _) ?_
    | refine Loc.bind (loc_elemOf _) ?_
    | refine Loc.bind (loc_part _ _ _) ?_
    | refine Loc.bind (loc_runtimePanic _) ?_
    | refine Loc.bind (loc_boundsPanic _ _ _ _) ?_
    | refine Loc.bind (loc_asIntOf _) ?_
    | refine Loc.bind (loc_asInt _) ?_
    | refine Loc.bind (loc_asBool _) ?_
    | refine Loc.bind (loc_asString _) ?_
    | refine Loc.bind (loc_asAgg _) ?_
    | refine Loc.bind (loc_asAddr _) ?_
    | refine Loc.bind (loc_askRoom _) ?_
    | refine Loc.bind (loc_markStringish _) ?_
    | refine Loc.bind (loc_noView' _) ?_
    | refine Loc.bind (loc_sameAddr _ _) ?_
    | refine Loc.bind (loc_samePointer _ _) ?_
    | refine Loc.bind (Q' := fun _ => True) ?_ ?_
    | (intro _ _; skip)
    | (extract_lets -underBinder +onlyGivenNames j; refine jpcut (j := j) ?_ ?_; intro u; subst j; dsimp -zeta only; rotate_left; intro hj; clear_value j)
    | (extract_lets -underBinder +onlyGivenNames j; refine jpcut0 (j := j) ?_ ?_; subst j; rotate_left; intro hj; clear_value j)
    | (extract_lets -underBinder +onlyGivenNames j; clear_value j)
    | split
    | (dsimp only; skip)))
theorem loc_partAt (a : Addr) (c b : Nat) : Loc P B (fun _ => True) (partAt a c b) := by
  unfold partAt
  (repeat' (first
    | assumption
    | exact Loc.pure trivial
    | exact Loc.halt trivial
    | exact loc_stuck _
    | exact loc_unsupported _
    | exact loc_goPanic _
    | exact Loc.load _
    | exact Loc.store _ _
    | exact Loc.freeze _ _
    | exact Loc.frozen _
    | exact Loc.choose _
    | exact Loc.mono (Loc.shape _) (fun _ _ => trivial)
    | exact Loc.mono (Loc.newObj _) (fun _ _ => trivial)
    | exact Loc.mono Loc.program (fun _ _ => trivial)
    | exact loc_typeInfo _
    | exact loc_underlying _
    | exact loc_zeroValue _
    | exact loc_sizeOf _
    | exact loc_isAgg _
    | exact loc_loadCells _ _
    | exact loc_storeCells _ _ _
    | exact loc_loadVar _ _
    | exact loc_storeVar _ _ _
    | exact loc_newRow _ _
    | exact loc_newVar _ _
    | exact loc_elemOf _
    | exact loc_part _ _ _
    | exact loc_runtimePanic _
    | exact loc_boundsPanic _ _ _ _
    | exact loc_asIntOf _
    | exact loc_asInt _
    | exact loc_asBool _
    | exact loc_asString _
    | exact loc_asAgg _
    | exact loc_asAddr _
    | exact loc_askRoom _
    | exact loc_markStringish _
    | exact loc_noView' _
    | exact loc_sameAddr _ _
    | exact loc_samePointer _ _
    | exact loc_byteOf _
    | apply_assumption -exfalso -symm
    | refine Loc.bind (Loc.load _) ?_
    | refine Loc.bind (Loc.store _ _) ?_
    | refine Loc.bind Loc.program ?_
    | refine Loc.bind (Loc.shape _) ?_
    | refine Loc.bind (Loc.newObj _) ?_
    | refine Loc.bind (Loc.choose _) ?_
    | refine Loc.bind (loc_typeInfo _) ?_
    | refine Loc.bind (loc_underlying _) ?_
    | refine Loc.bind (loc_zeroValue _) ?_
    | refine Loc.bind (loc_sizeOf _) ?_
    | refine Loc.bind (loc_isAgg _) ?_
    | refine Loc.bind (loc_loadCells _ _) ?_
    | refine Loc.bind (loc_storeCells _ _ _) ?_
    | refine Loc.bind (loc_loadVar _ _) ?_
    | refine Loc.bind (loc_storeVar _ _ _) ?_
    | refine Loc.bind (loc_newRow _ _) ?_
    | refine Loc.bind (loc_newVar _ _) ?_
    | refine Loc.bind (loc_elemOf _) ?_
    | refine Loc.bind (loc_part _ _ _) ?_
    | refine Loc.bind (loc_runtimePanic _) ?_
    | refine Loc.bind (loc_boundsPanic _ _ _ _) ?_
    | refine Loc.bind (loc_asIntOf _) ?_
    | refine Loc.bind (loc_asInt _) ?_
    | refine Loc.bind (loc_asBool _) ?_
    | refine Loc.bind (loc_asString _) ?_
    | refine Loc.bind (loc_asAgg _) ?_
    | refine Loc.bind (loc_asAddr _) ?_
    | refine Loc.bind (loc_askRoom _) ?_
    | refine Loc.bind (loc_markStringish _) ?_
    | refine Loc.bind (loc_noView' _) ?_
    | refine Loc.bind (loc_sameAddr _ _) ?_
    | refine Loc.bind (loc_samePointer _ _) ?_
    | refine Loc.bind (loc_byteOf _) ?_
    | refine Loc.bind (Q' := fun _ => True) ?_ ?_
    | (intro _ _; skip)
    | (extract_lets -underBinder +onlyGivenNames j; refine jpcut (j := j) ?_ ?_; intro u; subst j; dsimp -zeta only; rotate_left; intro hj; clear_value j)
    | (extract_lets -underBinder +onlyGivenNames j; refine jpcut0 (j := j) ?_ ?_; subst j; rotate_left; intro hj; clear_value j)
    | (extract_lets -underBinder +onlyGivenNames j; clear_value j)
    | split
    | (dsimp only; skip)))
theorem loc_fieldPlace (a : Addr) (f : Field) : Loc P B (fun _ => True) (fieldPlace a f) := by
  unfold fieldPlace
  (repeat' (first
    | assumption
    | exact Loc.pure trivial
    | exact Loc.halt trivial
    | exact loc_stuck _
    | exact loc_unsupported _
    | exact loc_goPanic _
    | exact Loc.load _
    | exact Loc.store _ _
    | exact Loc.freeze _ _
    | exact Loc.frozen _
    | exact Loc.choose _
    | exact Loc.mono (Loc.shape _) (fun _ _ => trivial)
    | exact Loc.mono (Loc.newObj _) (fun _ _ => trivial)
    | exact Loc.mono Loc.program (fun _ _ => trivial)
    | exact loc_typeInfo _
    | exact loc_underlying _
    | exact loc_zeroValue _
    | exact loc_sizeOf _
    | exact loc_isAgg _
    | exact loc_loadCells _ _
    | exact loc_storeCells _ _ _
    | exact loc_loadVar _ _
    | exact loc_storeVar _ _ _
    | exact loc_newRow _ _
    | exact loc_newVar _ _
    | exact loc_elemOf _
    | exact loc_part _ _ _
    | exact loc_runtimePanic _
    | exact loc_boundsPanic _ _ _ _
    | exact loc_asIntOf _
    | exact loc_asInt _
    | exact loc_asBool _
    | exact loc_asString _
    | exact loc_asAgg _
    | exact loc_asAddr _
    | exact loc_askRoom _
    | exact loc_markStringish _
    | exact loc_noView' _
    | exact loc_sameAddr _ _
    | exact loc_samePointer _ _
    | exact loc_byteOf _
    | exact loc_partAt _ _ _
    | apply_assumption -exfalso -symm
    | refine Loc.bind (Loc.load _) ?_
    | refine Loc.bind (Loc.store _ _) ?_
    | refine Loc.bind Loc.program ?_
    | refine Loc.bind (Loc.shape _) ?_
    | refine Loc.bind (Loc.newObj _) ?_
    | refine Loc.bind (Loc.choose _) ?_
    | refine Loc.bind (loc_typeInfo _) ?_
    | refine Loc.bind (loc_underlying _) ?_
    | refine Loc.bind (loc_zeroValue _) ?_
    | refine Loc.bind (loc_sizeOf _) ?_
    | refine Loc.bind (loc_isAgg _) ?_
    | refine Loc.bind (loc_loadCells _ _) ?_
    | refine Loc.bind (loc_storeCells _ _ _) ?_
    | refine Loc.bind (loc_loadVar _ _) ?_
    | refine Loc.bind (loc_storeVar _ _ _) ?_
    | refine Loc.bind (loc_newRow _ _) ?_
    | refine Loc.bind (loc_newVar _ _) ?_
    | refine Loc.bind (loc_elemOf _) ?_
    | refine Loc.bind (loc_part _ _ _) ?_
    | refine Loc.bind (loc_runtimePanic _) ?_
    | refine Loc.bind (loc_boundsPanic _ _ _ _) ?_
    | refine Loc.bind (loc_asIntOf _) ?_
    | refine Loc.bind (loc_asInt _) ?_
    | refine Loc.bind (loc_asBool _) ?_
    | refine Loc.bind (loc_asString _) ?_
    | refine Loc.bind (loc_asAgg _) ?_
    | refine Loc.bind (loc_asAddr _) ?_
    | refine Loc.bind (loc_askRoom _) ?_
    | refine Loc.bind (loc_markStringish _) ?_
    | refine Loc.bind (loc_noView' _) ?_
    | refine Loc.bind (loc_sameAddr _ _) ?_
    | refine Loc.bind (loc_samePointer _ _) ?_
    | refine Loc.bind (loc_byteOf _) ?_
    | refine Loc.bind (loc_partAt _ _ _) ?_
    | refine Loc.bind (Q' := fun _ => True) ?_ ?_
    | (intro _ _; skip)
    | (extract_lets -underBinder +onlyGivenNames j; refine jpcut (j := j) ?_ ?_; intro u; subst j; dsimp -zeta only; rotate_left; intro hj; clear_value j)
    | (extract_lets -underBinder +onlyGivenNames j; refine jpcut0 (j := j) ?_ ?_; subst j; rotate_left; intro hj; clear_value j)
    | (extract_lets -underBinder +onlyGivenNames j; clear_value j)
    | split
    | (dsimp only; skip)))
theorem loc_variablesAt (a : Addr) (u : TypeId) (n : Nat) : Loc P B (fun _ => True) (variablesAt a u n) := by
  unfold variablesAt
  (repeat' (first
    | assumption
    | exact Loc.pure trivial
    | exact Loc.halt trivial
    | exact loc_stuck _
    | exact loc_unsupported _
    | exact loc_goPanic _
    | exact Loc.load _
    | exact Loc.store _ _
    | exact Loc.freeze _ _
    | exact Loc.frozen _
    | exact Loc.choose _
    | exact Loc.mono (Loc.shape _) (fun _ _ => trivial)
    | exact Loc.mono (Loc.newObj _) (fun _ _ => trivial)
    | exact Loc.mono Loc.program (fun _ _ => trivial)
    | exact loc_typeInfo _
    | exact loc_underlying _
    | exact loc_zeroValue _
    | exact loc_sizeOf _
    | exact loc_isAgg _
    | exact loc_loadCells _ _
    | exact loc_storeCells _ _ _
    | exact loc_loadVar _ _
    | exact loc_storeVar _ _ _
    | exact loc_newRow _ _
    | exact loc_newVar _ _
    | exact loc_elemOf _
    | exact loc_part _ _ _
    | exact loc_runtimePanic _
    | exact loc_boundsPanic _ _ _ _
    | exact loc_asIntOf _
    | exact loc_asInt _
    | exact loc_asBool _
    | exact loc_asString _
    | exact loc_asAgg _
    | exact loc_asAddr _
    | exact loc_askRoom _
    | exact loc_markStringish _
    | exact loc_noView' _
    | exact loc_sameAddr _ _
    | exact loc_samePointer _ _
    | exact loc_byteOf _
    | exact loc_partAt _ _ _
    | exact loc_fieldPlace _ _
    | apply_assumption -exfalso -symm
    | refine Loc.bind (Loc.load _) ?_
    | refine Loc.bind (Loc.store _ _) ?_
    | refine Loc.bind Loc.program ?_
    | refine Loc.bind (Loc.shape _) ?_
    | refine Loc.bind (Loc.newObj _) ?_
    | refine Loc.bind (Loc.choose _) ?_
    | refine Loc.bind (loc_typeInfo _) ?_
    | refine Loc.bind (loc_underlying _) ?_
    | refine Loc.bind (loc_zeroValue _) ?_
    | refine Loc.bind (loc_sizeOf _) ?_
    | refine Loc.bind (loc_isAgg _) ?_
    | refine Loc.bind (loc_loadCells _ _) ?_
    | refine Loc.bind (loc_storeCells _ _ _) ?_
    | refine Loc.bind (loc_loadVar _ _) ?_
    | refine Loc.bind (loc_storeVar _ _ _) ?_
    | refine Loc.bind (loc_newRow _ _) ?_
    | refine Loc.bind (loc_newVar _ _) ?_
    | refine Loc.bind (loc_elemOf _) ?_
    | refine Loc.bind (loc_part _ _ _) ?_
    | refine Loc.bind (loc_runtimePanic _) ?_
    | refine Loc.bind (loc_boundsPanic _ _ _ _) ?_
    | refine Loc.bind (loc_asIntOf _) ?_
    | refine Loc.bind (loc_asInt _) ?_
    | refine Loc.bind (loc_asBool _) ?_
    | refine Loc.bind (loc_asString _) ?_
    | refine Loc.bind (loc_asAgg _) ?_
    | refine Loc.bind (loc_asAddr _) ?_
    | refine Loc.bind (loc_askRoom _) ?_
    | refine Loc.bind (loc_markStringish _) ?_
    | refine Loc.bind (loc_noView' _) ?_
    | refine Loc.bind (loc_sameAddr _ _) ?_
    | refine Loc.bind (loc_samePointer _ _) ?_
    | refine Loc.bind (loc_byteOf _) ?_
    | refine Loc.bind (loc_partAt _ _ _) ?_
    | refine Loc.bind (loc_fieldPlace _ _) ?_
    | refine Loc.bind (Q' := fun _ => True) ?_ ?_
    | (intro _ _; skip)
    | (extract_lets -underBinder +onlyGivenNames j; refine jpcut (j := j) ?_ ?_; intro u; subst j; dsimp -zeta only; rotate_left; intro hj; clear_value j)
    | (extract_lets -underBinder +onlyGivenNames j; refine jpcut0 (j := j) ?_ ?_; subst j; rotate_left; intro hj; clear_value j)
    | (extract_lets -underBinder +onlyGivenNames j; clear_value j)
    | split
    | (dsimp only; skip)))
theorem loc_loadBytes : ∀ (n : Nat) (a : Addr) (acc : ByteArray), Loc P B (fun _ => True) (loadBytes a acc n)
  | 0, _, _ => Loc.pure trivial
  | n + 1, a, acc => by
    unfold loadBytes
    refine Loc.bind (Loc.load _) fun v _ => ?_
    split
    · exact loc_loadBytes n _ _
    · exact loc_stuck _
theorem loc_sureAddr (v : Value) : Loc P B (fun _ => True) (Instr.sureAddr v) := by
  unfold Instr.sureAddr
  (repeat' (first
    | assumption
    | exact Loc.pure trivial
    | exact Loc.halt trivial
    | exact loc_stuck _
    | exact loc_unsupported _
    | exact loc_goPanic _
    | exact Loc.load _
    | exact Loc.store _ _
    | exact Loc.freeze _ _
    | exact Loc.frozen _
    | exact Loc.choose _
    | exact Loc.mono (Loc.shape _) (fun _ _ => trivial)
    | exact Loc.mono (Loc.newObj _) (fun _ _ => trivial)
    | exact Loc.mono Loc.program (fun _ _ => trivial)
    | exact loc_typeInfo _
    | exact loc_underlying _
    | exact loc_zeroValue _
    | exact loc_sizeOf _
    | exact loc_isAgg _
    | exact loc_loadCells _ _
    | exact loc_storeCells _ _ _
    | exact loc_loadVar _ _
    | exact loc_storeVar _ _ _
    | exact loc_newRow _ _
    | exact loc_newVar _ _
    | exact loc_elemOf _
    | exact loc_part _ _ _
    | exact loc_runtimePanic _
    | exact loc_boundsPanic _ _ _ _
    | exact loc_asIntOf _
    | exact loc_asInt _
    | exact loc_asBool _
    | exact loc_asString _
    | exact loc_asAgg _
    | exact loc_asAddr _
    | exact loc_askRoom _
    | exact loc_markStringish _
    | exact loc_noView' _
    | exact loc_sameAddr _ _
    | exact loc_samePointer _ _
    | exact loc_byteOf _
    | exact loc_partAt _ _ _
    | exact loc_fieldPlace _ _
    | exact loc_variablesAt _ _ _
    | exact loc_loadBytes _ _ _
    | apply_assumption -exfalso -symm
    | refine Loc.bind (Loc.load _) ?_
    | refine Loc.bind (Loc.store _ _) ?_
    | refine Loc.bind Loc.program ?_
    | refine Loc.bind (Loc.shape _) ?_
    | refine Loc.bind (Loc.newObj _) ?_
    | refine Loc.bind (Loc.choose _) ?_
    | refine Loc.bind (loc_typeInfo _) ?_
    | refine Loc.bind (loc_underlying _) ?_
    | refine Loc.bind (loc_zeroValue _) ?_
    | refine Loc.bind (loc_sizeOf _) ?_
    | refine Loc.bind (loc_isAgg _) ?_
    | refine Loc.bind (loc_loadCells _ _) ?_
    | refine Loc.bind (loc_storeCells _ _ _) ?_
    | refine Loc.bind (loc_loadVar _ _) ?_
    | refine Loc.bind (loc_storeVar _ _ _) ?_
    | refine Loc.bind (loc_newRow _ _) ?_
    | refine Loc.bind (loc_newVar _ _) ?_
    | refine Loc.bind (loc_elemOf _) ?_
    | refine Loc.bind (loc_part _ _ _) ?_
    | refine Loc.bind (loc_runtimePanic _) ?_
    | refine Loc.bind (loc_boundsPanic _ _ _ _) ?_
    | refine Loc.bind (loc_asIntOf _) ?_
    | refine Loc.bind (loc_asInt _) ?_
    | refine Loc.bind (loc_asBool _) ?_
    | refine Loc.bind (loc_asString _) ?_
    | refine Loc.bind (loc_asAgg _) ?_
    | refine Loc.bind (loc_asAddr _) ?_
    | refine Loc.bind (loc_askRoom _) ?_
    | refine Loc.bind (loc_markStringish _) ?_
    | refine Loc.bind (loc_noView' _) ?_
    | refine Loc.bind (loc_sameAddr _ _) ?_
    | refine Loc.bind (loc_samePointer _ _) ?_
    | refine Loc.bind (loc_byteOf _) ?_
    | refine Loc.bind (loc_partAt _ _ _) ?_
    | refine Loc.bind (loc_fieldPlace _ _) ?_
    | refine Loc.bind (loc_variablesAt _ _ _) ?_
    | refine Loc.bind (loc_loadBytes _ _ _) ?_
    | refine Loc.bind (Q' := fun _ => True) ?_ ?_
    | (intro _ _; skip)
    | (extract_lets -underBinder +onlyGivenNames j; refine jpcut (j := j) ?_ ?_; intro u; subst j; dsimp -zeta only; rotate_left; intro hj; clear_value j)
    | (extract_lets -underBinder +onlyGivenNames j; refine jpcut0 (j := j) ?_ ?_; subst j; rotate_left; intro hj; clear_value j)
    | (extract_lets -underBinder +onlyGivenNames j; clear_value j)
    | split
    | (dsimp only; skip)))
theorem loc_alloc (e : TypeId) (h : Bool) (o : Value) : Loc P B (fun _ => True) (Instr.alloc e h o) := by
  unfold Instr.alloc
  (repeat' (first
    | assumption
    | exact Loc.pure trivial
    | exact Loc.halt trivial
    | exact loc_stuck _
    | exact loc_unsupported _
    | exact loc_goPanic _
    | exact Loc.load _
    | exact Loc.store _ _
    | exact Loc.freeze _ _
    | exact Loc.frozen _
    | exact Loc.choose _
    | exact Loc.mono (Loc.shape _) (fun _ _ => trivial)
    | exact Loc.mono (Loc.newObj _) (fun _ _ => trivial)
    | exact Loc.mono Loc.program (fun _ _ => trivial)
    | exact loc_typeInfo _
    | exact loc_underlying _
    | exact loc_zeroValue _
    | exact loc_sizeOf _
    | exact loc_isAgg _
    | exact loc_loadCells _ _
    | exact loc_storeCells _ _ _
    | exact loc_loadVar _ _
    | exact loc_storeVar _ _ _
    | exact loc_newRow _ _
    | exact loc_newVar _ _
    | exact loc_elemOf _
    | exact loc_part _ _ _
    | exact loc_runtimePanic _
    | exact loc_boundsPanic _ _ _ _
    | exact loc_asIntOf _
    | exact loc_asInt _
    | exact loc_asBool _
    | exact loc_asString _
    | exact loc_asAgg _
    | exact loc_asAddr _
    | exact loc_askRoom _
    | exact loc_markStringish _
    | exact loc_noView' _
    | exact loc_sameAddr _ _
    | exact loc_samePointer _ _
    | exact loc_byteOf _
    | exact loc_partAt _ _ _
    | exact loc_fieldPlace _ _
    | exact loc_variablesAt _ _ _
    | exact loc_loadBytes _ _ _
    | exact loc_sureAddr _
    | apply_assumption -exfalso -symm
    | refine Loc.bind (Loc.load _) ?_
    | refine Loc.bind (Loc.store _ _) ?_
    | refine Loc.bind Loc.program ?_
    | refine Loc.bind (Loc.shape _) ?_
    | refine Loc.bind (Loc.newObj _) ?_
    | refine Loc.bind (Loc.choose _) ?_
    | refine Loc.bind (loc_typeInfo _) ?_
    | refine Loc.bind (loc_underlying _) ?_
    | refine Loc.bind (loc_zeroValue _) ?_
    | refine Loc.bind (loc_sizeOf _) ?_
    | refine Loc.bind (loc_isAgg _) ?_
    | refine Loc.bind (loc_loadCells _ _) ?_
    | refine Loc.bind (loc_storeCells _ _ _) ?_
    | refine Loc.bind (loc_loadVar _ _) ?_
    | refine Loc.bind (loc_storeVar _ _ _) ?_
    | refine Loc.bind (loc_newRow _ _) ?_
    | refine Loc.bind (loc_newVar _ _) ?_
    | refine Loc.bind (loc_elemOf _) ?_
    | refine Loc.bind (loc_part _ _ _) ?_
    | refine Loc.bind (loc_runtimePanic _) ?_
    | refine Loc.bind (loc_boundsPanic _ _ _ _) ?_
    | refine Loc.bind (loc_asIntOf _) ?_
    | refine Loc.bind (loc_asInt _) ?_
    | refine Loc.bind (loc_asBool _) ?_
    | refine Loc.bind (loc_asString _) ?_
    | refine Loc.bind (loc_asAgg _) ?_
    | refine Loc.bind (loc_asAddr _) ?_
    | refine Loc.bind (loc_askRoom _) ?_
    | refine Loc.bind (loc_markStringish _) ?_
    | refine Loc.bind (loc_noView' _) ?_
    | refine Loc.bind (loc_sameAddr _ _) ?_
    | refine Loc.bind (loc_samePointer _ _) ?_
    | refine Loc.bind (loc_byteOf _) ?_
    | refine Loc.bind (loc_partAt _ _ _) ?_
    | refine Loc.bind (loc_fieldPlace _ _) ?_
    | refine Loc.bind (loc_variablesAt _ _ _) ?_
    | refine Loc.bind (loc_loadBytes _ _ _) ?_
    | refine Loc.bind (loc_sureAddr _) ?_
    | refine Loc.bind (Q' := fun _ => True) ?_ ?_
    | (intro _ _; skip)
    | (extract_lets -underBinder +onlyGivenNames j; refine jpcut (j := j) ?_ ?_; intro u; subst j; dsimp -zeta only; rotate_left; intro hj; clear_value j)
    | (extract_lets -underBinder +onlyGivenNames j; refine jpcut0 (j := j) ?_ ?_; subst j; rotate_left; intro hj; clear_value j)
    | (extract_lets -underBinder +onlyGivenNames j; clear_value j)
    | split
    | (dsimp only; skip)))
theorem loc_loadAt (t : TypeId) (v : Value) : Loc P B (fun _ => True) (Instr.loadAt t v) := by
  unfold Instr.loadAt
  (repeat' (first
    | assumption
    | exact Loc.pure trivial
    | exact Loc.halt trivial
    | exact loc_stuck _
    | exact loc_unsupported _
    | exact loc_goPanic _
    | exact Loc.load _
    | exact Loc.store _ _
    | exact Loc.freeze _ _
    | exact Loc.frozen _
    | exact Loc.choose _
    | exact Loc.mono (Loc.shape _) (fun _ _ => trivial)
    | exact Loc.mono (Loc.newObj _) (fun _ _ => trivial)
    | exact Loc.mono Loc.program (fun _ _ => trivial)
    | exact loc_typeInfo _
    | exact loc_underlying _
    | exact loc_zeroValue _
    | exact loc_sizeOf _
    | exact loc_isAgg _
    | exact loc_loadCells _ _
    | exact loc_storeCells _ _ _
    | exact loc_loadVar _ _
    | exact loc_storeVar _ _ _
    | exact loc_newRow _ _
    | exact loc_newVar _ _
    | exact loc_elemOf _
    | exact loc_part _ _ _
    | exact loc_runtimePanic _
    | exact loc_boundsPanic _ _ _ _
    | exact loc_asIntOf _
    | exact loc_asInt _
    | exact loc_asBool _
    | exact loc_asString _
    | exact loc_asAgg _
    | exact loc_asAddr _
    | exact loc_askRoom _
    | exact loc_markStringish _
    | exact loc_noView' _
    | exact loc_sameAddr _ _
    | exact loc_samePointer _ _
    | exact loc_byteOf _
    | exact loc_partAt _ _ _
    | exact loc_fieldPlace _ _
    | exact loc_variablesAt _ _ _
    | exact loc_loadBytes _ _ _
    | exact loc_sureAddr _
    | exact loc_alloc _ _ _
    | apply_assumption -exfalso -symm
    | refine Loc.bind (Loc.load _) ?_
    | refine Loc.bind (Loc.store _ _) ?_
    | refine Loc.bind Loc.program ?_
    | refine Loc.bind (Loc.shape _) ?_
    | refine Loc.bind (Loc.newObj _) ?_
    | refine Loc.bind (Loc.choose _) ?_
    | refine Loc.bind (loc_typeInfo _) ?_
    | refine Loc.bind (loc_underlying _) ?_
    | refine Loc.bind (loc_zeroValue _) ?_
    | refine Loc.bind (loc_sizeOf _) ?_
    | refine Loc.bind (loc_isAgg _) ?_
    | refine Loc.bind (loc_loadCells _ _) ?_
    | refine Loc.bind (loc_storeCells _ _ _) ?_
    | refine Loc.bind (loc_loadVar _ _) ?_
    | refine Loc.bind (loc_storeVar _ _ _) ?_
    | refine Loc.bind (loc_newRow _ _) ?_
    | refine Loc.bind (loc_newVar _ _) ?_
    | refine Loc.bind (loc_elemOf _) ?_
    | refine Loc.bind (loc_part _ _ _) ?_
    | refine Loc.bind (loc_runtimePanic _) ?_
    | refine Loc.bind (loc_boundsPanic _ _ _ _) ?_
    | refine Loc.bind (loc_asIntOf _) ?_
    | refine Loc.bind (loc_asInt _) ?_
    | refine Loc.bind (loc_asBool _) ?_
    | refine Loc.bind (loc_asString _) ?_
    | refine Loc.bind (loc_asAgg _) ?_
    | refine Loc.bind (loc_asAddr _) ?_
    | refine Loc.bind (loc_askRoom _) ?_
    | refine Loc.bind (loc_markStringish _) ?_
    | refine Loc.bind (loc_noView' _) ?_
    | refine Loc.bind (loc_sameAddr _ _) ?_
    | refine Loc.bind (loc_samePointer _ _) ?_
    | refine Loc.bind (loc_byteOf _) ?_
    | refine Loc.bind (loc_partAt _ _ _) ?_
    | refine Loc.bind (loc_fieldPlace _ _) ?_
    | refine Loc.bind (loc_variablesAt _ _ _) ?_
    | refine Loc.bind (loc_loadBytes _ _ _) ?_
    | refine Loc.bind (loc_sureAddr _) ?_
    | refine Loc.bind (loc_alloc _ _ _) ?_
    | refine Loc.bind (Q' := fun _ => True) ?_ ?_
    | (intro _ _; skip)
    | (extract_lets -underBinder +onlyGivenNames j; refine jpcut (j := j) ?_ ?_; intro u; subst j; dsimp -zeta only; rotate_left; intro hj; clear_value j)
    | (extract_lets -underBinder +onlyGivenNames j; refine jpcut0 (j := j) ?_ ?_; subst j; rotate_left; intro hj; clear_value j)
    | (extract_lets -underBinder +onlyGivenNames j; clear_value j)
    | split
    | (dsimp only; skip)))
theorem loc_storeAt (t : TypeId) (a v : Value) : Loc P B (fun _ => True) (Instr.storeAt t a v) := by
  unfold Instr.storeAt
  (repeat' (first
    | assumption
    | exact Loc.pure trivial
    | exact Loc.halt trivial
    | exact loc_stuck _
    | exact loc_unsupported _
    | exact loc_goPanic _
    | exact Loc.load _
    | exact Loc.store _ _
    | exact Loc.freeze _ _
    | exact Loc.frozen _
    | exact Loc.choose _
    | exact Loc.mono (Loc.shape _) (fun _ _ => trivial)
    | exact Loc.mono (Loc.newObj _) (fun _ _ => trivial)
    | exact Loc.mono Loc.program (fun _ _ => trivial)
    | exact loc_typeInfo _
    | exact loc_underlying _
    | exact loc_zeroValue _
    | exact loc_sizeOf _
    | exact loc_isAgg _
    | exact loc_loadCells _ _
    | exact loc_storeCells _ _ _
    | exact loc_loadVar _ _
    | exact loc_storeVar _ _ _
    | exact loc_newRow _ _
    | exact loc_newVar _ _
    | exact loc_elemOf _
    | exact loc_part _ _ _
    | exact loc_runtimePanic _
    | exact loc_boundsPanic _ _ _ _
    | exact loc_asIntOf _
    | exact loc_asInt _
    | exact loc_asBool _
    | exact loc_asString _
    | exact loc_asAgg _
    | exact loc_asAddr _
    | exact loc_askRoom _
    | exact loc_markStringish _
    | exact loc_noView' _
    | exact loc_sameAddr _ _
    | exact loc_samePointer _ _
    | exact loc_byteOf _
    | exact loc_partAt _ _ _
    | exact loc_fieldPlace _ _
    | exact loc_variablesAt _ _ _
    | exact loc_loadBytes _ _ _
    | exact loc_sureAddr _
    | exact loc_alloc _ _ _
    | exact loc_loadAt _ _
    | apply_assumption -exfalso -symm
    | refine Loc.bind (Loc.load _) ?_
    | refine Loc.bind (Loc.store _ _) ?_
    | refine Loc.bind Loc.program ?_
    | refine Loc.bind (Loc.shape _) ?_
    | refine Loc.bind (Loc.newObj _) ?_
    | refine Loc.bind (Loc.choose _) ?_
    | refine Loc.bind (loc_typeInfo _) ?_
    | refine Loc.bind (loc_underlying _) ?_
    | refine Loc.bind (loc_zeroValue _) ?_
    | refine Loc.bind (loc_sizeOf _) ?_
    | refine Loc.bind (loc_isAgg _) ?_
    | refine Loc.bind (loc_loadCells _ _) ?_
    | refine Loc.bind (loc_storeCells _ _ _) ?_
    | refine Loc.bind (loc_loadVar _ _) ?_
    | refine Loc.bind (loc_storeVar _ _ _) ?_
    | refine Loc.bind (loc_newRow _ _) ?_
    | refine Loc.bind (loc_newVar _ _) ?_
    | refine Loc.bind (loc_elemOf _) ?_
    | refine Loc.bind (loc_part _ _ _) ?_
    | refine Loc.bind (loc_runtimePanic _) ?_
    | refine Loc.bind (loc_boundsPanic _ _ _ _) ?_
    | refine Loc.bind (loc_asIntOf _) ?_
    | refine Loc.bind (loc_asInt _) ?_
    | refine Loc.bind (loc_asBool _) ?_
    | refine Loc.bind (loc_asString _) ?_
    | refine Loc.bind (loc_asAgg _) ?_
    | refine Loc.bind (loc_asAddr _) ?_
    | refine Loc.bind (loc_askRoom _) ?_
    | refine Loc.bind (loc_markStringish _) ?_
    | refine Loc.bind (loc_noView' _) ?_
    | refine Loc.bind (loc_sameAddr _ _) ?_
    | refine Loc.bind (loc_samePointer _ _) ?_
    | refine Loc.bind (loc_byteOf _) ?_
    | refine Loc.bind (loc_partAt _ _ _) ?_
    | refine Loc.bind (loc_fieldPlace _ _) ?_
    | refine Loc.bind (loc_variablesAt _ _ _) ?_
    | refine Loc.bind (loc_loadBytes _ _ _) ?_
    | refine Loc.bind (loc_sureAddr _) ?_
    | refine Loc.bind (loc_alloc _ _ _) ?_
    | refine Loc.bind (loc_loadAt _ _) ?_
    | refine Loc.bind (Q' := fun _ => True) ?_ ?_
    | (intro _ _; skip)
    | (extract_lets -underBinder +onlyGivenNames j; refine jpcut (j := j) ?_ ?_; intro u; subst j; dsimp -zeta only; rotate_left; intro hj; clear_value j)
    | (extract_lets -underBinder +onlyGivenNames j; refine jpcut0 (j := j) ?_ ?_; subst j; rotate_left; intro hj; clear_value j)
    | (extract_lets -underBinder +onlyGivenNames j; clear_value j)
    | split
    | (dsimp only; skip)))
theorem loc_fieldAt (s : TypeId) (a : Value) (f : Nat) : Loc P B (fun _ => True) (Instr.fieldAt s a f) := by
  unfold Instr.fieldAt
  (repeat' (first
    | assumption
    | exact Loc.pure trivial
    | exact Loc.halt trivial
    | exact loc_stuck _
    | exact loc_unsupported _
    | exact loc_goPanic _
    | exact Loc.load _
    | exact Loc.store _ _
    | exact Loc.freeze _ _
    | exact Loc.frozen _
    | exact Loc.choose _
    | exact Loc.mono (Loc.shape _) (fun _ _ => trivial)
    | exact Loc.mono (Loc.newObj _) (fun _ _ => trivial)
    | exact Loc.mono Loc.program (fun _ _ => trivial)
    | exact loc_typeInfo _
    | exact loc_underlying _
    | exact loc_zeroValue _
    | exact loc_sizeOf _
    | exact loc_isAgg _
    | exact loc_loadCells _ _
    | exact loc_storeCells _ _ _
    | exact loc_loadVar _ _
    | exact loc_storeVar _ _ _
    | exact loc_newRow _ _
    | exact loc_newVar _ _
    | exact loc_elemOf _
    | exact loc_part _ _ _
    | exact loc_runtimePanic _
    | exact loc_boundsPanic _ _ _ _
    | exact loc_asIntOf _
    | exact loc_asInt _
    | exact loc_asBool _
    | exact loc_asString _
    | exact loc_asAgg _
    | exact loc_asAddr _
    | exact loc_askRoom _
    | exact loc_markStringish _
    | exact loc_noView' _
    | exact loc_sameAddr _ _
    | exact loc_samePointer _ _
    | exact loc_byteOf _
    | exact loc_partAt _ _ _
    | exact loc_fieldPlace _ _
    | exact loc_variablesAt _ _ _
    | exact loc_loadBytes _ _ _
    | exact loc_sureAddr _
    | exact loc_alloc _ _ _
    | exact loc_loadAt _ _
    | exact loc_storeAt _ _ _
    | apply_assumption -exfalso -symm
    | refine Loc.bind (Loc.load _) ?_
    | refine Loc.bind (Loc.store _ _) ?_
    | refine Loc.bind Loc.program ?_
    | refine Loc.bind (Loc.shape _) ?_
    | refine Loc.bind (Loc.newObj _) ?_
    | refine Loc.bind (Loc.choose _) ?_
    | refine Loc.bind (loc_typeInfo _) ?_
    | refine Loc.bind (loc_underlying _) ?_
    | refine Loc.bind (loc_zeroValue _) ?_
    | refine Loc.bind (loc_sizeOf _) ?_
    | refine Loc.bind (loc_isAgg _) ?_
    | refine Loc.bind (loc_loadCells _ _) ?_
    | refine Loc.bind (loc_storeCells _ _ _) ?_
    | refine Loc.bind (loc_loadVar _ _) ?_
    | refine Loc.bind (loc_storeVar _ _ _) ?_
    | refine Loc.bind (loc_newRow _ _) ?_
    | refine Loc.bind (loc_newVar _ _) ?_
    | refine Loc.bind (loc_elemOf _) ?_
    | refine Loc.bind (loc_part _ _ _) ?_
    | refine Loc.bind (loc_runtimePanic _) ?_
    | refine Loc.bind (loc_boundsPanic _ _ _ _) ?_
    | refine Loc.bind (loc_asIntOf _) ?_
    | refine Loc.bind (loc_asInt _) ?_
    | refine Loc.bind (loc_asBool _) ?_
    | refine Loc.bind (loc_asString _) ?_
    | refine Loc.bind (loc_asAgg _) ?_
    | refine Loc.bind (loc_asAddr _) ?_
    | refine Loc.bind (loc_askRoom _) ?_
    | refine Loc.bind (loc_markStringish _) ?_
    | refine Loc.bind (loc_noView' _) ?_
    | refine Loc.bind (loc_sameAddr _ _) ?_
    | refine Loc.bind (loc_samePointer _ _) ?_
    | refine Loc.bind (loc_byteOf _) ?_
    | refine Loc.bind (loc_partAt _ _ _) ?_
    | refine Loc.bind (loc_fieldPlace _ _) ?_
    | refine Loc.bind (loc_variablesAt _ _ _) ?_
    | refine Loc.bind (loc_loadBytes _ _ _) ?_
    | refine Loc.bind (loc_sureAddr _) ?_
    | refine Loc.bind (loc_alloc _ _ _) ?_
    | refine Loc.bind (loc_loadAt _ _) ?_
    | refine Loc.bind (loc_storeAt _ _ _) ?_
    | refine Loc.bind (Q' := fun _ => True) ?_ ?_
    | (intro _ _; skip)
    | (extract_lets -underBinder +onlyGivenNames j; refine jpcut (j := j) ?_ ?_; intro u; subst j; dsimp -zeta only; rotate_left; intro hj; clear_value j)
    | (extract_lets -underBinder +onlyGivenNames j; refine jpcut0 (j := j) ?_ ?_; subst j; rotate_left; intro hj; clear_value j)
    | (extract_lets -underBinder +onlyGivenNames j; clear_value j)
    | split
    | (dsimp only; skip)))
theorem loc_indexAt (t : TypeId) (x i : Value) : Loc P B (fun _ => True) (Instr.indexAt t x i) := by
  unfold Instr.indexAt
  (repeat' (first
    | assumption
    | exact Loc.pure trivial
    | exact Loc.halt trivial
    | exact loc_stuck _
    | exact loc_unsupported _
    | exact loc_goPanic _
    | exact Loc.load _
    | exact Loc.store _ _
    | exact Loc.freeze _ _
    | exact Loc.frozen _
    | exact Loc.choose _
    | exact Loc.mono (Loc.shape _) (fun _ _ => trivial)
    | exact Loc.mono (Loc.newObj _) (fun _ _ => trivial)
    | exact Loc.mono Loc.program (fun _ _ => trivial)
    | exact loc_typeInfo _
    | exact loc_underlying _
    | exact loc_zeroValue _
    | exact loc_sizeOf _
    | exact loc_isAgg _
    | exact loc_loadCells _ _
    | exact loc_storeCells _ _ _
    | exact loc_loadVar _ _
    | exact loc_storeVar _ _ _
    | exact loc_newRow _ _
    | exact loc_newVar _ _
    | exact loc_elemOf _
    | exact loc_part _ _ _
    | exact loc_runtimePanic _
    | exact loc_boundsPanic _ _ _ _
    | exact loc_asIntOf _
    | exact loc_asInt _
    | exact loc_asBool _
    | exact loc_asString _
    | exact loc_asAgg _
    | exact loc_asAddr _
    | exact loc_askRoom _
    | exact loc_markStringish _
    | exact loc_noView' _
    | exact loc_sameAddr _ _
    | exact loc_samePointer _ _
    | exact loc_byteOf _
    | exact loc_partAt _ _ _
    | exact loc_fieldPlace _ _
    | exact loc_variablesAt _ _ _
    | exact loc_loadBytes _ _ _
    | exact loc_sureAddr _
    | exact loc_alloc _ _ _
    | exact loc_loadAt _ _
    | exact loc_storeAt _ _ _
    | exact loc_fieldAt _ _ _
    | apply_assumption -exfalso -symm
    | refine Loc.bind (Loc.load _) ?_
    | refine Loc.bind (Loc.store _ _) ?_
    | refine Loc.bind Loc.program ?_
    | refine Loc.bind (Loc.shape _) ?_
    | refine Loc.bind (Loc.newObj _) ?_
    | refine Loc.bind (Loc.choose _) ?_
    | refine Loc.bind (loc_typeInfo _) ?_
    | refine Loc.bind (loc_underlying _) ?_
    | refine Loc.bind (loc_zeroValue _) ?_
    | refine Loc.bind (loc_sizeOf _) ?_
    | refine Loc.bind (loc_isAgg _) ?_
    | refine Loc.bind (loc_loadCells _ _) ?_
    | refine Loc.bind (loc_storeCells _ _ _) ?_
    | refine Loc.bind (loc_loadVar _ _) ?_
    | refine Loc.bind (loc_storeVar _ _ _) ?_
    | refine Loc.bind (loc_newRow _ _) ?_
    | refine Loc.bind (loc_newVar _ _) ?_
    | refine Loc.bind (loc_elemOf _) ?_
    | refine Loc.bind (loc_part _ _ _) ?_
    | refine Loc.bind (loc_runtimePanic _) ?_
    | refine Loc.bind (loc_boundsPanic _ _ _ _) ?_
    | refine Loc.bind (loc_asIntOf _) ?_
    | refine Loc.bind (loc_asInt _) ?_
    | refine Loc.bind (loc_asBool _) ?_
    | refine Loc.bind (loc_asString _) ?_
    | refine Loc.bind (loc_asAgg _) ?_
    | refine Loc.bind (loc_asAddr _) ?_
    | refine Loc.bind (loc_askRoom _) ?_
    | refine Loc.bind (loc_markStringish _) ?_
    | refine Loc.bind (loc_noView' _) ?_
    | refine Loc.bind (loc_sameAddr _ _) ?_
    | refine Loc.bind (loc_samePointer _ _) ?_
    | refine Loc.bind (loc_byteOf _) ?_
    | refine Loc.bind (loc_partAt _ _ _) ?_
    | refine Loc.bind (loc_fieldPlace _ _) ?_
    | refine Loc.bind (loc_variablesAt _ _ _) ?_
    | refine Loc.bind (loc_loadBytes _ _ _) ?_
    | refine Loc.bind (loc_sureAddr _) ?_
    | refine Loc.bind (loc_alloc _ _ _) ?_
    | refine Loc.bind (loc_loadAt _ _) ?_
    | refine Loc.bind (loc_storeAt _ _ _) ?_
    | refine Loc.bind (loc_fieldAt _ _ _) ?_
    | refine Loc.bind (Q' := fun _ => True) ?_ ?_
    | (intro _ _; skip)
    | (extract_lets -underBinder +onlyGivenNames j; refine jpcut (j := j) ?_ ?_; intro u; subst j; dsimp -zeta only; rotate_left; intro hj; clear_value j)
    | (extract_lets -underBinder +onlyGivenNames j; refine jpcut0 (j := j) ?_ ?_; subst j; rotate_left; intro hj; clear_value j)
    | (extract_lets -underBinder +onlyGivenNames j; clear_value j)
    | split
    | (dsimp only; skip)))
theorem loc_sliceBound (x : Value) (y : Nat) (c : BoundsCode) : Loc P B (fun _ => True) (Instr.sliceBound x y c) := by
  unfold Instr.sliceBound
  (repeat' (first
    | assumption
    | exact Loc.pure trivial
    | exact Loc.halt trivial
    | exact loc_stuck _
    | exact loc_unsupported _
    | exact loc_goPanic _
    | exact Loc.load _
    | exact Loc.store _ _
    | exact Loc.freeze _ _
    | exact Loc.frozen _
    | exact Loc.choose _
    | exact Loc.mono (Loc.shape _) (fun _ _ => trivial)
    | exact Loc.mono (Loc.newObj _) (fun _ _ => trivial)
    | exact Loc.mono Loc.program (fun _ _ => trivial)
    | exact loc_typeInfo _
    | exact loc_underlying _
    | exact loc_zeroValue _
    | exact loc_sizeOf _
    | exact loc_isAgg _
    | exact loc_loadCells _ _
    | exact loc_storeCells _ _ _
    | exact loc_loadVar _ _
    | exact loc_storeVar _ _ _
    | exact loc_newRow _ _
    | exact loc_newVar _ _
    | exact loc_elemOf _
    | exact loc_part _ _ _
    | exact loc_runtimePanic _
    | exact loc_boundsPanic _ _ _ _
    | exact loc_asIntOf _
    | exact loc_asInt _
    | exact loc_asBool _
    | exact loc_asString _
    | exact loc_asAgg _
    | exact loc_asAddr _
    | exact loc_askRoom _
    | exact loc_markStringish _
    | exact loc_noView' _
    | exact loc_sameAddr _ _
    | exact loc_samePointer _ _
    | exact loc_byteOf _
    | exact loc_partAt _ _ _
    | exact loc_fieldPlace _ _
    | exact loc_variablesAt _ _ _
    | exact loc_loadBytes _ _ _
    | exact loc_sureAddr _
    | exact loc_alloc _ _ _
    | exact loc_loadAt _ _
    | exact loc_storeAt _ _ _
    | exact loc_fieldAt _ _ _
    | exact loc_indexAt _ _ _
    | apply_assumption -exfalso -symm
    | refine Loc.bind (Loc.load _) ?_
    | refine Loc.bind (Loc.store _ _) ?_
    | refine Loc.bind Loc.program ?_
    | refine Loc.bind (Loc.shape _) ?_
    | refine Loc.bind (Loc.newObj _) ?_
    | refine Loc.bind (Loc.choose _) ?_
    | refine Loc.bind (loc_typeInfo _) ?_
    | refine Loc.bind (loc_underlying _) ?_
    | refine Loc.bind (loc_zeroValue _) ?_
    | refine Loc.bind (loc_sizeOf _) ?_
    | refine Loc.bind (loc_isAgg _) ?_
    | refine Loc.bind (loc_loadCells _ _) ?_
    | refine Loc.bind (loc_storeCells _ _ _) ?_
    | refine Loc.bind (loc_loadVar _ _) ?_
    | refine Loc.bind (loc_storeVar _ _ _) ?_
    | refine Loc.bind (loc_newRow _ _) ?_
    | refine Loc.bind (loc_newVar _ _) ?_
    | refine Loc.bind (loc_elemOf _) ?_
    | refine Loc.bind (loc_part _ _ _) ?_
    | refine Loc.bind (loc_runtimePanic _) ?_
    | refine Loc.bind (loc_boundsPanic _ _ _ _) ?_
    | refine Loc.bind (loc_asIntOf _) ?_
    | refine Loc.bind (loc_asInt _) ?_
    | refine Loc.bind (loc_asBool _) ?_
    | refine Loc.bind (loc_asString _) ?_
    | refine Loc.bind (loc_asAgg _) ?_
    | refine Loc.bind (loc_asAddr _) ?_
    | refine Loc.bind (loc_askRoom _) ?_
    | refine Loc.bind (loc_markStringish _) ?_
    | refine Loc.bind (loc_noView' _) ?_
    | refine Loc.bind (loc_sameAddr _ _) ?_
    | refine Loc.bind (loc_samePointer _ _) ?_
    | refine Loc.bind (loc_byteOf _) ?_
    | refine Loc.bind (loc_partAt _ _ _) ?_
    | refine Loc.bind (loc_fieldPlace _ _) ?_
    | refine Loc.bind (loc_variablesAt _ _ _) ?_
    | refine Loc.bind (loc_loadBytes _ _ _) ?_
    | refine Loc.bind (loc_sureAddr _) ?_
    | refine Loc.bind (loc_alloc _ _ _) ?_
    | refine Loc.bind (loc_loadAt _ _) ?_
    | refine Loc.bind (loc_storeAt _ _ _) ?_
    | refine Loc.bind (loc_fieldAt _ _ _) ?_
    | refine Loc.bind (loc_indexAt _ _ _) ?_
    | refine Loc.bind (Q' := fun _ => True) ?_ ?_
    | (intro _ _; skip)
    | (extract_lets -underBinder +onlyGivenNames j; refine jpcut (j := j) ?_ ?_; intro u; subst j; dsimp -zeta only; rotate_left; intro hj; clear_value j)
    | (extract_lets -underBinder +onlyGivenNames j; refine jpcut0 (j := j) ?_ ?_; subst j; rotate_left; intro hj; clear_value j)
    | (extract_lets -underBinder +onlyGivenNames j; clear_value j)
    | split
    | (dsimp only; skip)))
theorem loc_sliceBounds (b : Bool) (l c : Nat) (x y z : Option Value) : Loc P B (fun _ => True) (Instr.sliceBounds b l c x y z) := by
  unfold Instr.sliceBounds
  (repeat' (first
    | assumption
    | exact Loc.pure trivial
    | exact Loc.halt trivial
    | exact loc_stuck _
    | exact loc_unsupported _
    | exact loc_goPanic _
    | exact Loc.load _
    | exact Loc.store _ _
    | exact Loc.freeze _ _
    | exact Loc.frozen _
    | exact Loc.choose _
    | exact Loc.mono (Loc.shape _) (fun _ _ => trivial)
    | exact Loc.mono (Loc.newObj _) (fun _ _ => trivial)
    | exact Loc.mono Loc.program (fun _ _ => trivial)
    | exact loc_typeInfo _
    | exact loc_underlying _
    | exact loc_zeroValue _
    | exact loc_sizeOf _
    | exact loc_isAgg _
    | exact loc_loadCells _ _
    | exact loc_storeCells _ _ _
    | exact loc_loadVar _ _
    | exact loc_storeVar _ _ _
    | exact loc_newRow _ _
    | exact loc_newVar _ _
    | exact loc_elemOf _
    | exact loc_part _ _ _
    | exact loc_runtimePanic _
    | exact loc_boundsPanic _ _ _ _
    | exact loc_asIntOf _
    | exact loc_asInt _
    | exact loc_asBool _
    | exact loc_asString _
    | exact loc_asAgg _
    | exact loc_asAddr _
    | exact loc_askRoom _
    | exact loc_markStringish _
    | exact loc_noView' _
    | exact loc_sameAddr _ _
    | exact loc_samePointer _ _
    | exact loc_byteOf _
    | exact loc_partAt _ _ _
    | exact loc_fieldPlace _ _
    | exact loc_variablesAt _ _ _
    | exact loc_loadBytes _ _ _
    | exact loc_sureAddr _
    | exact loc_alloc _ _ _
    | exact loc_loadAt _ _
    | exact loc_storeAt _ _ _
    | exact loc_fieldAt _ _ _
    | exact loc_indexAt _ _ _
    | exact loc_sliceBound _ _ _
    | apply_assumption -exfalso -symm
    | refine Loc.bind (Loc.load _) ?_
    | refine Loc.bind (Loc.store _ _) ?_
    | refine Loc.bind Loc.program ?_
    | refine Loc.bind (Loc.shape _) ?_
    | refine Loc.bind (Loc.newObj _) ?_
    | refine Loc.bind (Loc.choose _) ?_
    | refine Loc.bind (loc_typeInfo _) ?_
    | refine Loc.bind (loc_underlying _) ?_
    | refine Loc.bind (loc_zeroValue _) ?_
    | refine Loc.bind (loc_sizeOf _) ?_
    | refine Loc.bind (loc_isAgg _) ?_
    | refine Loc.bind (loc_loadCells _ _) ?_
    | refine Loc.bind (loc_storeCells _ _ _) ?_
    | refine Loc.bind (loc_loadVar _ _) ?_
    | refine Loc.bind (loc_storeVar _ _ _) ?_
    | refine Loc.bind (loc_newRow _ _) ?_
    | refine Loc.bind (loc_newVar _ _) ?_
    | refine Loc.bind (loc_elemOf _) ?_
    | refine Loc.bind (loc_part _ _ _) ?_
    | refine Loc.bind (loc_runtimePanic _) ?_
    | refine Loc.bind (loc_boundsPanic _ _ _ _) ?_
    | refine Loc.bind (loc_asIntOf _) ?_
    | refine Loc.bind (loc_asInt _) ?_
    | refine Loc.bind (loc_asBool _) ?_
    | refine Loc.bind (loc_asString _) ?_
    | refine Loc.bind (loc_asAgg _) ?_
    | refine Loc.bind (loc_asAddr _) ?_
    | refine Loc.bind (loc_askRoom _) ?_
    | refine Loc.bind (loc_markStringish _) ?_
    | refine Loc.bind (loc_noView' _) ?_
    | refine Loc.bind (loc_sameAddr _ _) ?_
    | refine Loc.bind (loc_samePointer _ _) ?_
    | refine Loc.bind (loc_byteOf _) ?_
    | refine Loc.bind (loc_partAt _ _ _) ?_
    | refine Loc.bind (loc_fieldPlace _ _) ?_
    | refine Loc.bind (loc_variablesAt _ _ _) ?_
    | refine Loc.bind (loc_loadBytes _ _ _) ?_
    | refine Loc.bind (loc_sureAddr _) ?_
    | refine Loc.bind (loc_alloc _ _ _) ?_
    | refine Loc.bind (loc_loadAt _ _) ?_
    | refine Loc.bind (loc_storeAt _ _ _) ?_
    | refine Loc.bind (loc_fieldAt _ _ _) ?_
    | refine Loc.bind (loc_indexAt _ _ _) ?_
    | refine Loc.bind (loc_sliceBound _ _ _) ?_
    | refine Loc.bind (Q' := fun _ => True) ?_ ?_
    | (intro _ _; skip)
    | (extract_lets -underBinder +onlyGivenNames j; refine jpcut (j := j) ?_ ?_; intro u; subst j; dsimp -zeta only; rotate_left; intro hj; clear_value j)
    | (extract_lets -underBinder +onlyGivenNames j; refine jpcut0 (j := j) ?_ ?_; subst j; rotate_left; intro hj; clear_value j)
    | (extract_lets -underBinder +onlyGivenNames j; clear_value j)
    | split
    | (dsimp only; skip)))
theorem loc_slice (t : TypeId) (v : Value) (x y z : Option Value) : Loc P B (fun _ => True) (Instr.slice t v x y z) := by
  unfold Instr.slice
  (repeat' (first
    | assumption
    | exact Loc.pure trivial
    | exact Loc.halt trivial
    | exact loc_stuck _
    | exact loc_unsupported _
    | exact loc_goPanic _
    | exact Loc.load _
    | exact Loc.store _ _
    | exact Loc.freeze _ _
    | exact Loc.frozen _
    | exact Loc.choose _
    | exact Loc.mono (Loc.shape _) (fun _ _ => trivial)
    | exact Loc.mono (Loc.newObj _) (fun _ _ => trivial)
    | exact Loc.mono Loc.program (fun _ _ => trivial)
    | exact loc_typeInfo _
    | exact loc_underlying _
    | exact loc_zeroValue _
    | exact loc_sizeOf _
    | exact loc_isAgg _
    | exact loc_loadCells _ _
    | exact loc_storeCells _ _ _
    | exact loc_loadVar _ _
    | exact loc_storeVar _ _ _
    | exact loc_newRow _ _
    | exact loc_newVar _ _
    | exact loc_elemOf _
    | exact loc_part _ _ _
    | exact loc_runtimePanic _
    | exact loc_boundsPanic _ _ _ _
    | exact loc_asIntOf _
    | exact loc_asInt _
    | exact loc_asBool _
    | exact loc_asString _
    | exact loc_asAgg _
    | exact loc_asAddr _
    | exact loc_askRoom _
    | exact loc_markStringish _
    | exact loc_noView' _
    | exact loc_sameAddr _ _
    | exact loc_samePointer _ _
    | exact loc_byteOf _
    | exact loc_partAt _ _ _
    | exact loc_fieldPlace _ _
    | exact loc_variablesAt _ _ _
    | exact loc_loadBytes _ _ _
    | exact loc_sureAddr _
    | exact loc_alloc _ _ _
    | exact loc_loadAt _ _
    | exact loc_storeAt _ _ _
    | exact loc_fieldAt _ _ _
    | exact loc_indexAt _ _ _
    | exact loc_sliceBound _ _ _
    | exact loc_sliceBounds _ _ _ _ _ _
    | apply_assumption -exfalso -symm
    | refine Loc.bind (Loc.load _) ?_
    | refine Loc.bind (Loc.store _ _) ?_
    | refine Loc.bind Loc.program ?_
    | refine Loc.bind (Loc.shape _) ?_
    | refine Loc.bind (Loc.newObj _) ?_
    | refine Loc.bind (Loc.choose _) ?_
    | refine Loc.bind (loc_typeInfo _) ?_
    | refine Loc.bind (loc_underlying _) ?_
    | refine Loc.bind (loc_zeroValue _) ?_
    | refine Loc.bind (loc_sizeOf _) ?_
    | refine Loc.bind (loc_isAgg _) ?_
    | refine Loc.bind (loc_loadCells _ _) ?_
    | refine Loc.bind (loc_storeCells _ _ _) ?_
    | refine Loc.bind (loc_loadVar _ _) ?_
    | refine Loc.bind (loc_storeVar _ _ _) ?_
    | refine Loc.bind (loc_newRow _ _) ?_
    | refine Loc.bind (loc_newVar _ _) ?_
    | refine Loc.bind (loc_elemOf _) ?_
    | refine Loc.bind (loc_part _ _ _) ?_
    | refine Loc.bind (loc_runtimePanic _) ?_
    | refine Loc.bind (loc_boundsPanic _ _ _ _) ?_
    | refine Loc.bind (loc_asIntOf _) ?_
    | refine Loc.bind (loc_asInt _) ?_
    | refine Loc.bind (loc_asBool _) ?_
    | refine Loc.bind (loc_asString _) ?_
    | refine Loc.bind (loc_asAgg _) ?_
    | refine Loc.bind (loc_asAddr _) ?_
    | refine Loc.bind (loc_askRoom _) ?_
    | refine Loc.bind (loc_markStringish _) ?_
    | refine Loc.bind (loc_noView' _) ?_
    | refine Loc.bind (loc_sameAddr _ _) ?_
    | refine Loc.bind (loc_samePointer _ _) ?_
    | refine Loc.bind (loc_byteOf _) ?_
    | refine Loc.bind (loc_partAt _ _ _) ?_
    | refine Loc.bind (loc_fieldPlace _ _) ?_
    | refine Loc.bind (loc_variablesAt _ _ _) ?_
    | refine Loc.bind (loc_loadBytes _ _ _) ?_
    | refine Loc.bind (loc_sureAddr _) ?_
    | refine Loc.bind (loc_alloc _ _ _) ?_
    | refine Loc.bind (loc_loadAt _ _) ?_
    | refine Loc.bind (loc_storeAt _ _ _) ?_
    | refine Loc.bind (loc_fieldAt _ _ _) ?_
    | refine Loc.bind (loc_indexAt _ _ _) ?_
    | refine Loc.bind (loc_sliceBound _ _ _) ?_
    | refine Loc.bind (loc_sliceBounds _ _ _ _ _ _) ?_
    | refine Loc.bind (Q' := fun _ => True) ?_ ?_
    | (intro _ _; skip)
    | (extract_lets -underBinder +onlyGivenNames j; refine jpcut (j := j) ?_ ?_; intro u; subst j; dsimp -zeta only; rotate_left; intro hj; clear_value j)
    | (extract_lets -underBinder +onlyGivenNames j; refine jpcut0 (j := j) ?_ ?_; subst j; rotate_left; intro hj; clear_value j)
    | (extract_lets -underBinder +onlyGivenNames j; clear_value j)
    | split
    | (dsimp only; skip)))
theorem loc_sliceAt (t : TypeId) (v : Value) (x y z : Option Value) : Loc P B (fun _ => True) (Instr.sliceAt t v x y z) := by
  unfold Instr.sliceAt
  (repeat' (first
    | assumption
    | exact Loc.pure trivial
    | exact Loc.halt trivial
    | exact loc_stuck _
    | exact loc_unsupported _
    | exact loc_goPanic _
    | exact Loc.load _
    | exact Loc.store _ _
    | exact Loc.freeze _ _
    | exact Loc.frozen _
    | exact Loc.choose _
    | exact Loc.mono (Loc.shape _) (fun _ _ => trivial)
    | exact Loc.mono (Loc.newObj _) (fun _ _ => trivial)
    | exact Loc.mono Loc.program (fun _ _ => trivial)
    | exact loc_typeInfo _
    | exact loc_underlying _
    | exact loc_zeroValue _
    | exact loc_sizeOf _
    | exact loc_isAgg _
    | exact loc_loadCells _ _
    | exact loc_storeCells _ _ _
    | exact loc_loadVar _ _
    | exact loc_storeVar _ _ _
    | exact loc_newRow _ _
    | exact loc_newVar _ _
    | exact loc_elemOf _
    | exact loc_part _ _ _
    | exact loc_runtimePanic _
    | exact loc_boundsPanic _ _ _ _
    | exact loc_asIntOf _
    | exact loc_asInt _
    | exact loc_asBool _
    | exact loc_asString _
    | exact loc_asAgg _
    | exact loc_asAddr _
    | exact loc_askRoom _
    | exact loc_markStringish _
    | exact loc_noView' _
    | exact loc_sameAddr _ _
    | exact loc_samePointer _ _
    | exact loc_byteOf _
    | exact loc_partAt _ _ _
    | exact loc_fieldPlace _ _
    | exact loc_variablesAt _ _ _
    | exact loc_loadBytes _ _ _
    | exact loc_sureAddr _
    | exact loc_alloc _ _ _
    | exact loc_loadAt _ _
    | exact loc_storeAt _ _ _
    | exact loc_fieldAt _ _ _
    | exact loc_indexAt _ _ _
    | exact loc_sliceBound _ _ _
    | exact loc_sliceBounds _ _ _ _ _ _
    | exact loc_slice _ _ _ _ _
    | apply_assumption -exfalso -symm
    | refine Loc.bind (Loc.load _) ?_
    | refine Loc.bind (Loc.store _ _) ?_
    | refine Loc.bind Loc.program ?_
    | refine Loc.bind (Loc.shape _) ?_
    | refine Loc.bind (Loc.newObj _) ?_
    | refine Loc.bind (Loc.choose _) ?_
    | refine Loc.bind (loc_typeInfo _) ?_
    | refine Loc.bind (loc_underlying _) ?_
    | refine Loc.bind (loc_zeroValue _) ?_
    | refine Loc.bind (loc_sizeOf _) ?_
    | refine Loc.bind (loc_isAgg _) ?_
    | refine Loc.bind (loc_loadCells _ _) ?_
    | refine Loc.bind (loc_storeCells _ _ _) ?_
    | refine Loc.bind (loc_loadVar _ _) ?_
    | refine Loc.bind (loc_storeVar _ _ _) ?_
    | refine Loc.bind (loc_newRow _ _) ?_
    | refine Loc.bind (loc_newVar _ _) ?_
    | refine Loc.bind (loc_elemOf _) ?_
    | refine Loc.bind (loc_part _ _ _) ?_
    | refine Loc.bind (loc_runtimePanic _) ?_
    | refine Loc.bind (loc_boundsPanic _ _ _ _) ?_
    | refine Loc.bind (loc_asIntOf _) ?_
    | refine Loc.bind (loc_asInt _) ?_
    | refine Loc.bind (loc_asBool _) ?_
    | refine Loc.bind (loc_asString _) ?_
    | refine Loc.bind (loc_asAgg _) ?_
    | refine Loc.bind (loc_asAddr _) ?_
    | refine Loc.bind (loc_askRoom _) ?_
    | refine Loc.bind (loc_markStringish _) ?_
    | refine Loc.bind (loc_noView' _) ?_
    | refine Loc.bind (loc_sameAddr _ _) ?_
    | refine Loc.bind (loc_samePointer _ _) ?_
    | refine Loc.bind (loc_byteOf _) ?_
    | refine Loc.bind (loc_partAt _ _ _) ?_
    | refine Loc.bind (loc_fieldPlace _ _) ?_
    | refine Loc.bind (loc_variablesAt _ _ _) ?_
    | refine Loc.bind (loc_loadBytes _ _ _) ?_
    | refine Loc.bind (loc_sureAddr _) ?_
    | refine Loc.bind (loc_alloc _ _ _) ?_
    | refine Loc.bind (loc_loadAt _ _) ?_
    | refine Loc.bind (loc_storeAt _ _ _) ?_
    | refine Loc.bind (loc_fieldAt _ _ _) ?_
    | refine Loc.bind (loc_indexAt _ _ _) ?_
    | refine Loc.bind (loc_sliceBound _ _ _) ?_
    | refine Loc.bind (loc_sliceBounds _ _ _ _ _ _) ?_
    | refine Loc.bind (loc_slice _ _ _ _ _) ?_
    | refine Loc.bind (Q' := fun _ => True) ?_ ?_
    | (intro _ _; skip)
    | (extract_lets -underBinder +onlyGivenNames j; refine jpcut (j := j) ?_ ?_; intro u; subst j; dsimp -zeta only; rotate_left; intro hj; clear_value j)
    | (extract_lets -underBinder +onlyGivenNames j; refine jpcut0 (j := j) ?_ ?_; subst j; rotate_left; intro hj; clear_value j)
    | (extract_lets -underBinder +onlyGivenNames j; clear_value j)
    | split
    | (dsimp only; skip)))
theorem loc_box (e : TypeId) (v : Value) : Loc P B (fun _ => True) (Instr.box e v) := by
  unfold Instr.box
  (repeat' (first
    | assumption
    | exact Loc.pure trivial
    | exact Loc.halt trivial
    | exact loc_stuck _
    | exact loc_unsupported _
    | exact loc_goPanic _
    | exact Loc.load _
    | exact Loc.store _ _
    | exact Loc.freeze _ _
    | exact Loc.frozen _
    | exact Loc.choose _
    | exact Loc.mono (Loc.shape _) (fun _ _ => trivial)
    | exact Loc.mono (Loc.newObj _) (fun _ _ => trivial)
    | exact Loc.mono Loc.program (fun _ _ => trivial)
    | exact loc_typeInfo _
    | exact loc_underlying _
    | exact loc_zeroValue _
    | exact loc_sizeOf _
    | exact loc_isAgg _
    | exact loc_loadCells _ _
    | exact loc_storeCells _ _ _
    | exact loc_loadVar _ _
    | exact loc_storeVar _ _ _
    | exact loc_newRow _ _
    | exact loc_newVar _ _
    | exact loc_elemOf _
    | exact loc_part _ _ _
    | exact loc_runtimePanic _
    | exact loc_boundsPanic _ _ _ _
    | exact loc_asIntOf _
    | exact loc_asInt _
    | exact loc_asBool _
    | exact loc_asString _
    | exact loc_asAgg _
    | exact loc_asAddr _
    | exact loc_askRoom _
    | exact loc_markStringish _
    | exact loc_noView' _
    | exact loc_sameAddr _ _
    | exact loc_samePointer _ _
    | exact loc_byteOf _
    | exact loc_partAt _ _ _
    | exact loc_fieldPlace _ _
    | exact loc_variablesAt _ _ _
    | exact loc_loadBytes _ _ _
    | exact loc_sureAddr _
    | exact loc_alloc _ _ _
    | exact loc_loadAt _ _
    | exact loc_storeAt _ _ _
    | exact loc_fieldAt _ _ _
    | exact loc_indexAt _ _ _
    | exact loc_sliceBound _ _ _
    | exact loc_sliceBounds _ _ _ _ _ _
    | exact loc_slice _ _ _ _ _
    | exact loc_sliceAt _ _ _ _ _
    | apply_assumption -exfalso -symm
    | refine Loc.bind (Loc.load _) ?_
    | refine Loc.bind (Loc.store _ _) ?_
    | refine Loc.bind Loc.program ?_
    | refine Loc.bind (Loc.shape _) ?_
    | refine Loc.bind (Loc.newObj _) ?_
    | refine Loc.bind (Loc.choose _) ?_
    | refine Loc.bind (loc_typeInfo _) ?_
    | refine Loc.bind (loc_underlying _) ?_
    | refine Loc.bind (loc_zeroValue _) ?_
    | refine Loc.bind (loc_sizeOf _) ?_
    | refine Loc.bind (loc_isAgg _) ?_
    | refine Loc.bind (loc_loadCells _ _) ?_
    | refine Loc.bind (loc_storeCells _ _ _) ?_
    | refine Loc.bind (loc_loadVar _ _) ?_
    | refine Loc.bind (loc_storeVar _ _ _) ?_
    | refine Loc.bind (loc_newRow _ _) ?_
    | refine Loc.bind (loc_newVar _ _) ?_
    | refine Loc.bind (loc_elemOf _) ?_
    | refine Loc.bind (loc_part _ _ _) ?_
    | refine Loc.bind (loc_runtimePanic _) ?_
    | refine Loc.bind (loc_boundsPanic _ _ _ _) ?_
    | refine Loc.bind (loc_asIntOf _) ?_
    | refine Loc.bind (loc_asInt _) ?_
    | refine Loc.bind (loc_asBool _) ?_
    | refine Loc.bind (loc_asString _) ?_
    | refine Loc.bind (loc_asAgg _) ?_
    | refine Loc.bind (loc_asAddr _) ?_
    | refine Loc.bind (loc_askRoom _) ?_
    | refine Loc.bind (loc_markStringish _) ?_
    | refine Loc.bind (loc_noView' _) ?_
    | refine Loc.bind (loc_sameAddr _ _) ?_
    | refine Loc.bind (loc_samePointer _ _) ?_
    | refine Loc.bind (loc_byteOf _) ?_
    | refine Loc.bind (loc_partAt _ _ _) ?_
    | refine Loc.bind (loc_fieldPlace _ _) ?_
    | refine Loc.bind (loc_variablesAt _ _ _) ?_
    | refine Loc.bind (loc_loadBytes _ _ _) ?_
    | refine Loc.bind (loc_sureAddr _) ?_
    | refine Loc.bind (loc_alloc _ _ _) ?_
    | refine Loc.bind (loc_loadAt _ _) ?_
    | refine Loc.bind (loc_storeAt _ _ _) ?_
    | refine Loc.bind (loc_fieldAt _ _ _) ?_
    | refine Loc.bind (loc_indexAt _ _ _) ?_
    | refine Loc.bind (loc_sliceBound _ _ _) ?_
    | refine Loc.bind (loc_sliceBounds _ _ _ _ _ _) ?_
    | refine Loc.bind (loc_slice _ _ _ _ _) ?_
    | refine Loc.bind (loc_sliceAt _ _ _ _ _) ?_
    | refine Loc.bind (Q' := fun _ => True) ?_ ?_
    | (intro _ _; skip)
    | (extract_lets -underBinder +onlyGivenNames j; refine jpcut (j := j) ?_ ?_; intro u; subst j; dsimp -zeta only; rotate_left; intro hj; clear_value j)
    | (extract_lets -underBinder +onlyGivenNames j; refine jpcut0 (j := j) ?_ ?_; subst j; rotate_left; intro hj; clear_value j)
    | (extract_lets -underBinder +onlyGivenNames j; clear_value j)
    | split
    | (dsimp only; skip)))
theorem loc_build (t : TypeId) (ps : Array (Nat × Value)) : Loc P B (fun _ => True) (Instr.build t ps) := by
  unfold Instr.build
  refine Loc.bind (loc_zeroValue _) fun z _ => ?_
  dsimp only
  refine Loc.bind (loc_underlying _) fun z _ => ?_
  split
  · refine Loc.bind (loc_mapM (fun f => ?_) _) fun z _ => ?_
    · (repeat' (first
    | assumption
    | exact Loc.pure trivial
    | exact Loc.halt trivial
    | exact loc_stuck _
    | exact loc_unsupported _
    | exact loc_goPanic _
    | exact Loc.load _
    | exact Loc.store _ _
    | exact Loc.freeze _ _
    | exact Loc.frozen _
    | exact Loc.choose _
    | exact Loc.mono (Loc.shape _) (fun _ _ => trivial)
    | exact Loc.mono (Loc.newObj _) (fun _ _ => trivial)
    | exact Loc.mono Loc.program (fun _ _ => trivial)
    | exact loc_typeInfo _
    | exact loc_underlying _
    | exact loc_zeroValue _
    | exact loc_sizeOf _
    | exact loc_isAgg _
    | exact loc_loadCells _ _
    | exact loc_storeCells _ _ _
    | exact loc_loadVar _ _
    | exact loc_storeVar _ _ _
    | exact loc_newRow _ _
    | exact loc_newVar _ _
    | exact loc_elemOf _
    | exact loc_part _ _ _
    | exact loc_runtimePanic _
    | exact loc_boundsPanic _ _ _ _
    | exact loc_asIntOf _
    | exact loc_asInt _
    | exact loc_asBool _
    | exact loc_asString _
    | exact loc_asAgg _
    | exact loc_asAddr _
    | exact loc_askRoom _
    | exact loc_markStringish _
    | exact loc_noView' _
    | exact loc_sameAddr _ _
    | exact loc_samePointer _ _
    | exact loc_byteOf _
    | exact loc_partAt _ _ _
    | exact loc_fieldPlace _ _
    | exact loc_variablesAt _ _ _
    | exact loc_loadBytes _ _ _
    | exact loc_sureAddr _
    | exact loc_alloc _ _ _
    | exact loc_loadAt _ _
    | exact loc_storeAt _ _ _
    | exact loc_fieldAt _ _ _
    | exact loc_indexAt _ _ _
    | exact loc_sliceBound _ _ _
    | exact loc_sliceBounds _ _ _ _ _ _
    | exact loc_slice _ _ _ _ _
    | exact loc_sliceAt _ _ _ _ _
    | exact loc_box _ _
    | apply_assumption -exfalso -symm
    | refine Loc.bind (Loc.load _) ?_
    | refine Loc.bind (Loc.store _ _) ?_
    | refine Loc.bind Loc.program ?_
    | refine Loc.bind (Loc.shape _) ?_
    | refine Loc.bind (Loc.newObj _) ?_
    | refine Loc.bind (Loc.choose _) ?_
    | refine Loc.bind (loc_typeInfo _) ?_
    | refine Loc.bind (loc_underlying _) ?_
    | refine Loc.bind (loc_zeroValue _) ?_
    | refine Loc.bind (loc_sizeOf _) ?_
    | refine Loc.bind (loc_isAgg _) ?_
    | refine Loc.bind (loc_loadCells _ _) ?_
    | refine Loc.bind (loc_storeCells _ _ _) ?_
    | refine Loc.bind (loc_loadVar _ _) ?_
    | refine Loc.bind (loc_storeVar _ _ _) ?_
    | refine Loc.bind (loc_newRow _ _) ?_
    | refine Loc.bind (loc_newVar _ _) ?_
    | refine Loc.bind (loc_elemOf _) ?_
    | refine Loc.bind (loc_part _ _ _) ?_
    | refine Loc.bind (loc_runtimePanic _) ?_
    | refine Loc.bind (loc_boundsPanic _ _ _ _) ?_
    | refine Loc.bind (loc_asIntOf _) ?_
    | refine Loc.bind (loc_asInt _) ?_
    | refine Loc.bind (loc_asBool _) ?_
    | refine Loc.bind (loc_asString _) ?_
    | refine Loc.bind (loc_asAgg _) ?_
    | refine Loc.bind (loc_asAddr _) ?_
    | refine Loc.bind (loc_askRoom _) ?_
    | refine Loc.bind (loc_markStringish _) ?_
    | refine Loc.bind (loc_noView' _) ?_
    | refine Loc.bind (loc_sameAddr _ _) ?_
    | refine Loc.bind (loc_samePointer _ _) ?_
    | refine Loc.bind (loc_byteOf _) ?_
    | refine Loc.bind (loc_partAt _ _ _) ?_
    | refine Loc.bind (loc_fieldPlace _ _) ?_
    | refine Loc.bind (loc_variablesAt _ _ _) ?_
    | refine Loc.bind (loc_loadBytes _ _ _) ?_
    | refine Loc.bind (loc_sureAddr _) ?_
    | refine Loc.bind (loc_alloc _ _ _) ?_
    | refine Loc.bind (loc_loadAt _ _) ?_
    | refine Loc.bind (loc_storeAt _ _ _) ?_
    | refine Loc.bind (loc_fieldAt _ _ _) ?_
    | refine Loc.bind (loc_indexAt _ _ _) ?_
    | refine Loc.bind (loc_sliceBound _ _ _) ?_
    | refine Loc.bind (loc_sliceBounds _ _ _ _ _ _) ?_
    | refine Loc.bind (loc_slice _ _ _ _ _) ?_
    | refine Loc.bind (loc_sliceAt _ _ _ _ _) ?_
    | refine Loc.bind (loc_box _ _) ?_
    | refine Loc.bind (Q' := fun _ => True) ?_ ?_
    | (intro _ _; skip)
    | (extract_lets -underBinder +onlyGivenNames j; refine jpcut (j := j) ?_ ?_; intro u; subst j; dsimp -zeta only; rotate_left; intro hj; clear_value j)
    | (extract_lets -underBinder +onlyGivenNames j; refine jpcut0 (j := j) ?_ ?_; subst j; rotate_left; intro hj; clear_value j)
    | (extract_lets -underBinder +onlyGivenNames j; clear_value j)
    | split
    | (dsimp only; skip)))
    · (repeat' (first
    | assumption
    | exact Loc.pure trivial
    | exact Loc.halt trivial
    | exact loc_stuck _
    | exact loc_unsupported _
    | exact loc_goPanic _
    | exact Loc.load _
    | exact Loc.store _ _
    | exact Loc.freeze _ _
    | exact Loc.frozen _
    | exact Loc.choose _
    | exact Loc.mono (Loc.shape _) (fun _ _ => trivial)
    | exact Loc.mono (Loc.newObj _) (fun _ _ => trivial)
    | exact Loc.mono Loc.program (fun _ _ => trivial)
    | exact loc_typeInfo _
    | exact loc_underlying _
    | exact loc_zeroValue _
    | exact loc_sizeOf _
    | exact loc_isAgg _
    | exact loc_loadCells _ _
    | exact loc_storeCells _ _ _
    | exact loc_loadVar _ _
    | exact loc_storeVar _ _ _
    | exact loc_newRow _ _
    | exact loc_newVar _ _
    | exact loc_elemOf _
    | exact loc_part _ _ _
    | exact loc_runtimePanic _
    | exact loc_boundsPanic _ _ _ _
    | exact loc_asIntOf _
    | exact loc_asInt _
    | exact loc_asBool _
    | exact loc_asString _
    | exact loc_asAgg _
    | exact loc_asAddr _
    | exact loc_askRoom _
    | exact loc_markStringish _
    | exact loc_noView' _
    | exact loc_sameAddr _ _
    | exact loc_samePointer _ _
    | exact loc_byteOf _
    | exact loc_partAt _ _ _
    | exact loc_fieldPlace _ _
    | exact loc_variablesAt _ _ _
    | exact loc_loadBytes _ _ _
    | exact loc_sureAddr _
    | exact loc_alloc _ _ _
    | exact loc_loadAt _ _
    | exact loc_storeAt _ _ _
    | exact loc_fieldAt _ _ _
    | exact loc_indexAt _ _ _
    | exact loc_sliceBound _ _ _
    | exact loc_sliceBounds _ _ _ _ _ _
    | exact loc_slice _ _ _ _ _
    | exact loc_sliceAt _ _ _ _ _
    | exact loc_box _ _
    | apply_assumption -exfalso -symm
    | refine Loc.bind (Loc.load _) ?_
    | refine Loc.bind (Loc.store _ _) ?_
    | refine Loc.bind Loc.program ?_
    | refine Loc.bind (Loc.shape _) ?_
    | refine Loc.bind (Loc.newObj _) ?_
    | refine Loc.bind (Loc.choose _) ?_
    | refine Loc.bind (loc_typeInfo _) ?_
    | refine Loc.bind (loc_underlying _) ?_
    | refine Loc.bind (loc_zeroValue _) ?_
    | refine Loc.bind (loc_sizeOf _) ?_
    | refine Loc.bind (loc_isAgg _) ?_
    | refine Loc.bind (loc_loadCells _ _) ?_
    | refine Loc.bind (loc_storeCells _ _ _) ?_
    | refine Loc.bind (loc_loadVar _ _) ?_
    | refine Loc.bind (loc_storeVar _ _ _) ?_
    | refine Loc.bind (loc_newRow _ _) ?_
    | refine Loc.bind (loc_newVar _ _) ?_
    | refine Loc.bind (loc_elemOf _) ?_
    | refine Loc.bind (loc_part _ _ _) ?_
    | refine Loc.bind (loc_runtimePanic _) ?_
    | refine Loc.bind (loc_boundsPanic _ _ _ _) ?_
    | refine Loc.bind (loc_asIntOf _) ?_
    | refine Loc.bind (loc_asInt _) ?_
    | refine Loc.bind (loc_asBool _) ?_
    | refine Loc.bind (loc_asString _) ?_
    | refine Loc.bind (loc_asAgg _) ?_
    | refine Loc.bind (loc_asAddr _) ?_
    | refine Loc.bind (loc_askRoom _) ?_
    | refine Loc.bind (loc_markStringish _) ?_
    | refine Loc.bind (loc_noView' _) ?_
    | refine Loc.bind (loc_sameAddr _ _) ?_
    | refine Loc.bind (loc_samePointer _ _) ?_
    | refine Loc.bind (loc_byteOf _) ?_
    | refine Loc.bind (loc_partAt _ _ _) ?_
    | refine Loc.bind (loc_fieldPlace _ _) ?_
    | refine Loc.bind (loc_variablesAt _ _ _) ?_
    | refine Loc.bind (loc_loadBytes _ _ _) ?_
    | refine Loc.bind (loc_sureAddr _) ?_
    | refine Loc.bind (loc_alloc _ _ _) ?_
    | refine Loc.bind (loc_loadAt _ _) ?_
    | refine Loc.bind (loc_storeAt _ _ _) ?_
    | refine Loc.bind (loc_fieldAt _ _ _) ?_
    | refine Loc.bind (loc_indexAt _ _ _) ?_
    | refine Loc.bind (loc_sliceBound _ _ _) ?_
    | refine Loc.bind (loc_sliceBounds _ _ _ _ _ _) ?_
    | refine Loc.bind (loc_slice _ _ _ _ _) ?_
    | refine Loc.bind (loc_sliceAt _ _ _ _ _) ?_
    | refine Loc.bind (loc_box _ _) ?_
    | refine Loc.bind (Q' := fun _ => True) ?_ ?_
    | (intro _ _; skip)
    | (extract_lets -underBinder +onlyGivenNames j; refine jpcut (j := j) ?_ ?_; intro u; subst j; dsimp -zeta only; rotate_left; intro hj; clear_value j)
    | (extract_lets -underBinder +onlyGivenNames j; refine jpcut0 (j := j) ?_ ?_; subst j; rotate_left; intro hj; clear_value j)
    | (extract_lets -underBinder +onlyGivenNames j; clear_value j)
    | split
    | (dsimp only; skip)))
  · (repeat' (first
    | assumption
    | exact Loc.pure trivial
    | exact Loc.halt trivial
    | exact loc_stuck _
    | exact loc_unsupported _
    | exact loc_goPanic _
    | exact Loc.load _
    | exact Loc.store _ _
    | exact Loc.freeze _ _
    | exact Loc.frozen _
    | exact Loc.choose _
    | exact Loc.mono (Loc.shape _) (fun _ _ => trivial)
    | exact Loc.mono (Loc.newObj _) (fun _ _ => trivial)
    | exact Loc.mono Loc.program (fun _ _ => trivial)
    | exact loc_typeInfo _
    | exact loc_underlying _
    | exact loc_zeroValue _
    | exact loc_sizeOf _
    | exact loc_isAgg _
    | exact loc_loadCells _ _
    | exact loc_storeCells _ _ _
    | exact loc_loadVar _ _
    | exact loc_storeVar _ _ _
    | exact loc_newRow _ _
    | exact loc_newVar _ _
    | exact loc_elemOf _
    | exact loc_part _ _ _
    | exact loc_runtimePanic _
    | exact loc_boundsPanic _ _ _ _
    | exact loc_asIntOf _
    | exact loc_asInt _
    | exact loc_asBool _
    | exact loc_asString _
    | exact loc_asAgg _
    | exact loc_asAddr _
    | exact loc_askRoom _
    | exact loc_markStringish _
    | exact loc_noView' _
    | exact loc_sameAddr _ _
    | exact loc_samePointer _ _
    | exact loc_byteOf _
    | exact loc_partAt _ _ _
    | exact loc_fieldPlace _ _
    | exact loc_variablesAt _ _ _
    | exact loc_loadBytes _ _ _
    | exact loc_sureAddr _
    | exact loc_alloc _ _ _
    | exact loc_loadAt _ _
    | exact loc_storeAt _ _ _
    | exact loc_fieldAt _ _ _
    | exact loc_indexAt _ _ _
    | exact loc_sliceBound _ _ _
    | exact loc_sliceBounds _ _ _ _ _ _
    | exact loc_slice _ _ _ _ _
    | exact loc_sliceAt _ _ _ _ _
    | exact loc_box _ _
    | apply_assumption -exfalso -symm
    | refine Loc.bind (Loc.load _) ?_
    | refine Loc.bind (Loc.store _ _) ?_
    | refine Loc.bind Loc.program ?_
    | refine Loc.bind (Loc.shape _) ?_
    | refine Loc.bind (Loc.newObj _) ?_
    | refine Loc.bind (Loc.choose _) ?_
    | refine Loc.bind (loc_typeInfo _) ?_
    | refine Loc.bind (loc_underlying _) ?_
    | refine Loc.bind (loc_zeroValue _) ?_
    | refine Loc.bind (loc_sizeOf _) ?_
    | refine Loc.bind (loc_isAgg _) ?_
    | refine Loc.bind (loc_loadCells _ _) ?_
    | refine Loc.bind (loc_storeCells _ _ _) ?_
    | refine Loc.bind (loc_loadVar _ _) ?_
    | refine Loc.bind (loc_storeVar _ _ _) ?_
    | refine Loc.bind (loc_newRow _ _) ?_
    | refine Loc.bind (loc_newVar _ _) ?_
    | refine Loc.bind (loc_elemOf _) ?_
    | refine Loc.bind (loc_part _ _ _) ?_
    | refine Loc.bind (loc_runtimePanic _) ?_
    | refine Loc.bind (loc_boundsPanic _ _ _ _) ?_
    | refine Loc.bind (loc_asIntOf _) ?_
    | refine Loc.bind (loc_asInt _) ?_
    | refine Loc.bind (loc_asBool _) ?_
    | refine Loc.bind (loc_asString _) ?_
    | refine Loc.bind (loc_asAgg _) ?_
    | refine Loc.bind (loc_asAddr _) ?_
    | refine Loc.bind (loc_askRoom _) ?_
    | refine Loc.bind (loc_markStringish _) ?_
    | refine Loc.bind (loc_noView' _) ?_
    | refine Loc.bind (loc_sameAddr _ _) ?_
    | refine Loc.bind (loc_samePointer _ _) ?_
    | refine Loc.bind (loc_byteOf _) ?_
    | refine Loc.bind (loc_partAt _ _ _) ?_
    | refine Loc.bind (loc_fieldPlace _ _) ?_
    | refine Loc.bind (loc_variablesAt _ _ _) ?_
    | refine Loc.bind (loc_loadBytes _ _ _) ?_
    | refine Loc.bind (loc_sureAddr _) ?_
    | refine Loc.bind (loc_alloc _ _ _) ?_
    | refine Loc.bind (loc_loadAt _ _) ?_
    | refine Loc.bind (loc_storeAt _ _ _) ?_
    | refine Loc.bind (loc_fieldAt _ _ _) ?_
    | refine Loc.bind (loc_indexAt _ _ _) ?_
    | refine Loc.bind (loc_sliceBound _ _ _) ?_
    | refine Loc.bind (loc_sliceBounds _ _ _ _ _ _) ?_
    | refine Loc.bind (loc_slice _ _ _ _ _) ?_
    | refine Loc.bind (loc_sliceAt _ _ _ _ _) ?_
    | refine Loc.bind (loc_box _ _) ?_
    | refine Loc.bind (Q' := fun _ => True) ?_ ?_
    | (intro _ _; skip)
    | (extract_lets -underBinder +onlyGivenNames j; refine jpcut (j := j) ?_ ?_; intro u; subst j; dsimp -zeta only; rotate_left; intro hj; clear_value j)
    | (extract_lets -underBinder +onlyGivenNames j; refine jpcut0 (j := j) ?_ ?_; subst j; rotate_left; intro hj; clear_value j)
    | (extract_lets -underBinder +onlyGivenNames j; clear_value j)
    | split
    | (dsimp only; skip)))
  · exact loc_stuck _
theorem loc_buildSlice (t : TypeId) (n : Nat) (ps : Array (Nat × Value)) : Loc P B (fun _ => True) (Instr.buildSlice t n ps) := by
  unfold Instr.buildSlice
  (repeat' (first
    | assumption
    | exact Loc.pure trivial
    | exact Loc.halt trivial
    | exact loc_stuck _
    | exact loc_unsupported _
    | exact loc_goPanic _
    | exact Loc.load _
    | exact Loc.store _ _
    | exact Loc.freeze _ _
    | exact Loc.frozen _
    | exact Loc.choose _
    | exact Loc.mono (Loc.shape _) (fun _ _ => trivial)
    | exact Loc.mono (Loc.newObj _) (fun _ _ => trivial)
    | exact Loc.mono Loc.program (fun _ _ => trivial)
    | exact loc_typeInfo _
    | exact loc_underlying _
    | exact loc_zeroValue _
    | exact loc_sizeOf _
    | exact loc_isAgg _
    | exact loc_loadCells _ _
    | exact loc_storeCells _ _ _
    | exact loc_loadVar _ _
    | exact loc_storeVar _ _ _
    | exact loc_newRow _ _
    | exact loc_newVar _ _
    | exact loc_elemOf _
    | exact loc_part _ _ _
    | exact loc_runtimePanic _
    | exact loc_boundsPanic _ _ _ _
    | exact loc_asIntOf _
    | exact loc_asInt _
    | exact loc_asBool _
    | exact loc_asString _
    | exact loc_asAgg _
    | exact loc_asAddr _
    | exact loc_askRoom _
    | exact loc_markStringish _
    | exact loc_noView' _
    | exact loc_sameAddr _ _
    | exact loc_samePointer _ _
    | exact loc_byteOf _
    | exact loc_partAt _ _ _
    | exact loc_fieldPlace _ _
    | exact loc_variablesAt _ _ _
    | exact loc_loadBytes _ _ _
    | exact loc_sureAddr _
    | exact loc_alloc _ _ _
    | exact loc_loadAt _ _
    | exact loc_storeAt _ _ _
    | exact loc_fieldAt _ _ _
    | exact loc_indexAt _ _ _
    | exact loc_sliceBound _ _ _
    | exact loc_sliceBounds _ _ _ _ _ _
    | exact loc_slice _ _ _ _ _
    | exact loc_sliceAt _ _ _ _ _
    | exact loc_box _ _
    | exact loc_build _ _
    | apply_assumption -exfalso -symm
    | refine Loc.bind (Loc.load _) ?_
    | refine Loc.bind (Loc.store _ _) ?_
    | refine Loc.bind Loc.program ?_
    | refine Loc.bind (Loc.shape _) ?_
    | refine Loc.bind (Loc.newObj _) ?_
    | refine Loc.bind (Loc.choose _) ?_
    | refine Loc.bind (loc_typeInfo _) ?_
    | refine Loc.bind (loc_underlying _) ?_
    | refine Loc.bind (loc_zeroValue _) ?_
    | refine Loc.bind (loc_sizeOf _) ?_
    | refine Loc.bind (loc_isAgg _) ?_
    | refine Loc.bind (loc_loadCells _ _) ?_
    | refine Loc.bind (loc_storeCells _ _ _) ?_
    | refine Loc.bind (loc_loadVar _ _) ?_
    | refine Loc.bind (loc_storeVar _ _ _) ?_
    | refine Loc.bind (loc_newRow _ _) ?_
    | refine Loc.bind (loc_newVar _ _) ?_
    | refine Loc.bind (loc_elemOf _) ?_
    | refine Loc.bind (loc_part _ _ _) ?_
    | refine Loc.bind (loc_runtimePanic _) ?_
    | refine Loc.bind (loc_boundsPanic _ _ _ _) ?_
    | refine Loc.bind (loc_asIntOf _) ?_
    | refine Loc.bind (loc_asInt _) ?_
    | refine Loc.bind (loc_asBool _) ?_
    | refine Loc.bind (loc_asString _) ?_
    | refine Loc.bind (loc_asAgg _) ?_
    | refine Loc.bind (loc_asAddr _) ?_
    | refine Loc.bind (loc_askRoom _) ?_
    | refine Loc.bind (loc_markStringish _) ?_
    | refine Loc.bind (loc_noView' _) ?_
    | refine Loc.bind (loc_sameAddr _ _) ?_
    | refine Loc.bind (loc_samePointer _ _) ?_
    | refine Loc.bind (loc_byteOf _) ?_
    | refine Loc.bind (loc_partAt _ _ _) ?_
    | refine Loc.bind (loc_fieldPlace _ _) ?_
    | refine Loc.bind (loc_variablesAt _ _ _) ?_
    | refine Loc.bind (loc_loadBytes _ _ _) ?_
    | refine Loc.bind (loc_sureAddr _) ?_
    | refine Loc.bind (loc_alloc _ _ _) ?_
    | refine Loc.bind (loc_loadAt _ _) ?_
    | refine Loc.bind (loc_storeAt _ _ _) ?_
    | refine Loc.bind (loc_fieldAt _ _ _) ?_
    | refine Loc.bind (loc_indexAt _ _ _) ?_
    | refine Loc.bind (loc_sliceBound _ _ _) ?_
    | refine Loc.bind (loc_sliceBounds _ _ _ _ _ _) ?_
    | refine Loc.bind (loc_slice _ _ _ _ _) ?_
    | refine Loc.bind (loc_sliceAt _ _ _ _ _) ?_
    | refine Loc.bind (loc_box _ _) ?_
    | refine Loc.bind (loc_build _ _) ?_
    | refine Loc.bind (Q' := fun _ => True) ?_ ?_
    | (intro _ _; skip)
    | (extract_lets -underBinder +onlyGivenNames j; refine jpcut (j := j) ?_ ?_; intro u; subst j; dsimp -zeta only; rotate_left; intro hj; clear_value j)
    | (extract_lets -underBinder +onlyGivenNames j; refine jpcut0 (j := j) ?_ ?_; subst j; rotate_left; intro hj; clear_value j)
    | (extract_lets -underBinder +onlyGivenNames j; clear_value j)
    | split
    | (dsimp only; skip)))
theorem loc_makeInterface (t : TypeId) (v : Value) : Loc P B (fun _ => True) (Instr.makeInterface t v) := by
  unfold Instr.makeInterface
  (repeat' (first
    | assumption
    | exact Loc.pure trivial
    | exact Loc.halt trivial
    | exact loc_stuck _
    | exact loc_unsupported _
    | exact loc_goPanic _
    | exact Loc.load _
    | exact Loc.store _ _
    | exact Loc.freeze _ _
    | exact Loc.frozen _
    | exact Loc.choose _
    | exact Loc.mono (Loc.shape _) (fun _ _ => trivial)
    | exact Loc.mono (Loc.newObj _) (fun _ _ => trivial)
    | exact Loc.mono Loc.program (fun _ _ => trivial)
    | exact loc_typeInfo _
    | exact loc_underlying _
    | exact loc_zeroValue _
    | exact loc_sizeOf _
    | exact loc_isAgg _
    | exact loc_loadCells _ _
    | exact loc_storeCells _ _ _
    | exact loc_loadVar _ _
    | exact loc_storeVar _ _ _
    | exact loc_newRow _ _
    | exact loc_newVar _ _
    | exact loc_elemOf _
    | exact loc_part _ _ _
    | exact loc_runtimePanic _
    | exact loc_boundsPanic _ _ _ _
    | exact loc_asIntOf _
    | exact loc_asInt _
    | exact loc_asBool _
    | exact loc_asString _
    | exact loc_asAgg _
    | exact loc_asAddr _
    | exact loc_askRoom _
    | exact loc_markStringish _
    | exact loc_noView' _
    | exact loc_sameAddr _ _
    | exact loc_samePointer _ _
    | exact loc_byteOf _
    | exact loc_partAt _ _ _
    | exact loc_fieldPlace _ _
    | exact loc_variablesAt _ _ _
    | exact loc_loadBytes _ _ _
    | exact loc_sureAddr _
    | exact loc_alloc _ _ _
    | exact loc_loadAt _ _
    | exact loc_storeAt _ _ _
    | exact loc_fieldAt _ _ _
    | exact loc_indexAt _ _ _
    | exact loc_sliceBound _ _ _
    | exact loc_sliceBounds _ _ _ _ _ _
    | exact loc_slice _ _ _ _ _
    | exact loc_sliceAt _ _ _ _ _
    | exact loc_box _ _
    | exact loc_build _ _
    | exact loc_buildSlice _ _ _
    | apply_assumption -exfalso -symm
    | refine Loc.bind (Loc.load _) ?_
    | refine Loc.bind (Loc.store _ _) ?_
    | refine Loc.bind Loc.program ?_
    | refine Loc.bind (Loc.shape _) ?_
    | refine Loc.bind (Loc.newObj _) ?_
    | refine Loc.bind (Loc.choose _) ?_
    | refine Loc.bind (loc_typeInfo _) ?_
    | refine Loc.bind (loc_underlying _) ?_
    | refine Loc.bind (loc_zeroValue _) ?_
    | refine Loc.bind (loc_sizeOf _) ?_
    | refine Loc.bind (loc_isAgg _) ?_
    | refine Loc.bind (loc_loadCells _ _) ?_
    | refine Loc.bind (loc_storeCells _ _ _) ?_
    | refine Loc.bind (loc_loadVar _ _) ?_
    | refine Loc.bind (loc_storeVar _ _ _) ?_
    | refine Loc.bind (loc_newRow _ _) ?_
    | refine Loc.bind (loc_newVar _ _) ?_
    | refine Loc.bind (loc_elemOf _) ?_
    | refine Loc.bind (loc_part _ _ _) ?_
    | refine Loc.bind (loc_runtimePanic _) ?_
    | refine Loc.bind (loc_boundsPanic _ _ _ _) ?_
    | refine Loc.bind (loc_asIntOf _) ?_
    | refine Loc.bind (loc_asInt _) ?_
    | refine Loc.bind (loc_asBool _) ?_
    | refine Loc.bind (loc_asString _) ?_
    | refine Loc.bind (loc_asAgg _) ?_
    | refine Loc.bind (loc_asAddr _) ?_
    | refine Loc.bind (loc_askRoom _) ?_
    | refine Loc.bind (loc_markStringish _) ?_
    | refine Loc.bind (loc_noView' _) ?_
    | refine Loc.bind (loc_sameAddr _ _) ?_
    | refine Loc.bind (loc_samePointer _ _) ?_
    | refine Loc.bind (loc_byteOf _) ?_
    | refine Loc.bind (loc_partAt _ _ _) ?_
    | refine Loc.bind (loc_fieldPlace _ _) ?_
    | refine Loc.bind (loc_variablesAt _ _ _) ?_
    | refine Loc.bind (loc_loadBytes _ _ _) ?_
    | refine Loc.bind (loc_sureAddr _) ?_
    | refine Loc.bind (loc_alloc _ _ _) ?_
    | refine Loc.bind (loc_loadAt _ _) ?_
    | refine Loc.bind (loc_storeAt _ _ _) ?_
    | refine Loc.bind (loc_fieldAt _ _ _) ?_
    | refine Loc.bind (loc_indexAt _ _ _) ?_
    | refine Loc.bind (loc_sliceBound _ _ _) ?_
    | refine Loc.bind (loc_sliceBounds _ _ _ _ _ _) ?_
    | refine Loc.bind (loc_slice _ _ _ _ _) ?_
    | refine Loc.bind (loc_sliceAt _ _ _ _ _) ?_
    | refine Loc.bind (loc_box _ _) ?_
    | refine Loc.bind (loc_build _ _) ?_
    | refine Loc.bind (loc_buildSlice _ _ _) ?_
    | refine Loc.bind (Q' := fun _ => True) ?_ ?_
    | (intro _ _; skip)
    | (extract_lets -underBinder +onlyGivenNames j; refine jpcut (j := j) ?_ ?_; intro u; subst j; dsimp -zeta only; rotate_left; intro hj; clear_value j)
    | (extract_lets -underBinder +onlyGivenNames j; refine jpcut0 (j := j) ?_ ?_; subst j; rotate_left; intro hj; clear_value j)
    | (extract_lets -underBinder +onlyGivenNames j; clear_value j)
    | split
    | (dsimp only; skip)))
theorem loc_makeSlice (t : TypeId) (a b : Value) : Loc P B (fun _ => True) (Instr.makeSlice t a b) := by
  unfold Instr.makeSlice
  (repeat' (first
    | assumption
    | exact Loc.pure trivial
    | exact Loc.halt trivial
    | exact loc_stuck _
    | exact loc_unsupported _
    | exact loc_goPanic _
    | exact Loc.load _
    | exact Loc.store _ _
    | exact Loc.freeze _ _
    | exact Loc.frozen _
    | exact Loc.choose _
    | exact Loc.mono (Loc.shape _) (fun _ _ => trivial)
    | exact Loc.mono (Loc.newObj _) (fun _ _ => trivial)
    | exact Loc.mono Loc.program (fun _ _ => trivial)
    | exact loc_typeInfo _
    | exact loc_underlying _
    | exact loc_zeroValue _
    | exact loc_sizeOf _
    | exact loc_isAgg _
    | exact loc_loadCells _ _
    | exact loc_storeCells _ _ _
    | exact loc_loadVar _ _
    | exact loc_storeVar _ _ _
    | exact loc_newRow _ _
    | exact loc_newVar _ _
    | exact loc_elemOf _
    | exact loc_part _ _ _
    | exact loc_runtimePanic _
    | exact loc_boundsPanic _ _ _ _
    | exact loc_asIntOf _
    | exact loc_asInt _
    | exact loc_asBool _
    | exact loc_asString _
    | exact loc_asAgg _
    | exact loc_asAddr _
    | exact loc_askRoom _
    | exact loc_markStringish _
    | exact loc_noView' _
    | exact loc_sameAddr _ _
    | exact loc_samePointer _ _
    | exact loc_byteOf _
    | exact loc_partAt _ _ _
    | exact loc_fieldPlace _ _
    | exact loc_variablesAt _ _ _
    | exact loc_loadBytes _ _ _
    | exact loc_sureAddr _
    | exact loc_alloc _ _ _
    | exact loc_loadAt _ _
    | exact loc_storeAt _ _ _
    | exact loc_fieldAt _ _ _
    | exact loc_indexAt _ _ _
    | exact loc_sliceBound _ _ _
    | exact loc_sliceBounds _ _ _ _ _ _
    | exact loc_slice _ _ _ _ _
    | exact loc_sliceAt _ _ _ _ _
    | exact loc_box _ _
    | exact loc_build _ _
    | exact loc_buildSlice _ _ _
    | exact loc_makeInterface _ _
    | apply_assumption -exfalso -symm
    | refine Loc.bind (Loc.load _) ?_
    | refine Loc.bind (Loc.store _ _) ?_
    | refine Loc.bind Loc.program ?_
    | refine Loc.bind (Loc.shape _) ?_
    | refine Loc.bind (Loc.newObj _) ?_
    | refine Loc.bind (Loc.choose _) ?_
    | refine Loc.bind (loc_typeInfo _) ?_
    | refine Loc.bind (loc_underlying _) ?_
    | refine Loc.bind (loc_zeroValue _) ?_
    | refine Loc.bind (loc_sizeOf _) ?_
    | refine Loc.bind (loc_isAgg _) ?_
    | refine Loc.bind (loc_loadCells _ _) ?_
    | refine Loc.bind (loc_storeCells _ _ _) ?_
    | refine Loc.bind (loc_loadVar _ _) ?_
    | refine Loc.bind (loc_storeVar _ _ _) ?_
    | refine Loc.bind (loc_newRow _ _) ?_
    | refine Loc.bind (loc_newVar _ _) ?_
    | refine Loc.bind (loc_elemOf _) ?_
    | refine Loc.bind (loc_part _ _ _) ?_
    | refine Loc.bind (loc_runtimePanic _) ?_
    | refine Loc.bind (loc_boundsPanic _ _ _ _) ?_
    | refine Loc.bind (loc_asIntOf _) ?_
    | refine Loc.bind (loc_asInt _) ?_
    | refine Loc.bind (loc_asBool _) ?_
    | refine Loc.bind (loc_asString _) ?_
    | refine Loc.bind (loc_asAgg _) ?_
    | refine Loc.bind (loc_asAddr _) ?_
    | refine Loc.bind (loc_askRoom _) ?_
    | refine Loc.bind (loc_markStringish _) ?_
    | refine Loc.bind (loc_noView' _) ?_
    | refine Loc.bind (loc_sameAddr _ _) ?_
    | refine Loc.bind (loc_samePointer _ _) ?_
    | refine Loc.bind (loc_byteOf _) ?_
    | refine Loc.bind (loc_partAt _ _ _) ?_
    | refine Loc.bind (loc_fieldPlace _ _) ?_
    | refine Loc.bind (loc_variablesAt _ _ _) ?_
    | refine Loc.bind (loc_loadBytes _ _ _) ?_
    | refine Loc.bind (loc_sureAddr _) ?_
    | refine Loc.bind (loc_alloc _ _ _) ?_
    | refine Loc.bind (loc_loadAt _ _) ?_
    | refine Loc.bind (loc_storeAt _ _ _) ?_
    | refine Loc.bind (loc_fieldAt _ _ _) ?_
    | refine Loc.bind (loc_indexAt _ _ _) ?_
    | refine Loc.bind (loc_sliceBound _ _ _) ?_
    | refine Loc.bind (loc_sliceBounds _ _ _ _ _ _) ?_
    | refine Loc.bind (loc_slice _ _ _ _ _) ?_
    | refine Loc.bind (loc_sliceAt _ _ _ _ _) ?_
    | refine Loc.bind (loc_box _ _) ?_
    | refine Loc.bind (loc_build _ _) ?_
    | refine Loc.bind (loc_buildSlice _ _ _) ?_
    | refine Loc.bind (loc_makeInterface _ _) ?_
    | refine Loc.bind (Q' := fun _ => True) ?_ ?_
    | (intro _ _; skip)
    | (extract_lets -underBinder +onlyGivenNames j; refine jpcut (j := j) ?_ ?_; intro u; subst j; dsimp -zeta only; rotate_left; intro hj; clear_value j)
    | (extract_lets -underBinder +onlyGivenNames j; refine jpcut0 (j := j) ?_ ?_; subst j; rotate_left; intro hj; clear_value j)
    | (extract_lets -underBinder +onlyGivenNames j; clear_value j)
    | split
    | (dsimp only; skip)))
theorem loc_field (t : TypeId) (v : Value) (f : Nat) : Loc P B (fun _ => True) (Instr.field t v f) := by
  unfold Instr.field
  (repeat' (first
    | assumption
    | exact Loc.pure trivial
    | exact Loc.halt trivial
    | exact loc_stuck _
    | exact loc_unsupported _
    | exact loc_goPanic _
    | exact Loc.load _
    | exact Loc.store _ _
    | exact Loc.freeze _ _
    | exact Loc.frozen _
    | exact Loc.choose _
    | exact Loc.mono (Loc.shape _) (fun _ _ => trivial)
    | exact Loc.mono (Loc.newObj _) (fun _ _ => trivial)
    | exact Loc.mono Loc.program (fun _ _ => trivial)
    | exact loc_typeInfo _
    | exact loc_underlying _
    | exact loc_zeroValue _
    | exact loc_sizeOf _
    | exact loc_isAgg _
    | exact loc_loadCells _ _
    | exact loc_storeCells _ _ _
    | exact loc_loadVar _ _
    | exact loc_storeVar _ _ _
    | exact loc_newRow _ _
    | exact loc_newVar _ _
    | exact loc_elemOf _
    | exact loc_part _ _ _
    | exact loc_runtimePanic _
    | exact loc_boundsPanic _ _ _ _
    | exact loc_asIntOf _
    | exact loc_asInt _
    | exact loc_asBool _
    | exact loc_asString _
    | exact loc_asAgg _
    | exact loc_asAddr _
    | exact loc_askRoom _
    | exact loc_markStringish _
    | exact loc_noView' _
    | exact loc_sameAddr _ _
    | exact loc_samePointer _ _
    | exact loc_byteOf _
    | exact loc_partAt _ _ _
    | exact loc_fieldPlace _ _
    | exact loc_variablesAt _ _ _
    | exact loc_loadBytes _ _ _
    | exact loc_sureAddr _
    | exact loc_alloc _ _ _
    | exact loc_loadAt _ _
    | exact loc_storeAt _ _ _
    | exact loc_fieldAt _ _ _
    | exact loc_indexAt _ _ _
    | exact loc_sliceBound _ _ _
    | exact loc_sliceBounds _ _ _ _ _ _
    | exact loc_slice _ _ _ _ _
    | exact loc_sliceAt _ _ _ _ _
    | exact loc_box _ _
    | exact loc_build _ _
    | exact loc_buildSlice _ _ _
    | exact loc_makeInterface _ _
    | exact loc_makeSlice _ _ _
    | apply_assumption -exfalso -symm
    | refine Loc.bind (Loc.load _) ?_
    | refine Loc.bind (Loc.store _ _) ?_
    | refine Loc.bind Loc.program ?_
    | refine Loc.bind (Loc.shape _) ?_
    | refine Loc.bind (Loc.newObj _) ?_
    | refine Loc.bind (Loc.choose _) ?_
    | refine Loc.bind (loc_typeInfo _) ?_
    | refine Loc.bind (loc_underlying _) ?_
    | refine Loc.bind (loc_zeroValue _) ?_
    | refine Loc.bind (loc_sizeOf _) ?_
    | refine Loc.bind (loc_isAgg _) ?_
    | refine Loc.bind (loc_loadCells _ _) ?_
    | refine Loc.bind (loc_storeCells _ _ _) ?_
    | refine Loc.bind (loc_loadVar _ _) ?_
    | refine Loc.bind (loc_storeVar _ _ _) ?_
    | refine Loc.bind (loc_newRow _ _) ?_
    | refine Loc.bind (loc_newVar _ _) ?_
    | refine Loc.bind (loc_elemOf _) ?_
    | refine Loc.bind (loc_part _ _ _) ?_
    | refine Loc.bind (loc_runtimePanic _) ?_
    | refine Loc.bind (loc_boundsPanic _ _ _ _) ?_
    | refine Loc.bind (loc_asIntOf _) ?_
    | refine Loc.bind (loc_asInt _) ?_
    | refine Loc.bind (loc_asBool _) ?_
    | refine Loc.bind (loc_asString _) ?_
    | refine Loc.bind (loc_asAgg _) ?_
    | refine Loc.bind (loc_asAddr _) ?_
    | refine Loc.bind (loc_askRoom _) ?_
    | refine Loc.bind (loc_markStringish _) ?_
    | refine Loc.bind (loc_noView' _) ?_
    | refine Loc.bind (loc_sameAddr _ _) ?_
    | refine Loc.bind (loc_samePointer _ _) ?_
    | refine Loc.bind (loc_byteOf _) ?_
    | refine Loc.bind (loc_partAt _ _ _) ?_
    | refine Loc.bind (loc_fieldPlace _ _) ?_
    | refine Loc.bind (loc_variablesAt _ _ _) ?_
    | refine Loc.bind (loc_loadBytes _ _ _) ?_
    | refine Loc.bind (loc_sureAddr _) ?_
    | refine Loc.bind (loc_alloc _ _ _) ?_
    | refine Loc.bind (loc_loadAt _ _) ?_
    | refine Loc.bind (loc_storeAt _ _ _) ?_
    | refine Loc.bind (loc_fieldAt _ _ _) ?_
    | refine Loc.bind (loc_indexAt _ _ _) ?_
    | refine Loc.bind (loc_sliceBound _ _ _) ?_
    | refine Loc.bind (loc_sliceBounds _ _ _ _ _ _) ?_
    | refine Loc.bind (loc_slice _ _ _ _ _) ?_
    | refine Loc.bind (loc_sliceAt _ _ _ _ _) ?_
    | refine Loc.bind (loc_box _ _) ?_
    | refine Loc.bind (loc_build _ _) ?_
    | refine Loc.bind (loc_buildSlice _ _ _) ?_
    | refine Loc.bind (loc_makeInterface _ _) ?_
    | refine Loc.bind (loc_makeSlice _ _ _) ?_
    | refine Loc.bind (Q' := fun _ => True) ?_ ?_
    | (intro _ _; skip)
    | (extract_lets -underBinder +onlyGivenNames j; refine jpcut (j := j) ?_ ?_; intro u; subst j; dsimp -zeta only; rotate_left; intro hj; clear_value j)
    | (extract_lets -underBinder +onlyGivenNames j; refine jpcut0 (j := j) ?_ ?_; subst j; rotate_left; intro hj; clear_value j)
    | (extract_lets -underBinder +onlyGivenNames j; clear_value j)
    | split
    | (dsimp only; skip)))
theorem loc_index (t : TypeId) (v i : Value) : Loc P B (fun _ => True) (Instr.index t v i) := by
  unfold Instr.index
  (repeat' (first
    | assumption
    | exact Loc.pure trivial
    | exact Loc.halt trivial
    | exact loc_stuck _
    | exact loc_unsupported _
    | exact loc_goPanic _
    | exact Loc.load _
    | exact Loc.store _ _
    | exact Loc.freeze _ _
    | exact Loc.frozen _
    | exact Loc.choose _
    | exact Loc.mono (Loc.shape _) (fun _ _ => trivial)
    | exact Loc.mono (Loc.newObj _) (fun _ _ => trivial)
    | exact Loc.mono Loc.program (fun _ _ => trivial)
    | exact loc_typeInfo _
    | exact loc_underlying _
    | exact loc_zeroValue _
    | exact loc_sizeOf _
    | exact loc_isAgg _
    | exact loc_loadCells _ _
    | exact loc_storeCells _ _ _
    | exact loc_loadVar _ _
    | exact loc_storeVar _ _ _
    | exact loc_newRow _ _
    | exact loc_newVar _ _
    | exact loc_elemOf _
    | exact loc_part _ _ _
    | exact loc_runtimePanic _
    | exact loc_boundsPanic _ _ _ _
    | exact loc_asIntOf _
    | exact loc_asInt _
    | exact loc_asBool _
    | exact loc_asString _
    | exact loc_asAgg _
    | exact loc_asAddr _
    | exact loc_askRoom _
    | exact loc_markStringish _
    | exact loc_noView' _
    | exact loc_sameAddr _ _
    | exact loc_samePointer _ _
    | exact loc_byteOf _
    | exact loc_partAt _ _ _
    | exact loc_fieldPlace _ _
    | exact loc_variablesAt _ _ _
    | exact loc_loadBytes _ _ _
    | exact loc_sureAddr _
    | exact loc_alloc _ _ _
    | exact loc_loadAt _ _
    | exact loc_storeAt _ _ _
    | exact loc_fieldAt _ _ _
    | exact loc_indexAt _ _ _
    | exact loc_sliceBound _ _ _
    | exact loc_sliceBounds _ _ _ _ _ _
    | exact loc_slice _ _ _ _ _
    | exact loc_sliceAt _ _ _ _ _
    | exact loc_box _ _
    | exact loc_build _ _
    | exact loc_buildSlice _ _ _
    | exact loc_makeInterface _ _
    | exact loc_makeSlice _ _ _
    | exact loc_field _ _ _
    | apply_assumption -exfalso -symm
    | refine Loc.bind (Loc.load _) ?_
    | refine Loc.bind (Loc.store _ _) ?_
    | refine Loc.bind Loc.program ?_
    | refine Loc.bind (Loc.shape _) ?_
    | refine Loc.bind (Loc.newObj _) ?_
    | refine Loc.bind (Loc.choose _) ?_
    | refine Loc.bind (loc_typeInfo _) ?_
    | refine Loc.bind (loc_underlying _) ?_
    | refine Loc.bind (loc_zeroValue _) ?_
    | refine Loc.bind (loc_sizeOf _) ?_
    | refine Loc.bind (loc_isAgg _) ?_
    | refine Loc.bind (loc_loadCells _ _) ?_
    | refine Loc.bind (loc_storeCells _ _ _) ?_
    | refine Loc.bind (loc_loadVar _ _) ?_
    | refine Loc.bind (loc_storeVar _ _ _) ?_
    | refine Loc.bind (loc_newRow _ _) ?_
    | refine Loc.bind (loc_newVar _ _) ?_
    | refine Loc.bind (loc_elemOf _) ?_
    | refine Loc.bind (loc_part _ _ _) ?_
    | refine Loc.bind (loc_runtimePanic _) ?_
    | refine Loc.bind (loc_boundsPanic _ _ _ _) ?_
    | refine Loc.bind (loc_asIntOf _) ?_
    | refine Loc.bind (loc_asInt _) ?_
    | refine Loc.bind (loc_asBool _) ?_
    | refine Loc.bind (loc_asString _) ?_
    | refine Loc.bind (loc_asAgg _) ?_
    | refine Loc.bind (loc_asAddr _) ?_
    | refine Loc.bind (loc_askRoom _) ?_
    | refine Loc.bind (loc_markStringish _) ?_
    | refine Loc.bind (loc_noView' _) ?_
    | refine Loc.bind (loc_sameAddr _ _) ?_
    | refine Loc.bind (loc_samePointer _ _) ?_
    | refine Loc.bind (loc_byteOf _) ?_
    | refine Loc.bind (loc_partAt _ _ _) ?_
    | refine Loc.bind (loc_fieldPlace _ _) ?_
    | refine Loc.bind (loc_variablesAt _ _ _) ?_
    | refine Loc.bind (loc_loadBytes _ _ _) ?_
    | refine Loc.bind (loc_sureAddr _) ?_
    | refine Loc.bind (loc_alloc _ _ _) ?_
    | refine Loc.bind (loc_loadAt _ _) ?_
    | refine Loc.bind (loc_storeAt _ _ _) ?_
    | refine Loc.bind (loc_fieldAt _ _ _) ?_
    | refine Loc.bind (loc_indexAt _ _ _) ?_
    | refine Loc.bind (loc_sliceBound _ _ _) ?_
    | refine Loc.bind (loc_sliceBounds _ _ _ _ _ _) ?_
    | refine Loc.bind (loc_slice _ _ _ _ _) ?_
    | refine Loc.bind (loc_sliceAt _ _ _ _ _) ?_
    | refine Loc.bind (loc_box _ _) ?_
    | refine Loc.bind (loc_build _ _) ?_
    | refine Loc.bind (loc_buildSlice _ _ _) ?_
    | refine Loc.bind (loc_makeInterface _ _) ?_
    | refine Loc.bind (loc_makeSlice _ _ _) ?_
    | refine Loc.bind (loc_field _ _ _) ?_
    | refine Loc.bind (Q' := fun _ => True) ?_ ?_
    | (intro _ _; skip)
    | (extract_lets -underBinder +onlyGivenNames j; refine jpcut (j := j) ?_ ?_; intro u; subst j; dsimp -zeta only; rotate_left; intro hj; clear_value j)
    | (extract_lets -underBinder +onlyGivenNames j; refine jpcut0 (j := j) ?_ ?_; subst j; rotate_left; intro hj; clear_value j)
    | (extract_lets -underBinder +onlyGivenNames j; clear_value j)
    | split
    | (dsimp only; skip)))
theorem loc_extract (v : Value) (i : Nat) : Loc P B (fun _ => True) (Instr.extract v i) := by
  unfold Instr.extract
  (repeat' (first
    | assumption
    | exact Loc.pure trivial
    | exact Loc.halt trivial
    | exact loc_stuck _
    | exact loc_unsupported _
    | exact loc_goPanic _
    | exact Loc.load _
    | exact Loc.store _ _
    | exact Loc.freeze _ _
    | exact Loc.frozen _
    | exact Loc.choose _
    | exact Loc.mono (Loc.shape _) (fun _ _ => trivial)
    | exact Loc.mono (Loc.newObj _) (fun _ _ => trivial)
    | exact Loc.mono Loc.program (fun _ _ => trivial)
    | exact loc_typeInfo _
    | exact loc_underlying _
    | exact loc_zeroValue _
    | exact loc_sizeOf _
    | exact loc_isAgg _
    | exact loc_loadCells _ _
    | exact loc_storeCells _ _ _
    | exact loc_loadVar _ _
    | exact loc_storeVar _ _ _
    | exact loc_newRow _ _
    | exact loc_newVar _ _
    | exact loc_elemOf _
    | exact loc_part _ _ _
    | exact loc_runtimePanic _
    | exact loc_boundsPanic _ _ _ _
    | exact loc_asIntOf _
    | exact loc_asInt _
    | exact loc_asBool _
    | exact loc_asString _
    | exact loc_asAgg _
    | exact loc_asAddr _
    | exact loc_askRoom _
    | exact loc_markStringish _
    | exact loc_noView' _
    | exact loc_sameAddr _ _
    | exact loc_samePointer _ _
    | exact loc_byteOf _
    | exact loc_partAt _ _ _
    | exact loc_fieldPlace _ _
    | exact loc_variablesAt _ _ _
    | exact loc_loadBytes _ _ _
    | exact loc_sureAddr _
    | exact loc_alloc _ _ _
    | exact loc_loadAt _ _
    | exact loc_storeAt _ _ _
    | exact loc_fieldAt _ _ _
    | exact loc_indexAt _ _ _
    | exact loc_sliceBound _ _ _
    | exact loc_sliceBounds _ _ _ _ _ _
    | exact loc_slice _ _ _ _ _
    | exact loc_sliceAt _ _ _ _ _
    | exact loc_box _ _
    | exact loc_build _ _
    | exact loc_buildSlice _ _ _
    | exact loc_makeInterface _ _
    | exact loc_makeSlice _ _ _
    | exact loc_field _ _ _
    | exact loc_index _ _ _
    | apply_assumption -exfalso -symm
    | refine Loc.bind (Loc.load _) ?_
    | refine Loc.bind (Loc.store _ _) ?_
    | refine Loc.bind Loc.program ?_
    | refine Loc.bind (Loc.shape _) ?_
    | refine Loc.bind (Loc.newObj _) ?_
    | refine Loc.bind (Loc.choose _) ?_
    | refine Loc.bind (loc_typeInfo _) ?_
    | refine Loc.bind (loc_underlying _) ?_
    | refine Loc.bind (loc_zeroValue _) ?_
    | refine Loc.bind (loc_sizeOf _) ?_
    | refine Loc.bind (loc_isAgg _) ?_
    | refine Loc.bind (loc_loadCells _ _) ?_
    | refine Loc.bind (loc_storeCells _ _ _) ?_
    | refine Loc.bind (loc_loadVar _ _) ?_
    | refine Loc.bind (loc_storeVar _ _ _) ?_
    | refine Loc.bind (loc_newRow _ _) ?_
    | refine Loc.bind (loc_newVar _ _) ?_
    | refine Loc.bind (loc_elemOf _) ?_
    | refine Loc.bind (loc_part _ _ _) ?_
    | refine Loc.bind (loc_runtimePanic _) ?_
    | refine Loc.bind (loc_boundsPanic _ _ _ _) ?_
    | refine Loc.bind (loc_asIntOf _) ?_
    | refine Loc.bind (loc_asInt _) ?_
    | refine Loc.bind (loc_asBool _) ?_
    | refine Loc.bind (loc_asString _) ?_
    | refine Loc.bind (loc_asAgg _) ?_
    | refine Loc.bind (loc_asAddr _) ?_
    | refine Loc.bind (loc_askRoom _) ?_
    | refine Loc.bind (loc_markStringish _) ?_
    | refine Loc.bind (loc_noView' _) ?_
    | refine Loc.bind (loc_sameAddr _ _) ?_
    | refine Loc.bind (loc_samePointer _ _) ?_
    | refine Loc.bind (loc_byteOf _) ?_
    | refine Loc.bind (loc_partAt _ _ _) ?_
    | refine Loc.bind (loc_fieldPlace _ _) ?_
    | refine Loc.bind (loc_variablesAt _ _ _) ?_
    | refine Loc.bind (loc_loadBytes _ _ _) ?_
    | refine Loc.bind (loc_sureAddr _) ?_
    | refine Loc.bind (loc_alloc _ _ _) ?_
    | refine Loc.bind (loc_loadAt _ _) ?_
    | refine Loc.bind (loc_storeAt _ _ _) ?_
    | refine Loc.bind (loc_fieldAt _ _ _) ?_
    | refine Loc.bind (loc_indexAt _ _ _) ?_
    | refine Loc.bind (loc_sliceBound _ _ _) ?_
    | refine Loc.bind (loc_sliceBounds _ _ _ _ _ _) ?_
    | refine Loc.bind (loc_slice _ _ _ _ _) ?_
    | refine Loc.bind (loc_sliceAt _ _ _ _ _) ?_
    | refine Loc.bind (loc_box _ _) ?_
    | refine Loc.bind (loc_build _ _) ?_
    | refine Loc.bind (loc_buildSlice _ _ _) ?_
    | refine Loc.bind (loc_makeInterface _ _) ?_
    | refine Loc.bind (loc_makeSlice _ _ _) ?_
    | refine Loc.bind (loc_field _ _ _) ?_
    | refine Loc.bind (loc_index _ _ _) ?_
    | refine Loc.bind (Q' := fun _ => True) ?_ ?_
    | (intro _ _; skip)
    | (extract_lets -underBinder +onlyGivenNames j; refine jpcut (j := j) ?_ ?_; intro u; subst j; dsimp -zeta only; rotate_left; intro hj; clear_value j)
    | (extract_lets -underBinder +onlyGivenNames j; refine jpcut0 (j := j) ?_ ?_; subst j; rotate_left; intro hj; clear_value j)
    | (extract_lets -underBinder +onlyGivenNames j; clear_value j)
    | split
    | (dsimp only; skip)))
theorem loc_range (t : TypeId) (v : Value) : Loc P B (fun _ => True) (Instr.range t v) := by
  unfold Instr.range
  refine Loc.bind (loc_underlying _) fun d _ => ?_
  have fin : ∀ it : Obj, Loc P B (fun _ => True) (do pure (Value.pointer (some ⟨← newObj it, 0, none⟩))) := fun it => Loc.bind (Loc.newObj it) fun _ _ => Loc.pure trivial
  dsimp only
  split
  · exact Loc.bind (Loc.pure (Q := fun _ => True) trivial) fun _ _ => fin _
  · exact Loc.bind (Loc.pure (Q := fun _ => True) trivial) fun _ _ => fin _
  · rename_i m
    refine Loc.getObj (fun _ => ?_) fun o _ => ?_
    · exact Dead.bind (dead_stuck _)
    · split
      · exact Loc.bind (Loc.pure (Q := fun _ => True) trivial) fun _ _ => fin _
      · exact Loc.bind (Q' := fun _ => True) (loc_stuck _) fun _ _ => fin _
  · exact Loc.bind (Q' := fun _ => True) (loc_stuck _) fun _ _ => fin _
theorem loc_next (v : Value) (b : Bool) (t : TypeId) : Loc P B (fun _ => True) (Instr.next v b t) := by
  unfold Instr.next
  dsimp only
  split
  · rename_i r _
    refine Loc.getObj (fun _ => ?_) fun o hr => ?_
    · cases b <;> exact dead_stuck _
    · split
      · split
        · exact Loc.bind (Loc.setObj hr _) fun _ _ => Loc.pure trivial
        · exact Loc.pure trivial
      · exact Loc.pure trivial
      · refine Loc.getObj (fun _ => dead_stuck _) fun o' _ => ?_
        split
        · split
          · exact Loc.bind (Q' := fun _ => True) (loc_unsupported _) fun _ _ => by
              refine Loc.bind (Loc.choose _) fun k _ => ?_
              split
              · exact Loc.bind (Loc.setObj hr _) fun _ _ => Loc.pure trivial
              · exact Loc.pure trivial
              · exact loc_stuck _
          · refine Loc.bind (Loc.choose _) fun k _ => ?_
            split
            · exact Loc.bind (Loc.setObj hr _) fun _ _ => Loc.pure trivial
            · exact Loc.pure trivial
            · exact loc_stuck _
        · exact loc_stuck _
      · exact loc_stuck _
  · exact loc_stuck _
theorem loc_typeAssert (x : Value) (s a : TypeId) (ok : Bool) : Loc P B (fun _ => True) (Instr.typeAssert x s a ok) := by
  unfold Instr.typeAssert
  (repeat' (first
    | assumption
    | exact Loc.pure trivial
    | exact Loc.halt trivial
    | exact loc_stuck _
    | exact loc_unsupported _
    | exact loc_goPanic _
    | exact Loc.load _
    | exact Loc.store _ _
    | exact Loc.freeze _ _
    | exact Loc.frozen _
    | exact Loc.choose _
    | exact Loc.mono (Loc.shape _) (fun _ _ => trivial)
    | exact Loc.mono (Loc.newObj _) (fun _ _ => trivial)
    | exact Loc.mono Loc.program (fun _ _ => trivial)
    | exact loc_typeInfo _
    | exact loc_underlying _
    | exact loc_zeroValue _
    | exact loc_sizeOf _
    | exact loc_isAgg _
    | exact loc_loadCells _ _
    | exact loc_storeCells _ _ _
    | exact loc_loadVar _ _
    | exact loc_storeVar _ _ _
    | exact loc_newRow _ _
    | exact loc_newVar _ _
    | exact loc_elemOf _
    | exact loc_part _ _ _
    | exact loc_runtimePanic _
    | exact loc_boundsPanic _ _ _ _
    | exact loc_asIntOf _
    | exact loc_asInt _
    | exact loc_asBool _
    | exact loc_asString _
    | exact loc_asAgg _
    | exact loc_asAddr _
    | exact loc_askRoom _
    | exact loc_markStringish _
    | exact loc_noView' _
    | exact loc_sameAddr _ _
    | exact loc_samePointer _ _
    | exact loc_byteOf _
    | exact loc_partAt _ _ _
    | exact loc_fieldPlace _ _
    | exact loc_variablesAt _ _ _
    | exact loc_loadBytes _ _ _
    | exact loc_sureAddr _
    | exact loc_alloc _ _ _
    | exact loc_loadAt _ _
    | exact loc_storeAt _ _ _
    | exact loc_fieldAt _ _ _
    | exact loc_indexAt _ _ _
    | exact loc_sliceBound _ _ _
    | exact loc_sliceBounds _ _ _ _ _ _
    | exact loc_slice _ _ _ _ _
    | exact loc_sliceAt _ _ _ _ _
    | exact loc_box _ _
    | exact loc_build _ _
    | exact loc_buildSlice _ _ _
    | exact loc_makeInterface _ _
    | exact loc_makeSlice _ _ _
    | exact loc_field _ _ _
    | exact loc_index _ _ _
    | exact loc_extract _ _
    | apply_assumption -exfalso -symm
    | refine Loc.bind (Loc.load _) ?_
    | refine Loc.bind (Loc.store _ _) ?_
    | refine Loc.bind Loc.program ?_
    | refine Loc.bind (Loc.shape _) ?_
    | refine Loc.bind (Loc.newObj _) ?_
    | refine Loc.bind (Loc.choose _) ?_
    | refine Loc.bind (loc_typeInfo _) ?_
    | refine Loc.bind (loc_underlying _) ?_
    | refine Loc.bind (loc_zeroValue _) ?_
    | refine Loc.bind (loc_sizeOf _) ?_
    | refine Loc.bind (loc_isAgg _) ?_
    | refine Loc.bind (loc_loadCells _ _) ?_
    | refine Loc.bind (loc_storeCells _ _ _) ?_
    | refine Loc.bind (loc_loadVar _ _) ?_
    | refine Loc.bind (loc_storeVar _ _ _) ?_
    | refine Loc.bind (loc_newRow _ _) ?_
    | refine Loc.bind (loc_newVar _ _) ?_
    | refine Loc.bind (loc_elemOf _) ?_
    | refine Loc.bind (loc_part _ _ _) ?_
    | refine Loc.bind (loc_runtimePanic _) ?_
    | refine Loc.bind (loc_boundsPanic _ _ _ _) ?_
    | refine Loc.bind (loc_asIntOf _) ?_
    | refine Loc.bind (loc_asInt _) ?_
    | refine Loc.bind (loc_asBool _) ?_
    | refine Loc.bind (loc_asString _) ?_
    | refine Loc.bind (loc_asAgg _) ?_
    | refine Loc.bind (loc_asAddr _) ?_
    | refine Loc.bind (loc_askRoom _) ?_
    | refine Loc.bind (loc_markStringish _) ?_
    | refine Loc.bind (loc_noView' _) ?_
    | refine Loc.bind (loc_sameAddr _ _) ?_
    | refine Loc.bind (loc_samePointer _ _) ?_
    | refine Loc.bind (loc_byteOf _) ?_
    | refine Loc.bind (loc_partAt _ _ _) ?_
    | refine Loc.bind (loc_fieldPlace _ _) ?_
    | refine Loc.bind (loc_variablesAt _ _ _) ?_
    | refine Loc.bind (loc_loadBytes _ _ _) ?_
    | refine Loc.bind (loc_sureAddr _) ?_
    | refine Loc.bind (loc_alloc _ _ _) ?_
    | refine Loc.bind (loc_loadAt _ _) ?_
    | refine Loc.bind (loc_storeAt _ _ _) ?_
    | refine Loc.bind (loc_fieldAt _ _ _) ?_
    | refine Loc.bind (loc_indexAt _ _ _) ?_
    | refine Loc.bind (loc_sliceBound _ _ _) ?_
    | refine Loc.bind (loc_sliceBounds _ _ _ _ _ _) ?_
    | refine Loc.bind (loc_slice _ _ _ _ _) ?_
    | refine Loc.bind (loc_sliceAt _ _ _ _ _) ?_
    | refine Loc.bind (loc_box _ _) ?_
    | refine Loc.bind (loc_build _ _) ?_
    | refine Loc.bind (loc_buildSlice _ _ _) ?_
    | refine Loc.bind (loc_makeInterface _ _) ?_
    | refine Loc.bind (loc_makeSlice _ _ _) ?_
    | refine Loc.bind (loc_field _ _ _) ?_
    | refine Loc.bind (loc_index _ _ _) ?_
    | refine Loc.bind (loc_extract _ _) ?_
    | refine Loc.bind (Q' := fun _ => True) ?_ ?_
    | (intro _ _; skip)
    | (extract_lets -underBinder +onlyGivenNames j; refine jpcut (j := j) ?_ ?_; intro u; subst j; dsimp -zeta only; rotate_left; intro hj; clear_value j)
    | (extract_lets -underBinder +onlyGivenNames j; refine jpcut0 (j := j) ?_ ?_; subst j; rotate_left; intro hj; clear_value j)
    | (extract_lets -underBinder +onlyGivenNames j; clear_value j)
    | split
    | (dsimp only; skip)))
end
end Go.Co
