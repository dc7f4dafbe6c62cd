/-
  OPERATORS, CONVERSIONS, THE BUILT-IN FUNCTIONS: WELL BEHAVED.
-/
import Derived.Test.YtbjkljmhhpoooaaDoorCoD
namespace Go.Co

section
variable {P : Program} {B : Nat → Prop}

theorem loc_intArith (op : BinOp) (k : IntKind) (a b : Int) : Loc P B (fun _ => True) (Op.intArith op k a b) := by
  unfold Op.intArith
  (repeat' (first
    | assumption
    | exact Loc.pure trivial
    | exact Loc.halt trivial
    | exact loc_stuck _
    | exact loc_unsupported _
    | exact loc_goPanic _
    | exact Loc.load _
    | exact Loc.store _ _
    | exact Loc.freeze _ _
    | exact Loc.frozen _
    | exact Loc.choose _
    | exact Loc.mono (Loc.shape _) (fun _ _ => trivial)
    | exact Loc.mono (Loc.newObj _) (fun _ _ => trivial)
    | exact Loc.mono Loc.program (fun _ _ => trivial)
    | exact loc_typeInfo _
    | exact loc_underlying _
    | exact loc_zeroValue _
    | exact loc_sizeOf _
    | exact loc_loadCells _ _
    | exact loc_storeCells _ _ _
    | exact loc_newRow _ _
    | exact loc_elemOf _
    | exact loc_part _ _ _
    | exact loc_runtimePanic _
    | exact loc_asInt _
    | exact loc_asBool _
    | exact loc_askRoom _
    | exact loc_markStringish _
    | exact loc_sameAddr _ _
    | exact loc_samePointer _ _
    | exact loc_byteOf _
    | exact loc_variablesAt _ _ _
    | exact loc_loadBytes _ _ _
    | exact Loc.mark trivial
    | apply_assumption -exfalso -symm
    | refine Loc.bind (Loc.load _) ?_
    | refine Loc.bind (Loc.store _ _) ?_
    | refine Loc.bind Loc.program ?_
    | refine Loc.bind (Loc.shape _) ?_
    | refine Loc.bind (Loc.newObj _) ?_
    | refine Loc.bind (Loc.choose _) ?_
    | refine Loc.bind (loc_typeInfo _) ?_
    | refine Loc.bind (loc_underlying _) ?_
    | refine Loc.bind (loc_zeroValue _) ?_
    | refine Loc.bind (loc_sizeOf _) ?_
    | refine Loc.bind (loc_loadCells _ _) ?_
    | refine Loc.bind (loc_storeCells _ _ _) ?_
    | refine Loc.bind (loc_newRow _ _) ?_
    | refine Loc.bind (loc_elemOf _) ?_
    | refine Loc.bind (loc_part _ _ _) ?_
    | refine Loc.bind (loc_runtimePanic _) ?_
    | refine Loc.bind (loc_asInt _) ?_
    | refine Loc.bind (loc_asBool _) ?_
    | refine Loc.bind (loc_askRoom _) ?_
    | refine Loc.bind (loc_markStringish _) ?_
    | refine Loc.bind (loc_sameAddr _ _) ?_
    | refine Loc.bind (loc_samePointer _ _) ?_
    | refine Loc.bind (loc_byteOf _) ?_
    | refine Loc.bind (loc_variablesAt _ _ _) ?_
    | refine Loc.bind (loc_loadBytes _ _ _) ?_
    | refine Loc.bind (Loc.mark trivial) ?_
    | refine Loc.bind (Q' := fun _ => True) ?_ ?_
    | (intro _ _; skip)
    | (extract_lets -underBinder +onlyGivenNames j; refine jpcut (j := j) ?_ ?_; intro u; subst j; dsimp -zeta only; rotate_left; intro hj; clear_value j)
    | (extract_lets -underBinder +onlyGivenNames j; refine jpcut0 (j := j) ?_ ?_; subst j; rotate_left; intro hj; clear_value j)
    | (extract_lets -underBinder +onlyGivenNames j; clear_value j)
    | split
    | (dsimp only; skip)))
theorem loc_intDiv (op : BinOp) (k : IntKind) (a b : Int) : Loc P B (fun _ => True) (Op.intDiv op k a b) := by
  unfold Op.intDiv
  (repeat' (first
    | assumption
    | exact Loc.pure trivial
    | exact Loc.halt trivial
    | exact loc_stuck _
    | exact loc_unsupported _
    | exact loc_goPanic _
    | exact Loc.load _
    | exact Loc.store _ _
    | exact Loc.freeze _ _
    | exact Loc.frozen _
    | exact Loc.choose _
    | exact Loc.mono (Loc.shape _) (fun _ _ => trivial)
    | exact Loc.mono (Loc.newObj _) (fun _ _ => trivial)
    | exact Loc.mono Loc.program (fun _ _ => trivial)
    | exact loc_typeInfo _
    | exact loc_underlying _
    | exact loc_zeroValue _
    | exact loc_sizeOf _
    | exact loc_loadCells _ _
    | exact loc_storeCells _ _ _
    | exact loc_newRow _ _
    | exact loc_elemOf _
    | exact loc_part _ _ _
    | exact loc_runtimePanic _
    | exact loc_asInt _
    | exact loc_asBool _
    | exact loc_askRoom _
    | exact loc_markStringish _
    | exact loc_sameAddr _ _
    | exact loc_samePointer _ _
    | exact loc_byteOf _
    | exact loc_variablesAt _ _ _
    | exact loc_loadBytes _ _ _
    | exact Loc.mark trivial
    | exact loc_intArith _ _ _ _
    | apply_assumption -exfalso -symm
    | refine Loc.bind (Loc.load _) ?_
    | refine Loc.bind (Loc.store _ _) ?_
    | refine Loc.bind Loc.program ?_
    | refine Loc.bind (Loc.shape _) ?_
    | refine Loc.bind (Loc.newObj _) ?_
    | refine Loc.bind (Loc.choose _) ?_
    | refine Loc.bind (loc_typeInfo _) ?_
    | refine Loc.bind (loc_underlying _) ?_
    | refine Loc.bind (loc_zeroValue _) ?_
    | refine Loc.bind (loc_sizeOf _) ?_
    | refine Loc.bind (loc_loadCells _ _) ?_
    | refine Loc.bind (loc_storeCells _ _ _) ?_
    | refine Loc.bind (loc_newRow _ _) ?_
    | refine Loc.bind (loc_elemOf _) ?_
    | refine Loc.bind (loc_part _ _ _) ?_
    | refine Loc.bind (loc_runtimePanic _) ?_
    | refine Loc.bind (loc_asInt _) ?_
    | refine Loc.bind (loc_asBool _) ?_
    | refine Loc.bind (loc_askRoom _) ?_
    | refine Loc.bind (loc_markStringish _) ?_
    | refine Loc.bind (loc_sameAddr _ _) ?_
    | refine Loc.bind (loc_samePointer _ _) ?_
    | refine Loc.bind (loc_byteOf _) ?_
    | refine Loc.bind (loc_variablesAt _ _ _) ?_
    | refine Loc.bind (loc_loadBytes _ _ _) ?_
    | refine Loc.bind (Loc.mark trivial) ?_
    | refine Loc.bind (loc_intArith _ _ _ _) ?_
    | refine Loc.bind (Q' := fun _ => True) ?_ ?_
    | (intro _ _; skip)
    | (extract_lets -underBinder +onlyGivenNames j; refine jpcut (j := j) ?_ ?_; intro u; subst j; dsimp -zeta only; rotate_left; intro hj; clear_value j)
    | (extract_lets -underBinder +onlyGivenNames j; refine jpcut0 (j := j) ?_ ?_; subst j; rotate_left; intro hj; clear_value j)
    | (extract_lets -underBinder +onlyGivenNames j; clear_value j)
    | split
    | (dsimp only; skip)))
theorem loc_intBits (op : BinOp) (k : IntKind) (a b : Int) : Loc P B (fun _ => True) (Op.intBits op k a b) := by
  unfold Op.intBits
  (repeat' (first
    | assumption
    | exact Loc.pure trivial
    | exact Loc.halt trivial
    | exact loc_stuck _
    | exact loc_unsupported _
    | exact loc_goPanic _
    | exact Loc.load _
    | exact Loc.store _ _
    | exact Loc.freeze _ _
    | exact Loc.frozen _
    | exact Loc.choose _
    | exact Loc.mono (Loc.shape _) (fun _ _ => trivial)
    | exact Loc.mono (Loc.newObj _) (fun _ _ => trivial)
    | exact Loc.mono Loc.program (fun _ _ => trivial)
    | exact loc_typeInfo _
    | exact loc_underlying _
    | exact loc_zeroValue _
    | exact loc_sizeOf _
    | exact loc_loadCells _ _
    | exact loc_storeCells _ _ _
    | exact loc_newRow _ _
    | exact loc_elemOf _
    | exact loc_part _ _ _
    | exact loc_runtimePanic _
    | exact loc_asInt _
    | exact loc_asBool _
    | exact loc_askRoom _
    | exact loc_markStringish _
    | exact loc_sameAddr _ _
    | exact loc_samePointer _ _
    | exact loc_byteOf _
    | exact loc_variablesAt _ _ _
    | exact loc_loadBytes _ _ _
    | exact Loc.mark trivial
    | exact loc_intArith _ _ _ _
    | exact loc_intDiv _ _ _ _
    | apply_assumption -exfalso -symm
    | refine Loc.bind (Loc.load _) ?_
    | refine Loc.bind (Loc.store _ _) ?_
    | refine Loc.bind Loc.program ?_
    | refine Loc.bind (Loc.shape _) ?_
    | refine Loc.bind (Loc.newObj _) ?_
    | refine Loc.bind (Loc.choose _) ?_
    | refine Loc.bind (loc_typeInfo _) ?_
    | refine Loc.bind (loc_underlying _) ?_
    | refine Loc.bind (loc_zeroValue _) ?_
    | refine Loc.bind (loc_sizeOf _) ?_
    | refine Loc.bind (loc_loadCells _ _) ?_
    | refine Loc.bind (loc_storeCells _ _ _) ?_
    | refine Loc.bind (loc_newRow _ _) ?_
    | refine Loc.bind (loc_elemOf _) ?_
    | refine Loc.bind (loc_part _ _ _) ?_
    | refine Loc.bind (loc_runtimePanic _) ?_
    | refine Loc.bind (loc_asInt _) ?_
    | refine Loc.bind (loc_asBool _) ?_
    | refine Loc.bind (loc_askRoom _) ?_
    | refine Loc.bind (loc_markStringish _) ?_
    | refine Loc.bind (loc_sameAddr _ _) ?_
    | refine Loc.bind (loc_samePointer _ _) ?_
    | refine Loc.bind (loc_byteOf _) ?_
    | refine Loc.bind (loc_variablesAt _ _ _) ?_
    | refine Loc.bind (loc_loadBytes _ _ _) ?_
    | refine Loc.bind (Loc.mark trivial) ?_
    | refine Loc.bind (loc_intArith _ _ _ _) ?_
    | refine Loc.bind (loc_intDiv _ _ _ _) ?_
    | refine Loc.bind (Q' := fun _ => True) ?_ ?_
    | (intro _ _; skip)
    | (extract_lets -underBinder +onlyGivenNames j; refine jpcut (j := j) ?_ ?_; intro u; subst j; dsimp -zeta only; rotate_left; intro hj; clear_value j)
    | (extract_lets -underBinder +onlyGivenNames j; refine jpcut0 (j := j) ?_ ?_; subst j; rotate_left; intro hj; clear_value j)
    | (extract_lets -underBinder +onlyGivenNames j; clear_value j)
    | split
    | (dsimp only; skip)))
theorem loc_intCmp (op : BinOp) (a b : Int) : Loc P B (fun _ => True) (Op.intCmp op a b) := by
  unfold Op.intCmp
  (repeat' (first
    | assumption
    | exact Loc.pure trivial
    | exact Loc.halt trivial
    | exact loc_stuck _
    | exact loc_unsupported _
    | exact loc_goPanic _
    | exact Loc.load _
    | exact Loc.store _ _
    | exact Loc.freeze _ _
    | exact Loc.frozen _
    | exact Loc.choose _
    | exact Loc.mono (Loc.shape _) (fun _ _ => trivial)
    | exact Loc.mono (Loc.newObj _) (fun _ _ => trivial)
    | exact Loc.mono Loc.program (fun _ _ => trivial)
    | exact loc_typeInfo _
    | exact loc_underlying _
    | exact loc_zeroValue _
    | exact loc_sizeOf _
    | exact loc_loadCells _ _
    | exact loc_storeCells _ _ _
    | exact loc_newRow _ _
    | exact loc_elemOf _
    | exact loc_part _ _ _
    | exact loc_runtimePanic _
    | exact loc_asInt _
    | exact loc_asBool _
    | exact loc_askRoom _
    | exact loc_markStringish _
    | exact loc_sameAddr _ _
    | exact loc_samePointer _ _
    | exact loc_byteOf _
    | exact loc_variablesAt _ _ _
    | exact loc_loadBytes _ _ _
    | exact Loc.mark trivial
    | exact loc_intArith _ _ _ _
    | exact loc_intDiv _ _ _ _
    | exact loc_intBits _ _ _ _
    | apply_assumption -exfalso -symm
    | refine Loc.bind (Loc.load _) ?_
    | refine Loc.bind (Loc.store _ _) ?_
    | refine Loc.bind Loc.program ?_
    | refine Loc.bind (Loc.shape _) ?_
    | refine Loc.bind (Loc.newObj _) ?_
    | refine Loc.bind (Loc.choose _) ?_
    | refine Loc.bind (loc_typeInfo _) ?_
    | refine Loc.bind (loc_underlying _) ?_
    | refine Loc.bind (loc_zeroValue _) ?_
    | refine Loc.bind (loc_sizeOf _) ?_
    | refine Loc.bind (loc_loadCells _ _) ?_
    | refine Loc.bind (loc_storeCells _ _ _) ?_
    | refine Loc.bind (loc_newRow _ _) ?_
    | refine Loc.bind (loc_elemOf _) ?_
    | refine Loc.bind (loc_part _ _ _) ?_
    | refine Loc.bind (loc_runtimePanic _) ?_
    | refine Loc.bind (loc_asInt _) ?_
    | refine Loc.bind (loc_asBool _) ?_
    | refine Loc.bind (loc_askRoom _) ?_
    | refine Loc.bind (loc_markStringish _) ?_
    | refine Loc.bind (loc_sameAddr _ _) ?_
    | refine Loc.bind (loc_samePointer _ _) ?_
    | refine Loc.bind (loc_byteOf _) ?_
    | refine Loc.bind (loc_variablesAt _ _ _) ?_
    | refine Loc.bind (loc_loadBytes _ _ _) ?_
    | refine Loc.bind (Loc.mark trivial) ?_
    | refine Loc.bind (loc_intArith _ _ _ _) ?_
    | refine Loc.bind (loc_intDiv _ _ _ _) ?_
    | refine Loc.bind (loc_intBits _ _ _ _) ?_
    | refine Loc.bind (Q' := fun _ => True) ?_ ?_
    | (intro _ _; skip)
    | (extract_lets -underBinder +onlyGivenNames j; refine jpcut (j := j) ?_ ?_; intro u; subst j; dsimp -zeta only; rotate_left; intro hj; clear_value j)
    | (extract_lets -underBinder +onlyGivenNames j; refine jpcut0 (j := j) ?_ ?_; subst j; rotate_left; intro hj; clear_value j)
    | (extract_lets -underBinder +onlyGivenNames j; clear_value j)
    | split
    | (dsimp only; skip)))
theorem loc_shift (op : BinOp) (k : IntKind) (a : Int) (k' : IntKind) (b : Int) : Loc P B (fun _ => True) (Op.shift op k a k' b) := by
  unfold Op.shift
  (repeat' (first
    | assumption
    | exact Loc.pure trivial
    | exact Loc.halt trivial
    | exact loc_stuck _
    | exact loc_unsupported _
    | exact loc_goPanic _
    | exact Loc.load _
    | exact Loc.store _ _
    | exact Loc.freeze _ _
    | exact Loc.frozen _
    | exact Loc.choose _
    | exact Loc.mono (Loc.shape _) (fun _ _ => trivial)
    | exact Loc.mono (Loc.newObj _) (fun _ _ => trivial)
    | exact Loc.mono Loc.program (fun _ _ => trivial)
    | exact loc_typeInfo _
    | exact loc_underlying _
    | exact loc_zeroValue _
    | exact loc_sizeOf _
    | exact loc_loadCells _ _
    | exact loc_storeCells _ _ _
    | exact loc_newRow _ _
    | exact loc_elemOf _
    | exact loc_part _ _ _
    | exact loc_runtimePanic _
    | exact loc_asInt _
    | exact loc_asBool _
    | exact loc_askRoom _
    | exact loc_markStringish _
    | exact loc_sameAddr _ _
    | exact loc_samePointer _ _
    | exact loc_byteOf _
    | exact loc_variablesAt _ _ _
    | exact loc_loadBytes _ _ _
    | exact Loc.mark trivial
    | exact loc_intArith _ _ _ _
    | exact loc_intDiv _ _ _ _
    | exact loc_intBits _ _ _ _
    | exact loc_intCmp _ _ _
    | apply_assumption -exfalso -symm
    | refine Loc.bind (Loc.load _) ?_
    | refine Loc.bind (Loc.store _ _) ?_
    | refine Loc.bind Loc.program ?_
    | refine Loc.bind (Loc.shape _) ?_
    | refine Loc.bind (Loc.newObj _) ?_
    | refine Loc.bind (Loc.choose _) ?_
    | refine Loc.bind (loc_typeInfo _) ?_
    | refine Loc.bind (loc_underlying _) ?_
    | refine Loc.bind (loc_zeroValue _) ?_
    | refine Loc.bind (loc_sizeOf _) ?_
    | refine Loc.bind (loc_loadCells _ _) ?_
    | refine Loc.bind (loc_storeCells _ _ _) ?_
    | refine Loc.bind (loc_newRow _ _) ?_
    | refine Loc.bind (loc_elemOf _) ?_
    | refine Loc.bind (loc_part _ _ _) ?_
    | refine Loc.bind (loc_runtimePanic _) ?_
    | refine Loc.bind (loc_asInt _) ?_
    | refine Loc.bind (loc_asBool _) ?_
    | refine Loc.bind (loc_askRoom _) ?_
    | refine Loc.bind (loc_markStringish _) ?_
    | refine Loc.bind (loc_sameAddr _ _) ?_
    | refine Loc.bind (loc_samePointer _ _) ?_
    | refine Loc.bind (loc_byteOf _) ?_
    | refine Loc.bind (loc_variablesAt _ _ _) ?_
    | refine Loc.bind (loc_loadBytes _ _ _) ?_
    | refine Loc.bind (Loc.mark trivial) ?_
    | refine Loc.bind (loc_intArith _ _ _ _) ?_
    | refine Loc.bind (loc_intDiv _ _ _ _) ?_
    | refine Loc.bind (loc_intBits _ _ _ _) ?_
    | refine Loc.bind (loc_intCmp _ _ _) ?_
    | refine Loc.bind (Q' := fun _ => True) ?_ ?_
    | (intro _ _; skip)
    | (extract_lets -underBinder +onlyGivenNames j; refine jpcut (j := j) ?_ ?_; intro u; subst j; dsimp -zeta only; rotate_left; intro hj; clear_value j)
    | (extract_lets -underBinder +onlyGivenNames j; refine jpcut0 (j := j) ?_ ?_; subst j; rotate_left; intro hj; clear_value j)
    | (extract_lets -underBinder +onlyGivenNames j; clear_value j)
    | split
    | (dsimp only; skip)))
theorem loc_floatArith (op : BinOp) (k : FloatKind) (a b : Nat) : Loc P B (fun _ => True) (Op.floatArith op k a b) := by
  unfold Op.floatArith
  (repeat' (first
    | assumption
    | exact Loc.pure trivial
    | exact Loc.halt trivial
    | exact loc_stuck _
    | exact loc_unsupported _
    | exact loc_goPanic _
    | exact Loc.load _
    | exact Loc.store _ _
    | exact Loc.freeze _ _
    | exact Loc.frozen _
    | exact Loc.choose _
    | exact Loc.mono (Loc.shape _) (fun _ _ => trivial)
    | exact Loc.mono (Loc.newObj _) (fun _ _ => trivial)
    | exact Loc.mono Loc.program (fun _ _ => trivial)
    | exact loc_typeInfo _
    | exact loc_underlying _
    | exact loc_zeroValue _
    | exact loc_sizeOf _
    | exact loc_loadCells _ _
    | exact loc_storeCells _ _ _
    | exact loc_newRow _ _
    | exact loc_elemOf _
    | exact loc_part _ _ _
    | exact loc_runtimePanic _
    | exact loc_asInt _
    | exact loc_asBool _
    | exact loc_askRoom _
    | exact loc_markStringish _
    | exact loc_sameAddr _ _
    | exact loc_samePointer _ _
    | exact loc_byteOf _
    | exact loc_variablesAt _ _ _
    | exact loc_loadBytes _ _ _
    | exact Loc.mark trivial
    | exact loc_intArith _ _ _ _
    | exact loc_intDiv _ _ _ _
    | exact loc_intBits _ _ _ _
    | exact loc_intCmp _ _ _
    | exact loc_shift _ _ _ _ _
    | apply_assumption -exfalso -symm
    | refine Loc.bind (Loc.load _) ?_
    | refine Loc.bind (Loc.store _ _) ?_
    | refine Loc.bind Loc.program ?_
    | refine Loc.bind (Loc.shape _) ?_
    | refine Loc.bind (Loc.newObj _) ?_
    | refine Loc.bind (Loc.choose _) ?_
    | refine Loc.bind (loc_typeInfo _) ?_
    | refine Loc.bind (loc_underlying _) ?_
    | refine Loc.bind (loc_zeroValue _) ?_
    | refine Loc.bind (loc_sizeOf _) ?_
    | refine Loc.bind (loc_loadCells _ _) ?_
    | refine Loc.bind (loc_storeCells _ _ _) ?_
    | refine Loc.bind (loc_newRow _ _) ?_
    | refine Loc.bind (loc_elemOf _) ?_
    | refine Loc.bind (loc_part _ _ _) ?_
    | refine Loc.bind (loc_runtimePanic _) ?_
    | refine Loc.bind (loc_asInt _) ?_
    | refine Loc.bind (loc_asBool _) ?_
    | refine Loc.bind (loc_askRoom _) ?_
    | refine Loc.bind (loc_markStringish _) ?_
    | refine Loc.bind (loc_sameAddr _ _) ?_
    | refine Loc.bind (loc_samePointer _ _) ?_
    | refine Loc.bind (loc_byteOf _) ?_
    | refine Loc.bind (loc_variablesAt _ _ _) ?_
    | refine Loc.bind (loc_loadBytes _ _ _) ?_
    | refine Loc.bind (Loc.mark trivial) ?_
    | refine Loc.bind (loc_intArith _ _ _ _) ?_
    | refine Loc.bind (loc_intDiv _ _ _ _) ?_
    | refine Loc.bind (loc_intBits _ _ _ _) ?_
    | refine Loc.bind (loc_intCmp _ _ _) ?_
    | refine Loc.bind (loc_shift _ _ _ _ _) ?_
    | refine Loc.bind (Q' := fun _ => True) ?_ ?_
    | (intro _ _; skip)
    | (extract_lets -underBinder +onlyGivenNames j; refine jpcut (j := j) ?_ ?_; intro u; subst j; dsimp -zeta only; rotate_left; intro hj; clear_value j)
    | (extract_lets -underBinder +onlyGivenNames j; refine jpcut0 (j := j) ?_ ?_; subst j; rotate_left; intro hj; clear_value j)
    | (extract_lets -underBinder +onlyGivenNames j; clear_value j)
    | split
    | (dsimp only; skip)))
theorem loc_floatCmp (op : BinOp) (k : FloatKind) (a b : Nat) : Loc P B (fun _ => True) (Op.floatCmp op k a b) := by
  unfold Op.floatCmp
  (repeat' (first
    | assumption
    | exact Loc.pure trivial
    | exact Loc.halt trivial
    | exact loc_stuck _
    | exact loc_unsupported _
    | exact loc_goPanic _
    | exact Loc.load _
    | exact Loc.store _ _
    | exact Loc.freeze _ _
    | exact Loc.frozen _
    | exact Loc.choose _
    | exact Loc.mono (Loc.shape _) (fun _ _ => trivial)
    | exact Loc.mono (Loc.newObj _) (fun _ _ => trivial)
    | exact Loc.mono Loc.program (fun _ _ => trivial)
    | exact loc_typeInfo _
    | exact loc_underlying _
    | exact loc_zeroValue _
    | exact loc_sizeOf _
    | exact loc_loadCells _ _
    | exact loc_storeCells _ _ _
    | exact loc_newRow _ _
    | exact loc_elemOf _
    | exact loc_part _ _ _
    | exact loc_runtimePanic _
    | exact loc_asInt _
    | exact loc_asBool _
    | exact loc_askRoom _
    | exact loc_markStringish _
    | exact loc_sameAddr _ _
    | exact loc_samePointer _ _
    | exact loc_byteOf _
    | exact loc_variablesAt _ _ _
    | exact loc_loadBytes _ _ _
    | exact Loc.mark trivial
    | exact loc_intArith _ _ _ _
    | exact loc_intDiv _ _ _ _
    | exact loc_intBits _ _ _ _
    | exact loc_intCmp _ _ _
    | exact loc_shift _ _ _ _ _
    | exact loc_floatArith _ _ _ _
    | apply_assumption -exfalso -symm
    | refine Loc.bind (Loc.load _) ?_
    | refine Loc.bind (Loc.store _ _) ?_
    | refine Loc.bind Loc.program ?_
    | refine Loc.bind (Loc.shape _) ?_
    | refine Loc.bind (Loc.newObj _) ?_
    | refine Loc.bind (Loc.choose _) ?_
    | refine Loc.bind (loc_typeInfo _) ?_
    | refine Loc.bind (loc_underlying _) ?_
    | refine Loc.bind (loc_zeroValue _) ?_
    | refine Loc.bind (loc_sizeOf _) ?_
    | refine Loc.bind (loc_loadCells _ _) ?_
    | refine Loc.bind (loc_storeCells _ _ _) ?_
    | refine Loc.bind (loc_newRow _ _) ?_
    | refine Loc.bind (loc_elemOf _) ?_
    | refine Loc.bind (loc_part _ _ _) ?_
    | refine Loc.bind (loc_runtimePanic _) ?_
    | refine Loc.bind (loc_asInt _) ?_
    | refine Loc.bind (loc_asBool _) ?_
    | refine Loc.bind (loc_askRoom _) ?_
    | refine Loc.bind (loc_markStringish _) ?_
    | refine Loc.bind (loc_sameAddr _ _) ?_
    | refine Loc.bind (loc_samePointer _ _) ?_
    | refine Loc.bind (loc_byteOf _) ?_
    | refine Loc.bind (loc_variablesAt _ _ _) ?_
    | refine Loc.bind (loc_loadBytes _ _ _) ?_
    | refine Loc.bind (Loc.mark trivial) ?_
    | refine Loc.bind (loc_intArith _ _ _ _) ?_
    | refine Loc.bind (loc_intDiv _ _ _ _) ?_
    | refine Loc.bind (loc_intBits _ _ _ _) ?_
    | refine Loc.bind (loc_intCmp _ _ _) ?_
    | refine Loc.bind (loc_shift _ _ _ _ _) ?_
    | refine Loc.bind (loc_floatArith _ _ _ _) ?_
    | refine Loc.bind (Q' := fun _ => True) ?_ ?_
    | (intro _ _; skip)
    | (extract_lets -underBinder +onlyGivenNames j; refine jpcut (j := j) ?_ ?_; intro u; subst j; dsimp -zeta only; rotate_left; intro hj; clear_value j)
    | (extract_lets -underBinder +onlyGivenNames j; refine jpcut0 (j := j) ?_ ?_; subst j; rotate_left; intro hj; clear_value j)
    | (extract_lets -underBinder +onlyGivenNames j; clear_value j)
    | split
    | (dsimp only; skip)))
theorem loc_stringOp (op : BinOp) (a b : ByteArray) : Loc P B (fun _ => True) (Op.stringOp op a b) := by
  unfold Op.stringOp
  (repeat' (first
    | assumption
    | exact Loc.pure trivial
    | exact Loc.halt trivial
    | exact loc_stuck _
    | exact loc_unsupported _
    | exact loc_goPanic _
    | exact Loc.load _
    | exact Loc.store _ _
    | exact Loc.freeze _ _
    | exact Loc.frozen _
    | exact Loc.choose _
    | exact Loc.mono (Loc.shape _) (fun _ _ => trivial)
    | exact Loc.mono (Loc.newObj _) (fun _ _ => trivial)
    | exact Loc.mono Loc.program (fun _ _ => trivial)
    | exact loc_typeInfo _
    | exact loc_underlying _
    | exact loc_zeroValue _
    | exact loc_sizeOf _
    | exact loc_loadCells _ _
    | exact loc_storeCells _ _ _
    | exact loc_newRow _ _
    | exact loc_elemOf _
    | exact loc_part _ _ _
    | exact loc_runtimePanic _
    | exact loc_asInt _
    | exact loc_asBool _
    | exact loc_askRoom _
    | exact loc_markStringish _
    | exact loc_sameAddr _ _
    | exact loc_samePointer _ _
    | exact loc_byteOf _
    | exact loc_variablesAt _ _ _
    | exact loc_loadBytes _ _ _
    | exact Loc.mark trivial
    | exact loc_intArith _ _ _ _
    | exact loc_intDiv _ _ _ _
    | exact loc_intBits _ _ _ _
    | exact loc_intCmp _ _ _
    | exact loc_shift _ _ _ _ _
    | exact loc_floatArith _ _ _ _
    | exact loc_floatCmp _ _ _ _
    | apply_assumption -exfalso -symm
    | refine Loc.bind (Loc.load _) ?_
    | refine Loc.bind (Loc.store _ _) ?_
    | refine Loc.bind Loc.program ?_
    | refine Loc.bind (Loc.shape _) ?_
    | refine Loc.bind (Loc.newObj _) ?_
    | refine Loc.bind (Loc.choose _) ?_
    | refine Loc.bind (loc_typeInfo _) ?_
    | refine Loc.bind (loc_underlying _) ?_
    | refine Loc.bind (loc_zeroValue _) ?_
    | refine Loc.bind (loc_sizeOf _) ?_
    | refine Loc.bind (loc_loadCells _ _) ?_
    | refine Loc.bind (loc_storeCells _ _ _) ?_
    | refine Loc.bind (loc_newRow _ _) ?_
    | refine Loc.bind (loc_elemOf _) ?_
    | refine Loc.bind (loc_part _ _ _) ?_
    | refine Loc.bind (loc_runtimePanic _) ?_
    | refine Loc.bind (loc_asInt _) ?_
    | refine Loc.bind (loc_asBool _) ?_
    | refine Loc.bind (loc_askRoom _) ?_
    | refine Loc.bind (loc_markStringish _) ?_
    | refine Loc.bind (loc_sameAddr _ _) ?_
    | refine Loc.bind (loc_samePointer _ _) ?_
    | refine Loc.bind (loc_byteOf _) ?_
    | refine Loc.bind (loc_variablesAt _ _ _) ?_
    | refine Loc.bind (loc_loadBytes _ _ _) ?_
    | refine Loc.bind (Loc.mark trivial) ?_
    | refine Loc.bind (loc_intArith _ _ _ _) ?_
    | refine Loc.bind (loc_intDiv _ _ _ _) ?_
    | refine Loc.bind (loc_intBits _ _ _ _) ?_
    | refine Loc.bind (loc_intCmp _ _ _) ?_
    | refine Loc.bind (loc_shift _ _ _ _ _) ?_
    | refine Loc.bind (loc_floatArith _ _ _ _) ?_
    | refine Loc.bind (loc_floatCmp _ _ _ _) ?_
    | refine Loc.bind (Q' := fun _ => True) ?_ ?_
    | (intro _ _; skip)
    | (extract_lets -underBinder +onlyGivenNames j; refine jpcut (j := j) ?_ ?_; intro u; subst j; dsimp -zeta only; rotate_left; intro hj; clear_value j)
    | (extract_lets -underBinder +onlyGivenNames j; refine jpcut0 (j := j) ?_ ?_; subst j; rotate_left; intro hj; clear_value j)
    | (extract_lets -underBinder +onlyGivenNames j; clear_value j)
    | split
    | (dsimp only; skip)))
theorem loc_unary (op : UnOp) (x : Value) : Loc P B (fun _ => True) (Op.unary op x) := by
  unfold Op.unary
  (repeat' (first
    | assumption
    | exact Loc.pure trivial
    | exact Loc.halt trivial
    | exact loc_stuck _
    | exact loc_unsupported _
    | exact loc_goPanic _
    | exact Loc.load _
    | exact Loc.store _ _
    | exact Loc.freeze _ _
    | exact Loc.frozen _
    | exact Loc.choose _
    | exact Loc.mono (Loc.shape _) (fun _ _ => trivial)
    | exact Loc.mono (Loc.newObj _) (fun _ _ => trivial)
    | exact Loc.mono Loc.program (fun _ _ => trivial)
    | exact loc_typeInfo _
    | exact loc_underlying _
    | exact loc_zeroValue _
    | exact loc_sizeOf _
    | exact loc_loadCells _ _
    | exact loc_storeCells _ _ _
    | exact loc_newRow _ _
    | exact loc_elemOf _
    | exact loc_part _ _ _
    | exact loc_runtimePanic _
    | exact loc_asInt _
    | exact loc_asBool _
    | exact loc_askRoom _
    | exact loc_markStringish _
    | exact loc_sameAddr _ _
    | exact loc_samePointer _ _
    | exact loc_byteOf _
    | exact loc_variablesAt _ _ _
    | exact loc_loadBytes _ _ _
    | exact Loc.mark trivial
    | exact loc_intArith _ _ _ _
    | exact loc_intDiv _ _ _ _
    | exact loc_intBits _ _ _ _
    | exact loc_intCmp _ _ _
    | exact loc_shift _ _ _ _ _
    | exact loc_floatArith _ _ _ _
    | exact loc_floatCmp _ _ _ _
    | exact loc_stringOp _ _ _
    | apply_assumption -exfalso -symm
    | refine Loc.bind (Loc.load _) ?_
    | refine Loc.bind (Loc.store _ _) ?_
    | refine Loc.bind Loc.program ?_
    | refine Loc.bind (Loc.shape _) ?_
    | refine Loc.bind (Loc.newObj _) ?_
    | refine Loc.bind (Loc.choose _) ?_
    | refine Loc.bind (loc_typeInfo _) ?_
    | refine Loc.bind (loc_underlying _) ?_
    | refine Loc.bind (loc_zeroValue _) ?_
    | refine Loc.bind (loc_sizeOf _) ?_
    | refine Loc.bind (loc_loadCells _ _) ?_
    | refine Loc.bind (loc_storeCells _ _ _) ?_
    | refine Loc.bind (loc_newRow _ _) ?_
    | refine Loc.bind (loc_elemOf _) ?_
    | refine Loc.bind (loc_part _ _ _) ?_
    | refine Loc.bind (loc_runtimePanic _) ?_
    | refine Loc.bind (loc_asInt _) ?_
    | refine Loc.bind (loc_asBool _) ?_
    | refine Loc.bind (loc_askRoom _) ?_
    | refine Loc.bind (loc_markStringish _) ?_
    | refine Loc.bind (loc_sameAddr _ _) ?_
    | refine Loc.bind (loc_samePointer _ _) ?_
    | refine Loc.bind (loc_byteOf _) ?_
    | refine Loc.bind (loc_variablesAt _ _ _) ?_
    | refine Loc.bind (loc_loadBytes _ _ _) ?_
    | refine Loc.bind (Loc.mark trivial) ?_
    | refine Loc.bind (loc_intArith _ _ _ _) ?_
    | refine Loc.bind (loc_intDiv _ _ _ _) ?_
    | refine Loc.bind (loc_intBits _ _ _ _) ?_
    | refine Loc.bind (loc_intCmp _ _ _) ?_
    | refine Loc.bind (loc_shift _ _ _ _ _) ?_
    | refine Loc.bind (loc_floatArith _ _ _ _) ?_
    | refine Loc.bind (loc_floatCmp _ _ _ _) ?_
    | refine Loc.bind (loc_stringOp _ _ _) ?_
    | refine Loc.bind (Q' := fun _ => True) ?_ ?_
    | (intro _ _; skip)
    | (extract_lets -underBinder +onlyGivenNames j; refine jpcut (j := j) ?_ ?_; intro u; subst j; dsimp -zeta only; rotate_left; intro hj; clear_value j)
    | (extract_lets -underBinder +onlyGivenNames j; refine jpcut0 (j := j) ?_ ?_; subst j; rotate_left; intro hj; clear_value j)
    | (extract_lets -underBinder +onlyGivenNames j; clear_value j)
    | split
    | (dsimp only; skip)))
theorem loc_min2 (x y : Value) : Loc P B (fun _ => True) (Builtin.min2 x y) := by
  unfold Builtin.min2
  (repeat' (first
    | assumption
    | exact Loc.pure trivial
    | exact Loc.halt trivial
    | exact loc_stuck _
    | exact loc_unsupported _
    | exact loc_goPanic _
    | exact Loc.load _
    | exact Loc.store _ _
    | exact Loc.freeze _ _
    | exact Loc.frozen _
    | exact Loc.choose _
    | exact Loc.mono (Loc.shape _) (fun _ _ => trivial)
    | exact Loc.mono (Loc.newObj _) (fun _ _ => trivial)
    | exact Loc.mono Loc.program (fun _ _ => trivial)
    | exact loc_typeInfo _
    | exact loc_underlying _
    | exact loc_zeroValue _
    | exact loc_sizeOf _
    | exact loc_loadCells _ _
    | exact loc_storeCells _ _ _
    | exact loc_newRow _ _
    | exact loc_elemOf _
    | exact loc_part _ _ _
    | exact loc_runtimePanic _
    | exact loc_asInt _
    | exact loc_asBool _
    | exact loc_askRoom _
    | exact loc_markStringish _
    | exact loc_sameAddr _ _
    | exact loc_samePointer _ _
    | exact loc_byteOf _
    | exact loc_variablesAt _ _ _
    | exact loc_loadBytes _ _ _
    | exact Loc.mark trivial
    | exact loc_intArith _ _ _ _
    | exact loc_intDiv _ _ _ _
    | exact loc_intBits _ _ _ _
    | exact loc_intCmp _ _ _
    | exact loc_shift _ _ _ _ _
    | exact loc_floatArith _ _ _ _
    | exact loc_floatCmp _ _ _ _
    | exact loc_stringOp _ _ _
    | exact loc_unary _ _
    | apply_assumption -exfalso -symm
    | refine Loc.bind (Loc.load _) ?_
    | refine Loc.bind (Loc.store _ _) ?_
    | refine Loc.bind Loc.program ?_
    | refine Loc.bind (Loc.shape _) ?_
    | refine Loc.bind (Loc.newObj _) ?_
    | refine Loc.bind (Loc.choose _) ?_
    | refine Loc.bind (loc_typeInfo _) ?_
    | refine Loc.bind (loc_underlying _) ?_
    | refine Loc.bind (loc_zeroValue _) ?_
    | refine Loc.bind (loc_sizeOf _) ?_
    | refine Loc.bind (loc_loadCells _ _) ?_
    | refine Loc.bind (loc_storeCells _ _ _) ?_
    | refine Loc.bind (loc_newRow _ _) ?_
    | refine Loc.bind (loc_elemOf _) ?_
    | refine Loc.bind (loc_part _ _ _) ?_
    | refine Loc.bind (loc_runtimePanic _) ?_
    | refine Loc.bind (loc_asInt _) ?_
    | refine Loc.bind (loc_asBool _) ?_
    | refine Loc.bind (loc_askRoom _) ?_
    | refine Loc.bind (loc_markStringish _) ?_
    | refine Loc.bind (loc_sameAddr _ _) ?_
    | refine Loc.bind (loc_samePointer _ _) ?_
    | refine Loc.bind (loc_byteOf _) ?_
    | refine Loc.bind (loc_variablesAt _ _ _) ?_
    | refine Loc.bind (loc_loadBytes _ _ _) ?_
    | refine Loc.bind (Loc.mark trivial) ?_
    | refine Loc.bind (loc_intArith _ _ _ _) ?_
    | refine Loc.bind (loc_intDiv _ _ _ _) ?_
    | refine Loc.bind (loc_intBits _ _ _ _) ?_
    | refine Loc.bind (loc_intCmp _ _ _) ?_
    | refine Loc.bind (loc_shift _ _ _ _ _) ?_
    | refine Loc.bind (loc_floatArith _ _ _ _) ?_
    | refine Loc.bind (loc_floatCmp _ _ _ _) ?_
    | refine Loc.bind (loc_stringOp _ _ _) ?_
    | refine Loc.bind (loc_unary _ _) ?_
    | refine Loc.bind (Q' := fun _ => True) ?_ ?_
    | (intro _ _; skip)
    | (extract_lets -underBinder +onlyGivenNames j; refine jpcut (j := j) ?_ ?_; intro u; subst j; dsimp -zeta only; rotate_left; intro hj; clear_value j)
    | (extract_lets -underBinder +onlyGivenNames j; refine jpcut0 (j := j) ?_ ?_; subst j; rotate_left; intro hj; clear_value j)
    | (extract_lets -underBinder +onlyGivenNames j; clear_value j)
    | split
    | (dsimp only; skip)))
theorem loc_min (a : Array TypeId) (t : TypeId) (args : Array Value) : Loc P B (fun _ => True) (Builtin.min_ a t args) := by
  unfold Builtin.min_
  split
  · exact loc_stuck _
  · exact loc_foldlMList (fun b a => loc_min2 b a) _ _
theorem loc_len (a : Array TypeId) (t : TypeId) (args : Array Value) : Loc P B (fun _ => True) (Builtin.len_ a t args) := by
  unfold Builtin.len_
  split
  · refine Loc.bind (loc_underlying _) fun d _ => ?_
    split
    · (repeat' (first
    | assumption
    | exact Loc.pure trivial
    | exact Loc.halt trivial
    | exact loc_stuck _
    | exact loc_unsupported _
    | exact loc_goPanic _
    | exact Loc.load _
    | exact Loc.store _ _
    | exact Loc.freeze _ _
    | exact Loc.frozen _
    | exact Loc.choose _
    | exact Loc.mono (Loc.shape _) (fun _ _ => trivial)
    | exact Loc.mono (Loc.newObj _) (fun _ _ => trivial)
    | exact Loc.mono Loc.program (fun _ _ => trivial)
    | exact loc_typeInfo _
    | exact loc_underlying _
    | exact loc_zeroValue _
    | exact loc_sizeOf _
    | exact loc_loadCells _ _
    | exact loc_storeCells _ _ _
    | exact loc_newRow _ _
    | exact loc_elemOf _
    | exact loc_part _ _ _
    | exact loc_runtimePanic _
    | exact loc_asInt _
    | exact loc_asBool _
    | exact loc_askRoom _
    | exact loc_markStringish _
    | exact loc_sameAddr _ _
    | exact loc_samePointer _ _
    | exact loc_byteOf _
    | exact loc_variablesAt _ _ _
    | exact loc_loadBytes _ _ _
    | exact Loc.mark trivial
    | exact loc_intArith _ _ _ _
    | exact loc_intDiv _ _ _ _
    | exact loc_intBits _ _ _ _
    | exact loc_intCmp _ _ _
    | exact loc_shift _ _ _ _ _
    | exact loc_floatArith _ _ _ _
    | exact loc_floatCmp _ _ _ _
    | exact loc_stringOp _ _ _
    | exact loc_unary _ _
    | apply_assumption -exfalso -symm
    | refine Loc.bind (Loc.load _) ?_
    | refine Loc.bind (Loc.store _ _) ?_
    | refine Loc.bind Loc.program ?_
    | refine Loc.bind (Loc.shape _) ?_
    | refine Loc.bind (Loc.newObj _) ?_
    | refine Loc.bind (Loc.choose _) ?_
    | refine Loc.bind (loc_typeInfo _) ?_
    | refine Loc.bind (loc_underlying _) ?_
    | refine Loc.bind (loc_zeroValue _) ?_
    | refine Loc.bind (loc_sizeOf _) ?_
    | refine Loc.bind (loc_loadCells _ _) ?_
    | refine Loc.bind (loc_storeCells _ _ _) ?_
    | refine Loc.bind (loc_newRow _ _) ?_
    | refine Loc.bind (loc_elemOf _) ?_
    | refine Loc.bind (loc_part _ _ _) ?_
    | refine Loc.bind (loc_runtimePanic _) ?_
    | refine Loc.bind (loc_asInt _) ?_
    | refine Loc.bind (loc_asBool _) ?_
    | refine Loc.bind (loc_askRoom _) ?_
    | refine Loc.bind (loc_markStringish _) ?_
    | refine Loc.bind (loc_sameAddr _ _) ?_
    | refine Loc.bind (loc_samePointer _ _) ?_
    | refine Loc.bind (loc_byteOf _) ?_
    | refine Loc.bind (loc_variablesAt _ _ _) ?_
    | refine Loc.bind (loc_loadBytes _ _ _) ?_
    | refine Loc.bind (Loc.mark trivial) ?_
    | refine Loc.bind (loc_intArith _ _ _ _) ?_
    | refine Loc.bind (loc_intDiv _ _ _ _) ?_
    | refine Loc.bind (loc_intBits _ _ _ _) ?_
    | refine Loc.bind (loc_intCmp _ _ _) ?_
    | refine Loc.bind (loc_shift _ _ _ _ _) ?_
    | refine Loc.bind (loc_floatArith _ _ _ _) ?_
    | refine Loc.bind (loc_floatCmp _ _ _ _) ?_
    | refine Loc.bind (loc_stringOp _ _ _) ?_
    | refine Loc.bind (loc_unary _ _) ?_
    | refine Loc.bind (Q' := fun _ => True) ?_ ?_
    | (intro _ _; skip)
    | (extract_lets -underBinder +onlyGivenNames j; refine jpcut (j := j) ?_ ?_; intro u; subst j; dsimp -zeta only; rotate_left; intro hj; clear_value j)
    | (extract_lets -underBinder +onlyGivenNames j; refine jpcut0 (j := j) ?_ ?_; subst j; rotate_left; intro hj; clear_value j)
    | (extract_lets -underBinder +onlyGivenNames j; clear_value j)
    | split
    | (dsimp only; skip)))
    · (repeat' (first
    | assumption
    | exact Loc.pure trivial
    | exact Loc.halt trivial
    | exact loc_stuck _
    | exact loc_unsupported _
    | exact loc_goPanic _
    | exact Loc.load _
    | exact Loc.store _ _
    | exact Loc.freeze _ _
    | exact Loc.frozen _
    | exact Loc.choose _
    | exact Loc.mono (Loc.shape _) (fun _ _ => trivial)
    | exact Loc.mono (Loc.newObj _) (fun _ _ => trivial)
    | exact Loc.mono Loc.program (fun _ _ => trivial)
    | exact loc_typeInfo _
    | exact loc_underlying _
    | exact loc_zeroValue _
    | exact loc_sizeOf _
    | exact loc_loadCells _ _
    | exact loc_storeCells _ _ _
    | exact loc_newRow _ _
    | exact loc_elemOf _
    | exact loc_part _ _ _
    | exact loc_runtimePanic _
    | exact loc_asInt _
    | exact loc_asBool _
    | exact loc_askRoom _
    | exact loc_markStringish _
    | exact loc_sameAddr _ _
    | exact loc_samePointer _ _
    | exact loc_byteOf _
    | exact loc_variablesAt _ _ _
    | exact loc_loadBytes _ _ _
    | exact Loc.mark trivial
    | exact loc_intArith _ _ _ _
    | exact loc_intDiv _ _ _ _
    | exact loc_intBits _ _ _ _
    | exact loc_intCmp _ _ _
    | exact loc_shift _ _ _ _ _
    | exact loc_floatArith _ _ _ _
    | exact loc_floatCmp _ _ _ _
    | exact loc_stringOp _ _ _
    | exact loc_unary _ _
    | apply_assumption -exfalso -symm
    | refine Loc.bind (Loc.load _) ?_
    | refine Loc.bind (Loc.store _ _) ?_
    | refine Loc.bind Loc.program ?_
    | refine Loc.bind (Loc.shape _) ?_
    | refine Loc.bind (Loc.newObj _) ?_
    | refine Loc.bind (Loc.choose _) ?_
    | refine Loc.bind (loc_typeInfo _) ?_
    | refine Loc.bind (loc_underlying _) ?_
    | refine Loc.bind (loc_zeroValue _) ?_
    | refine Loc.bind (loc_sizeOf _) ?_
    | refine Loc.bind (loc_loadCells _ _) ?_
    | refine Loc.bind (loc_storeCells _ _ _) ?_
    | refine Loc.bind (loc_newRow _ _) ?_
    | refine Loc.bind (loc_elemOf _) ?_
    | refine Loc.bind (loc_part _ _ _) ?_
    | refine Loc.bind (loc_runtimePanic _) ?_
    | refine Loc.bind (loc_asInt _) ?_
    | refine Loc.bind (loc_asBool _) ?_
    | refine Loc.bind (loc_askRoom _) ?_
    | refine Loc.bind (loc_markStringish _) ?_
    | refine Loc.bind (loc_sameAddr _ _) ?_
    | refine Loc.bind (loc_samePointer _ _) ?_
    | refine Loc.bind (loc_byteOf _) ?_
    | refine Loc.bind (loc_variablesAt _ _ _) ?_
    | refine Loc.bind (loc_loadBytes _ _ _) ?_
    | refine Loc.bind (Loc.mark trivial) ?_
    | refine Loc.bind (loc_intArith _ _ _ _) ?_
    | refine Loc.bind (loc_intDiv _ _ _ _) ?_
    | refine Loc.bind (loc_intBits _ _ _ _) ?_
    | refine Loc.bind (loc_intCmp _ _ _) ?_
    | refine Loc.bind (loc_shift _ _ _ _ _) ?_
    | refine Loc.bind (loc_floatArith _ _ _ _) ?_
    | refine Loc.bind (loc_floatCmp _ _ _ _) ?_
    | refine Loc.bind (loc_stringOp _ _ _) ?_
    | refine Loc.bind (loc_unary _ _) ?_
    | refine Loc.bind (Q' := fun _ => True) ?_ ?_
    | (intro _ _; skip)
    | (extract_lets -underBinder +onlyGivenNames j; refine jpcut (j := j) ?_ ?_; intro u; subst j; dsimp -zeta only; rotate_left; intro hj; clear_value j)
    | (extract_lets -underBinder +onlyGivenNames j; refine jpcut0 (j := j) ?_ ?_; subst j; rotate_left; intro hj; clear_value j)
    | (extract_lets -underBinder +onlyGivenNames j; clear_value j)
    | split
    | (dsimp only; skip)))
    · (repeat' (first
    | assumption
    | exact Loc.pure trivial
    | exact Loc.halt trivial
    | exact loc_stuck _
    | exact loc_unsupported _
    | exact loc_goPanic _
    | exact Loc.load _
    | exact Loc.store _ _
    | exact Loc.freeze _ _
    | exact Loc.frozen _
    | exact Loc.choose _
    | exact Loc.mono (Loc.shape _) (fun _ _ => trivial)
    | exact Loc.mono (Loc.newObj _) (fun _ _ => trivial)
    | exact Loc.mono Loc.program (fun _ _ => trivial)
    | exact loc_typeInfo _
    | exact loc_underlying _
    | exact loc_zeroValue _
    | exact loc_sizeOf _
    | exact loc_loadCells _ _
    | exact loc_storeCells _ _ _
    | exact loc_newRow _ _
    | exact loc_elemOf _
    | exact loc_part _ _ _
    | exact loc_runtimePanic _
    | exact loc_asInt _
    | exact loc_asBool _
    | exact loc_askRoom _
    | exact loc_markStringish _
    | exact loc_sameAddr _ _
    | exact loc_samePointer _ _
    | exact loc_byteOf _
    | exact loc_variablesAt _ _ _
    | exact loc_loadBytes _ _ _
    | exact Loc.mark trivial
    | exact loc_intArith _ _ _ _
    | exact loc_intDiv _ _ _ _
    | exact loc_intBits _ _ _ _
    | exact loc_intCmp _ _ _
    | exact loc_shift _ _ _ _ _
    | exact loc_floatArith _ _ _ _
    | exact loc_floatCmp _ _ _ _
    | exact loc_stringOp _ _ _
    | exact loc_unary _ _
    | apply_assumption -exfalso -symm
    | refine Loc.bind (Loc.load _) ?_
    | refine Loc.bind (Loc.store _ _) ?_
    | refine Loc.bind Loc.program ?_
    | refine Loc.bind (Loc.shape _) ?_
    | refine Loc.bind (Loc.newObj _) ?_
    | refine Loc.bind (Loc.choose _) ?_
    | refine Loc.bind (loc_typeInfo _) ?_
    | refine Loc.bind (loc_underlying _) ?_
    | refine Loc.bind (loc_zeroValue _) ?_
    | refine Loc.bind (loc_sizeOf _) ?_
    | refine Loc.bind (loc_loadCells _ _) ?_
    | refine Loc.bind (loc_storeCells _ _ _) ?_
    | refine Loc.bind (loc_newRow _ _) ?_
    | refine Loc.bind (loc_elemOf _) ?_
    | refine Loc.bind (loc_part _ _ _) ?_
    | refine Loc.bind (loc_runtimePanic _) ?_
    | refine Loc.bind (loc_asInt _) ?_
    | refine Loc.bind (loc_asBool _) ?_
    | refine Loc.bind (loc_askRoom _) ?_
    | refine Loc.bind (loc_markStringish _) ?_
    | refine Loc.bind (loc_sameAddr _ _) ?_
    | refine Loc.bind (loc_samePointer _ _) ?_
    | refine Loc.bind (loc_byteOf _) ?_
    | refine Loc.bind (loc_variablesAt _ _ _) ?_
    | refine Loc.bind (loc_loadBytes _ _ _) ?_
    | refine Loc.bind (Loc.mark trivial) ?_
    | refine Loc.bind (loc_intArith _ _ _ _) ?_
    | refine Loc.bind (loc_intDiv _ _ _ _) ?_
    | refine Loc.bind (loc_intBits _ _ _ _) ?_
    | refine Loc.bind (loc_intCmp _ _ _) ?_
    | refine Loc.bind (loc_shift _ _ _ _ _) ?_
    | refine Loc.bind (loc_floatArith _ _ _ _) ?_
    | refine Loc.bind (loc_floatCmp _ _ _ _) ?_
    | refine Loc.bind (loc_stringOp _ _ _) ?_
    | refine Loc.bind (loc_unary _ _) ?_
    | refine Loc.bind (Q' := fun _ => True) ?_ ?_
    | (intro _ _; skip)
    | (extract_lets -underBinder +onlyGivenNames j; refine jpcut (j := j) ?_ ?_; intro u; subst j; dsimp -zeta only; rotate_left; intro hj; clear_value j)
    | (extract_lets -underBinder +onlyGivenNames j; refine jpcut0 (j := j) ?_ ?_; subst j; rotate_left; intro hj; clear_value j)
    | (extract_lets -underBinder +onlyGivenNames j; clear_value j)
    | split
    | (dsimp only; skip)))
    · (repeat' (first
    | assumption
    | exact Loc.pure trivial
    | exact Loc.halt trivial
    | exact loc_stuck _
    | exact loc_unsupported _
    | exact loc_goPanic _
    | exact Loc.load _
    | exact Loc.store _ _
    | exact Loc.freeze _ _
    | exact Loc.frozen _
    | exact Loc.choose _
    | exact Loc.mono (Loc.shape _) (fun _ _ => trivial)
    | exact Loc.mono (Loc.newObj _) (fun _ _ => trivial)
    | exact Loc.mono Loc.program (fun _ _ => trivial)
    | exact loc_typeInfo _
    | exact loc_underlying _
    | exact loc_zeroValue _
    | exact loc_sizeOf _
    | exact loc_loadCells _ _
    | exact loc_storeCells _ _ _
    | exact loc_newRow _ _
    | exact loc_elemOf _
    | exact loc_part _ _ _
    | exact loc_runtimePanic _
    | exact loc_asInt _
    | exact loc_asBool _
    | exact loc_askRoom _
    | exact loc_markStringish _
    | exact loc_sameAddr _ _
    | exact loc_samePointer _ _
    | exact loc_byteOf _
    | exact loc_variablesAt _ _ _
    | exact loc_loadBytes _ _ _
    | exact Loc.mark trivial
    | exact loc_intArith _ _ _ _
    | exact loc_intDiv _ _ _ _
    | exact loc_intBits _ _ _ _
    | exact loc_intCmp _ _ _
    | exact loc_shift _ _ _ _ _
    | exact loc_floatArith _ _ _ _
    | exact loc_floatCmp _ _ _ _
    | exact loc_stringOp _ _ _
    | exact loc_unary _ _
    | apply_assumption -exfalso -symm
    | refine Loc.bind (Loc.load _) ?_
    | refine Loc.bind (Loc.store _ _) ?_
    | refine Loc.bind Loc.program ?_
    | refine Loc.bind (Loc.shape _) ?_
    | refine Loc.bind (Loc.newObj _) ?_
    | refine Loc.bind (Loc.choose _) ?_
    | refine Loc.bind (loc_typeInfo _) ?_
    | refine Loc.bind (loc_underlying _) ?_
    | refine Loc.bind (loc_zeroValue _) ?_
    | refine Loc.bind (loc_sizeOf _) ?_
    | refine Loc.bind (loc_loadCells _ _) ?_
    | refine Loc.bind (loc_storeCells _ _ _) ?_
    | refine Loc.bind (loc_newRow _ _) ?_
    | refine Loc.bind (loc_elemOf _) ?_
    | refine Loc.bind (loc_part _ _ _) ?_
    | refine Loc.bind (loc_runtimePanic _) ?_
    | refine Loc.bind (loc_asInt _) ?_
    | refine Loc.bind (loc_asBool _) ?_
    | refine Loc.bind (loc_askRoom _) ?_
    | refine Loc.bind (loc_markStringish _) ?_
    | refine Loc.bind (loc_sameAddr _ _) ?_
    | refine Loc.bind (loc_samePointer _ _) ?_
    | refine Loc.bind (loc_byteOf _) ?_
    | refine Loc.bind (loc_variablesAt _ _ _) ?_
    | refine Loc.bind (loc_loadBytes _ _ _) ?_
    | refine Loc.bind (Loc.mark trivial) ?_
    | refine Loc.bind (loc_intArith _ _ _ _) ?_
    | refine Loc.bind (loc_intDiv _ _ _ _) ?_
    | refine Loc.bind (loc_intBits _ _ _ _) ?_
    | refine Loc.bind (loc_intCmp _ _ _) ?_
    | refine Loc.bind (loc_shift _ _ _ _ _) ?_
    | refine Loc.bind (loc_floatArith _ _ _ _) ?_
    | refine Loc.bind (loc_floatCmp _ _ _ _) ?_
    | refine Loc.bind (loc_stringOp _ _ _) ?_
    | refine Loc.bind (loc_unary _ _) ?_
    | refine Loc.bind (Q' := fun _ => True) ?_ ?_
    | (intro _ _; skip)
    | (extract_lets -underBinder +onlyGivenNames j; refine jpcut (j := j) ?_ ?_; intro u; subst j; dsimp -zeta only; rotate_left; intro hj; clear_value j)
    | (extract_lets -underBinder +onlyGivenNames j; refine jpcut0 (j := j) ?_ ?_; subst j; rotate_left; intro hj; clear_value j)
    | (extract_lets -underBinder +onlyGivenNames j; clear_value j)
    | split
    | (dsimp only; skip)))
    · (repeat' (first
    | assumption
    | exact Loc.pure trivial
    | exact Loc.halt trivial
    | exact loc_stuck _
    | exact loc_unsupported _
    | exact loc_goPanic _
    | exact Loc.load _
    | exact Loc.store _ _
    | exact Loc.freeze _ _
    | exact Loc.frozen _
    | exact Loc.choose _
    | exact Loc.mono (Loc.shape _) (fun _ _ => trivial)
    | exact Loc.mono (Loc.newObj _) (fun _ _ => trivial)
    | exact Loc.mono Loc.program (fun _ _ => trivial)
    | exact loc_typeInfo _
    | exact loc_underlying _
    | exact loc_zeroValue _
    | exact loc_sizeOf _
    | exact loc_loadCells _ _
    | exact loc_storeCells _ _ _
    | exact loc_newRow _ _
    | exact loc_elemOf _
    | exact loc_part _ _ _
    | exact loc_runtimePanic _
    | exact loc_asInt _
    | exact loc_asBool _
    | exact loc_askRoom _
    | exact loc_markStringish _
    | exact loc_sameAddr _ _
    | exact loc_samePointer _ _
    | exact loc_byteOf _
    | exact loc_variablesAt _ _ _
    | exact loc_loadBytes _ _ _
    | exact Loc.mark trivial
    | exact loc_intArith _ _ _ _
    | exact loc_intDiv _ _ _ _
    | exact loc_intBits _ _ _ _
    | exact loc_intCmp _ _ _
    | exact loc_shift _ _ _ _ _
    | exact loc_floatArith _ _ _ _
    | exact loc_floatCmp _ _ _ _
    | exact loc_stringOp _ _ _
    | exact loc_unary _ _
    | apply_assumption -exfalso -symm
    | refine Loc.bind (Loc.load _) ?_
    | refine Loc.bind (Loc.store _ _) ?_
    | refine Loc.bind Loc.program ?_
    | refine Loc.bind (Loc.shape _) ?_
    | refine Loc.bind (Loc.newObj _) ?_
    | refine Loc.bind (Loc.choose _) ?_
    | refine Loc.bind (loc_typeInfo _) ?_
    | refine Loc.bind (loc_underlying _) ?_
    | refine Loc.bind (loc_zeroValue _) ?_
    | refine Loc.bind (loc_sizeOf _) ?_
    | refine Loc.bind (loc_loadCells _ _) ?_
    | refine Loc.bind (loc_storeCells _ _ _) ?_
    | refine Loc.bind (loc_newRow _ _) ?_
    | refine Loc.bind (loc_elemOf _) ?_
    | refine Loc.bind (loc_part _ _ _) ?_
    | refine Loc.bind (loc_runtimePanic _) ?_
    | refine Loc.bind (loc_asInt _) ?_
    | refine Loc.bind (loc_asBool _) ?_
    | refine Loc.bind (loc_askRoom _) ?_
    | refine Loc.bind (loc_markStringish _) ?_
    | refine Loc.bind (loc_sameAddr _ _) ?_
    | refine Loc.bind (loc_samePointer _ _) ?_
    | refine Loc.bind (loc_byteOf _) ?_
    | refine Loc.bind (loc_variablesAt _ _ _) ?_
    | refine Loc.bind (loc_loadBytes _ _ _) ?_
    | refine Loc.bind (Loc.mark trivial) ?_
    | refine Loc.bind (loc_intArith _ _ _ _) ?_
    | refine Loc.bind (loc_intDiv _ _ _ _) ?_
    | refine Loc.bind (loc_intBits _ _ _ _) ?_
    | refine Loc.bind (loc_intCmp _ _ _) ?_
    | refine Loc.bind (loc_shift _ _ _ _ _) ?_
    | refine Loc.bind (loc_floatArith _ _ _ _) ?_
    | refine Loc.bind (loc_floatCmp _ _ _ _) ?_
    | refine Loc.bind (loc_stringOp _ _ _) ?_
    | refine Loc.bind (loc_unary _ _) ?_
    | refine Loc.bind (Q' := fun _ => True) ?_ ?_
    | (intro _ _; skip)
    | (extract_lets -underBinder +onlyGivenNames j; refine jpcut (j := j) ?_ ?_; intro u; subst j; dsimp -zeta only; rotate_left; intro hj; clear_value j)
    | (extract_lets -underBinder +onlyGivenNames j; refine jpcut0 (j := j) ?_ ?_; subst j; rotate_left; intro hj; clear_value j)
    | (extract_lets -underBinder +onlyGivenNames j; clear_value j)
    | split
    | (dsimp only; skip)))
    · (repeat' (first
    | assumption
    | exact Loc.pure trivial
    | exact Loc.halt trivial
    | exact loc_stuck _
    | exact loc_unsupported _
    | exact loc_goPanic _
    | exact Loc.load _
    | exact Loc.store _ _
    | exact Loc.freeze _ _
    | exact Loc.frozen _
    | exact Loc.choose _
    | exact Loc.mono (Loc.shape _) (fun _ _ => trivial)
    | exact Loc.mono (Loc.newObj _) (fun _ _ => trivial)
    | exact Loc.mono Loc.program (fun _ _ => trivial)
    | exact loc_typeInfo _
    | exact loc_underlying _
    | exact loc_zeroValue _
    | exact loc_sizeOf _
    | exact loc_loadCells _ _
    | exact loc_storeCells _ _ _
    | exact loc_newRow _ _
    | exact loc_elemOf _
    | exact loc_part _ _ _
    | exact loc_runtimePanic _
    | exact loc_asInt _
    | exact loc_asBool _
    | exact loc_askRoom _
    | exact loc_markStringish _
    | exact loc_sameAddr _ _
    | exact loc_samePointer _ _
    | exact loc_byteOf _
    | exact loc_variablesAt _ _ _
    | exact loc_loadBytes _ _ _
    | exact Loc.mark trivial
    | exact loc_intArith _ _ _ _
    | exact loc_intDiv _ _ _ _
    | exact loc_intBits _ _ _ _
    | exact loc_intCmp _ _ _
    | exact loc_shift _ _ _ _ _
    | exact loc_floatArith _ _ _ _
    | exact loc_floatCmp _ _ _ _
    | exact loc_stringOp _ _ _
    | exact loc_unary _ _
    | apply_assumption -exfalso -symm
    | refine Loc.bind (Loc.load _) ?_
    | refine Loc.bind (Loc.store _ _) ?_
    | refine Loc.bind Loc.program ?_
    | refine Loc.bind (Loc.shape _) ?_
    | refine Loc.bind (Loc.newObj _) ?_
    | refine Loc.bind (Loc.choose _) ?_
    | refine Loc.bind (loc_typeInfo _) ?_
    | refine Loc.bind (loc_underlying _) ?_
    | refine Loc.bind (loc_zeroValue _) ?_
    | refine Loc.bind (loc_sizeOf _) ?_
    | refine Loc.bind (loc_loadCells _ _) ?_
    | refine Loc.bind (loc_storeCells _ _ _) ?_
    | refine Loc.bind (loc_newRow _ _) ?_
    | refine Loc.bind (loc_elemOf _) ?_
    | refine Loc.bind (loc_part _ _ _) ?_
    | refine Loc.bind (loc_runtimePanic _) ?_
    | refine Loc.bind (loc_asInt _) ?_
    | refine Loc.bind (loc_asBool _) ?_
    | refine Loc.bind (loc_askRoom _) ?_
    | refine Loc.bind (loc_markStringish _) ?_
    | refine Loc.bind (loc_sameAddr _ _) ?_
    | refine Loc.bind (loc_samePointer _ _) ?_
    | refine Loc.bind (loc_byteOf _) ?_
    | refine Loc.bind (loc_variablesAt _ _ _) ?_
    | refine Loc.bind (loc_loadBytes _ _ _) ?_
    | refine Loc.bind (Loc.mark trivial) ?_
    | refine Loc.bind (loc_intArith _ _ _ _) ?_
    | refine Loc.bind (loc_intDiv _ _ _ _) ?_
    | refine Loc.bind (loc_intBits _ _ _ _) ?_
    | refine Loc.bind (loc_intCmp _ _ _) ?_
    | refine Loc.bind (loc_shift _ _ _ _ _) ?_
    | refine Loc.bind (loc_floatArith _ _ _ _) ?_
    | refine Loc.bind (loc_floatCmp _ _ _ _) ?_
    | refine Loc.bind (loc_stringOp _ _ _) ?_
    | refine Loc.bind (loc_unary _ _) ?_
    | refine Loc.bind (Q' := fun _ => True) ?_ ?_
    | (intro _ _; skip)
    | (extract_lets -underBinder +onlyGivenNames j; refine jpcut (j := j) ?_ ?_; intro u; subst j; dsimp -zeta only; rotate_left; intro hj; clear_value j)
    | (extract_lets -underBinder +onlyGivenNames j; refine jpcut0 (j := j) ?_ ?_; subst j; rotate_left; intro hj; clear_value j)
    | (extract_lets -underBinder +onlyGivenNames j; clear_value j)
    | split
    | (dsimp only; skip)))
    · exact Loc.getObj (fun _ => dead_stuck _) fun o _ => by (repeat' (first
    | assumption
    | exact Loc.pure trivial
    | exact Loc.halt trivial
    | exact loc_stuck _
    | exact loc_unsupported _
    | exact loc_goPanic _
    | exact Loc.load _
    | exact Loc.store _ _
    | exact Loc.freeze _ _
    | exact Loc.frozen _
    | exact Loc.choose _
    | exact Loc.mono (Loc.shape _) (fun _ _ => trivial)
    | exact Loc.mono (Loc.newObj _) (fun _ _ => trivial)
    | exact Loc.mono Loc.program (fun _ _ => trivial)
    | exact loc_typeInfo _
    | exact loc_underlying _
    | exact loc_zeroValue _
    | exact loc_sizeOf _
    | exact loc_loadCells _ _
    | exact loc_storeCells _ _ _
    | exact loc_newRow _ _
    | exact loc_elemOf _
    | exact loc_part _ _ _
    | exact loc_runtimePanic _
    | exact loc_asInt _
    | exact loc_asBool _
    | exact loc_askRoom _
    | exact loc_markStringish _
    | exact loc_sameAddr _ _
    | exact loc_samePointer _ _
    | exact loc_byteOf _
    | exact loc_variablesAt _ _ _
    | exact loc_loadBytes _ _ _
    | exact Loc.mark trivial
    | exact loc_intArith _ _ _ _
    | exact loc_intDiv _ _ _ _
    | exact loc_intBits _ _ _ _
    | exact loc_intCmp _ _ _
    | exact loc_shift _ _ _ _ _
    | exact loc_floatArith _ _ _ _
    | exact loc_floatCmp _ _ _ _
    | exact loc_stringOp _ _ _
    | exact loc_unary _ _
    | apply_assumption -exfalso -symm
    | refine Loc.bind (Loc.load _) ?_
    | refine Loc.bind (Loc.store _ _) ?_
    | refine Loc.bind Loc.program ?_
    | refine Loc.bind (Loc.shape _) ?_
    | refine Loc.bind (Loc.newObj _) ?_
    | refine Loc.bind (Loc.choose _) ?_
    | refine Loc.bind (loc_typeInfo _) ?_
    | refine Loc.bind (loc_underlying _) ?_
    | refine Loc.bind (loc_zeroValue _) ?_
    | refine Loc.bind (loc_sizeOf _) ?_
    | refine Loc.bind (loc_loadCells _ _) ?_
    | refine Loc.bind (loc_storeCells _ _ _) ?_
    | refine Loc.bind (loc_newRow _ _) ?_
    | refine Loc.bind (loc_elemOf _) ?_
    | refine Loc.bind (loc_part _ _ _) ?_
    | refine Loc.bind (loc_runtimePanic _) ?_
    | refine Loc.bind (loc_asInt _) ?_
    | refine Loc.bind (loc_asBool _) ?_
    | refine Loc.bind (loc_askRoom _) ?_
    | refine Loc.bind (loc_markStringish _) ?_
    | refine Loc.bind (loc_sameAddr _ _) ?_
    | refine Loc.bind (loc_samePointer _ _) ?_
    | refine Loc.bind (loc_byteOf _) ?_
    | refine Loc.bind (loc_variablesAt _ _ _) ?_
    | refine Loc.bind (loc_loadBytes _ _ _) ?_
    | refine Loc.bind (Loc.mark trivial) ?_
    | refine Loc.bind (loc_intArith _ _ _ _) ?_
    | refine Loc.bind (loc_intDiv _ _ _ _) ?_
    | refine Loc.bind (loc_intBits _ _ _ _) ?_
    | refine Loc.bind (loc_intCmp _ _ _) ?_
    | refine Loc.bind (loc_shift _ _ _ _ _) ?_
    | refine Loc.bind (loc_floatArith _ _ _ _) ?_
    | refine Loc.bind (loc_floatCmp _ _ _ _) ?_
    | refine Loc.bind (loc_stringOp _ _ _) ?_
    | refine Loc.bind (loc_unary _ _) ?_
    | refine Loc.bind (Q' := fun _ => True) ?_ ?_
    | (intro _ _; skip)
    | (extract_lets -underBinder +onlyGivenNames j; refine jpcut (j := j) ?_ ?_; intro u; subst j; dsimp -zeta only; rotate_left; intro hj; clear_value j)
    | (extract_lets -underBinder +onlyGivenNames j; refine jpcut0 (j := j) ?_ ?_; subst j; rotate_left; intro hj; clear_value j)
    | (extract_lets -underBinder +onlyGivenNames j; clear_value j)
    | split
    | (dsimp only; skip)))
    · exact Loc.getObj (fun _ => dead_stuck _) fun o _ => by (repeat' (first
    | assumption
    | exact Loc.pure trivial
    | exact Loc.halt trivial
    | exact loc_stuck _
    | exact loc_unsupported _
    | exact loc_goPanic _
    | exact Loc.load _
    | exact Loc.store _ _
    | exact Loc.freeze _ _
    | exact Loc.frozen _
    | exact Loc.choose _
    | exact Loc.mono (Loc.shape _) (fun _ _ => trivial)
    | exact Loc.mono (Loc.newObj _) (fun _ _ => trivial)
    | exact Loc.mono Loc.program (fun _ _ => trivial)
    | exact loc_typeInfo _
    | exact loc_underlying _
    | exact loc_zeroValue _
    | exact loc_sizeOf _
    | exact loc_loadCells _ _
    | exact loc_storeCells _ _ _
    | exact loc_newRow _ _
    | exact loc_elemOf _
    | exact loc_part _ _ _
    | exact loc_runtimePanic _
    | exact loc_asInt _
    | exact loc_asBool _
    | exact loc_askRoom _
    | exact loc_markStringish _
    | exact loc_sameAddr _ _
    | exact loc_samePointer _ _
    | exact loc_byteOf _
    | exact loc_variablesAt _ _ _
    | exact loc_loadBytes _ _ _
    | exact Loc.mark trivial
    | exact loc_intArith _ _ _ _
    | exact loc_intDiv _ _ _ _
    | exact loc_intBits _ _ _ _
    | exact loc_intCmp _ _ _
    | exact loc_shift _ _ _ _ _
    | exact loc_floatArith _ _ _ _
    | exact loc_floatCmp _ _ _ _
    | exact loc_stringOp _ _ _
    | exact loc_unary _ _
    | apply_assumption -exfalso -symm
    | refine Loc.bind (Loc.load _) ?_
    | refine Loc.bind (Loc.store _ _) ?_
    | refine Loc.bind Loc.program ?_
    | refine Loc.bind (Loc.shape _) ?_
    | refine Loc.bind (Loc.newObj _) ?_
    | refine Loc.bind (Loc.choose _) ?_
    | refine Loc.bind (loc_typeInfo _) ?_
    | refine Loc.bind (loc_underlying _) ?_
    | refine Loc.bind (loc_zeroValue _) ?_
    | refine Loc.bind (loc_sizeOf _) ?_
    | refine Loc.bind (loc_loadCells _ _) ?_
    | refine Loc.bind (loc_storeCells _ _ _) ?_
    | refine Loc.bind (loc_newRow _ _) ?_
    | refine Loc.bind (loc_elemOf _) ?_
    | refine Loc.bind (loc_part _ _ _) ?_
    | refine Loc.bind (loc_runtimePanic _) ?_
    | refine Loc.bind (loc_asInt _) ?_
    | refine Loc.bind (loc_asBool _) ?_
    | refine Loc.bind (loc_askRoom _) ?_
    | refine Loc.bind (loc_markStringish _) ?_
    | refine Loc.bind (loc_sameAddr _ _) ?_
    | refine Loc.bind (loc_samePointer _ _) ?_
    | refine Loc.bind (loc_byteOf _) ?_
    | refine Loc.bind (loc_variablesAt _ _ _) ?_
    | refine Loc.bind (loc_loadBytes _ _ _) ?_
    | refine Loc.bind (Loc.mark trivial) ?_
    | refine Loc.bind (loc_intArith _ _ _ _) ?_
    | refine Loc.bind (loc_intDiv _ _ _ _) ?_
    | refine Loc.bind (loc_intBits _ _ _ _) ?_
    | refine Loc.bind (loc_intCmp _ _ _) ?_
    | refine Loc.bind (loc_shift _ _ _ _ _) ?_
    | refine Loc.bind (loc_floatArith _ _ _ _) ?_
    | refine Loc.bind (loc_floatCmp _ _ _ _) ?_
    | refine Loc.bind (loc_stringOp _ _ _) ?_
    | refine Loc.bind (loc_unary _ _) ?_
    | refine Loc.bind (Q' := fun _ => True) ?_ ?_
    | (intro _ _; skip)
    | (extract_lets -underBinder +onlyGivenNames j; refine jpcut (j := j) ?_ ?_; intro u; subst j; dsimp -zeta only; rotate_left; intro hj; clear_value j)
    | (extract_lets -underBinder +onlyGivenNames j; refine jpcut0 (j := j) ?_ ?_; subst j; rotate_left; intro hj; clear_value j)
    | (extract_lets -underBinder +onlyGivenNames j; clear_value j)
    | split
    | (dsimp only; skip)))
    · (repeat' (first
    | assumption
    | exact Loc.pure trivial
    | exact Loc.halt trivial
    | exact loc_stuck _
    | exact loc_unsupported _
    | exact loc_goPanic _
    | exact Loc.load _
    | exact Loc.store _ _
    | exact Loc.freeze _ _
    | exact Loc.frozen _
    | exact Loc.choose _
    | exact Loc.mono (Loc.shape _) (fun _ _ => trivial)
    | exact Loc.mono (Loc.newObj _) (fun _ _ => trivial)
    | exact Loc.mono Loc.program (fun _ _ => trivial)
    | exact loc_typeInfo _
    | exact loc_underlying _
    | exact loc_zeroValue _
    | exact loc_sizeOf _
    | exact loc_loadCells _ _
    | exact loc_storeCells _ _ _
    | exact loc_newRow _ _
    | exact loc_elemOf _
    | exact loc_part _ _ _
    | exact loc_runtimePanic _
    | exact loc_asInt _
    | exact loc_asBool _
    | exact loc_askRoom _
    | exact loc_markStringish _
    | exact loc_sameAddr _ _
    | exact loc_samePointer _ _
    | exact loc_byteOf _
    | exact loc_variablesAt _ _ _
    | exact loc_loadBytes _ _ _
    | exact Loc.mark trivial
    | exact loc_intArith _ _ _ _
    | exact loc_intDiv _ _ _ _
    | exact loc_intBits _ _ _ _
    | exact loc_intCmp _ _ _
    | exact loc_shift _ _ _ _ _
    | exact loc_floatArith _ _ _ _
    | exact loc_floatCmp _ _ _ _
    | exact loc_stringOp _ _ _
    | exact loc_unary _ _
    | apply_assumption -exfalso -symm
    | refine Loc.bind (Loc.load _) ?_
    | refine Loc.bind (Loc.store _ _) ?_
    | refine Loc.bind Loc.program ?_
    | refine Loc.bind (Loc.shape _) ?_
    | refine Loc.bind (Loc.newObj _) ?_
    | refine Loc.bind (Loc.choose _) ?_
    | refine Loc.bind (loc_typeInfo _) ?_
    | refine Loc.bind (loc_underlying _) ?_
    | refine Loc.bind (loc_zeroValue _) ?_
    | refine Loc.bind (loc_sizeOf _) ?_
    | refine Loc.bind (loc_loadCells _ _) ?_
    | refine Loc.bind (loc_storeCells _ _ _) ?_
    | refine Loc.bind (loc_newRow _ _) ?_
    | refine Loc.bind (loc_elemOf _) ?_
    | refine Loc.bind (loc_part _ _ _) ?_
    | refine Loc.bind (loc_runtimePanic _) ?_
    | refine Loc.bind (loc_asInt _) ?_
    | refine Loc.bind (loc_asBool _) ?_
    | refine Loc.bind (loc_askRoom _) ?_
    | refine Loc.bind (loc_markStringish _) ?_
    | refine Loc.bind (loc_sameAddr _ _) ?_
    | refine Loc.bind (loc_samePointer _ _) ?_
    | refine Loc.bind (loc_byteOf _) ?_
    | refine Loc.bind (loc_variablesAt _ _ _) ?_
    | refine Loc.bind (loc_loadBytes _ _ _) ?_
    | refine Loc.bind (Loc.mark trivial) ?_
    | refine Loc.bind (loc_intArith _ _ _ _) ?_
    | refine Loc.bind (loc_intDiv _ _ _ _) ?_
    | refine Loc.bind (loc_intBits _ _ _ _) ?_
    | refine Loc.bind (loc_intCmp _ _ _) ?_
    | refine Loc.bind (loc_shift _ _ _ _ _) ?_
    | refine Loc.bind (loc_floatArith _ _ _ _) ?_
    | refine Loc.bind (loc_floatCmp _ _ _ _) ?_
    | refine Loc.bind (loc_stringOp _ _ _) ?_
    | refine Loc.bind (loc_unary _ _) ?_
    | refine Loc.bind (Q' := fun _ => True) ?_ ?_
    | (intro _ _; skip)
    | (extract_lets -underBinder +onlyGivenNames j; refine jpcut (j := j) ?_ ?_; intro u; subst j; dsimp -zeta only; rotate_left; intro hj; clear_value j)
    | (extract_lets -underBinder +onlyGivenNames j; refine jpcut0 (j := j) ?_ ?_; subst j; rotate_left; intro hj; clear_value j)
    | (extract_lets -underBinder +onlyGivenNames j; clear_value j)
    | split
    | (dsimp only; skip)))
  · exact loc_stuck _
theorem loc_holdsCells (a : Addr) (n : Nat) : Loc P B (fun _ => True) (Builtin.holdsCells a n) := by
  unfold Builtin.holdsCells
  (repeat' (first
    | assumption
    | exact Loc.pure trivial
    | exact Loc.halt trivial
    | exact loc_stuck _
    | exact loc_unsupported _
    | exact loc_goPanic _
    | exact Loc.load _
    | exact Loc.store _ _
    | exact Loc.freeze _ _
    | exact Loc.frozen _
    | exact Loc.choose _
    | exact Loc.mono (Loc.shape _) (fun _ _ => trivial)
    | exact Loc.mono (Loc.newObj _) (fun _ _ => trivial)
    | exact Loc.mono Loc.program (fun _ _ => trivial)
    | exact loc_typeInfo _
    | exact loc_underlying _
    | exact loc_zeroValue _
    | exact loc_sizeOf _
    | exact loc_loadCells _ _
    | exact loc_storeCells _ _ _
    | exact loc_newRow _ _
    | exact loc_elemOf _
    | exact loc_part _ _ _
    | exact loc_runtimePanic _
    | exact loc_asInt _
    | exact loc_asBool _
    | exact loc_askRoom _
    | exact loc_markStringish _
    | exact loc_sameAddr _ _
    | exact loc_samePointer _ _
    | exact loc_byteOf _
    | exact loc_variablesAt _ _ _
    | exact loc_loadBytes _ _ _
    | exact Loc.mark trivial
    | exact loc_intArith _ _ _ _
    | exact loc_intDiv _ _ _ _
    | exact loc_intBits _ _ _ _
    | exact loc_intCmp _ _ _
    | exact loc_shift _ _ _ _ _
    | exact loc_floatArith _ _ _ _
    | exact loc_floatCmp _ _ _ _
    | exact loc_stringOp _ _ _
    | exact loc_unary _ _
    | apply_assumption -exfalso -symm
    | refine Loc.bind (Loc.load _) ?_
    | refine Loc.bind (Loc.store _ _) ?_
    | refine Loc.bind Loc.program ?_
    | refine Loc.bind (Loc.shape _) ?_
    | refine Loc.bind (Loc.newObj _) ?_
    | refine Loc.bind (Loc.choose _) ?_
    | refine Loc.bind (loc_typeInfo _) ?_
    | refine Loc.bind (loc_underlying _) ?_
    | refine Loc.bind (loc_zeroValue _) ?_
    | refine Loc.bind (loc_sizeOf _) ?_
    | refine Loc.bind (loc_loadCells _ _) ?_
    | refine Loc.bind (loc_storeCells _ _ _) ?_
    | refine Loc.bind (loc_newRow _ _) ?_
    | refine Loc.bind (loc_elemOf _) ?_
    | refine Loc.bind (loc_part _ _ _) ?_
    | refine Loc.bind (loc_runtimePanic _) ?_
    | refine Loc.bind (loc_asInt _) ?_
    | refine Loc.bind (loc_asBool _) ?_
    | refine Loc.bind (loc_askRoom _) ?_
    | refine Loc.bind (loc_markStringish _) ?_
    | refine Loc.bind (loc_sameAddr _ _) ?_
    | refine Loc.bind (loc_samePointer _ _) ?_
    | refine Loc.bind (loc_byteOf _) ?_
    | refine Loc.bind (loc_variablesAt _ _ _) ?_
    | refine Loc.bind (loc_loadBytes _ _ _) ?_
    | refine Loc.bind (Loc.mark trivial) ?_
    | refine Loc.bind (loc_intArith _ _ _ _) ?_
    | refine Loc.bind (loc_intDiv _ _ _ _) ?_
    | refine Loc.bind (loc_intBits _ _ _ _) ?_
    | refine Loc.bind (loc_intCmp _ _ _) ?_
    | refine Loc.bind (loc_shift _ _ _ _ _) ?_
    | refine Loc.bind (loc_floatArith _ _ _ _) ?_
    | refine Loc.bind (loc_floatCmp _ _ _ _) ?_
    | refine Loc.bind (loc_stringOp _ _ _) ?_
    | refine Loc.bind (loc_unary _ _) ?_
    | refine Loc.bind (Q' := fun _ => True) ?_ ?_
    | (intro _ _; skip)
    | (extract_lets -underBinder +onlyGivenNames j; refine jpcut (j := j) ?_ ?_; intro u; subst j; dsimp -zeta only; rotate_left; intro hj; clear_value j)
    | (extract_lets -underBinder +onlyGivenNames j; refine jpcut0 (j := j) ?_ ?_; subst j; rotate_left; intro hj; clear_value j)
    | (extract_lets -underBinder +onlyGivenNames j; clear_value j)
    | split
    | (dsimp only; skip)))
theorem loc_mayShare (x y z : Nat) (a : Option Addr) (v : Value) : Loc P B (fun _ => True) (Builtin.mayShare x y z a v) := by
  unfold Builtin.mayShare
  (repeat' (first
    | assumption
    | exact Loc.pure trivial
    | exact Loc.halt trivial
    | exact loc_stuck _
    | exact loc_unsupported _
    | exact loc_goPanic _
    | exact Loc.load _
    | exact Loc.store _ _
    | exact Loc.freeze _ _
    | exact Loc.frozen _
    | exact Loc.choose _
    | exact Loc.mono (Loc.shape _) (fun _ _ => trivial)
    | exact Loc.mono (Loc.newObj _) (fun _ _ => trivial)
    | exact Loc.mono Loc.program (fun _ _ => trivial)
    | exact loc_typeInfo _
    | exact loc_underlying _
    | exact loc_zeroValue _
    | exact loc_sizeOf _
    | exact loc_loadCells _ _
    | exact loc_storeCells _ _ _
    | exact loc_newRow _ _
    | exact loc_elemOf _
    | exact loc_part _ _ _
    | exact loc_runtimePanic _
    | exact loc_asInt _
    | exact loc_asBool _
    | exact loc_askRoom _
    | exact loc_markStringish _
    | exact loc_sameAddr _ _
    | exact loc_samePointer _ _
    | exact loc_byteOf _
    | exact loc_variablesAt _ _ _
    | exact loc_loadBytes _ _ _
    | exact Loc.mark trivial
    | exact loc_intArith _ _ _ _
    | exact loc_intDiv _ _ _ _
    | exact loc_intBits _ _ _ _
    | exact loc_intCmp _ _ _
    | exact loc_shift _ _ _ _ _
    | exact loc_floatArith _ _ _ _
    | exact loc_floatCmp _ _ _ _
    | exact loc_stringOp _ _ _
    | exact loc_unary _ _
    | exact loc_holdsCells _ _
    | apply_assumption -exfalso -symm
    | refine Loc.bind (Loc.load _) ?_
    | refine Loc.bind (Loc.store _ _) ?_
    | refine Loc.bind Loc.program ?_
    | refine Loc.bind (Loc.shape _) ?_
    | refine Loc.bind (Loc.newObj _) ?_
    | refine Loc.bind (Loc.choose _) ?_
    | refine Loc.bind (loc_typeInfo _) ?_
    | refine Loc.bind (loc_underlying _) ?_
    | refine Loc.bind (loc_zeroValue _) ?_
    | refine Loc.bind (loc_sizeOf _) ?_
    | refine Loc.bind (loc_loadCells _ _) ?_
    | refine Loc.bind (loc_storeCells _ _ _) ?_
    | refine Loc.bind (loc_newRow _ _) ?_
    | refine Loc.bind (loc_elemOf _) ?_
    | refine Loc.bind (loc_part _ _ _) ?_
    | refine Loc.bind (loc_runtimePanic _) ?_
    | refine Loc.bind (loc_asInt _) ?_
    | refine Loc.bind (loc_asBool _) ?_
    | refine Loc.bind (loc_askRoom _) ?_
    | refine Loc.bind (loc_markStringish _) ?_
    | refine Loc.bind (loc_sameAddr _ _) ?_
    | refine Loc.bind (loc_samePointer _ _) ?_
    | refine Loc.bind (loc_byteOf _) ?_
    | refine Loc.bind (loc_variablesAt _ _ _) ?_
    | refine Loc.bind (loc_loadBytes _ _ _) ?_
    | refine Loc.bind (Loc.mark trivial) ?_
    | refine Loc.bind (loc_intArith _ _ _ _) ?_
    | refine Loc.bind (loc_intDiv _ _ _ _) ?_
    | refine Loc.bind (loc_intBits _ _ _ _) ?_
    | refine Loc.bind (loc_intCmp _ _ _) ?_
    | refine Loc.bind (loc_shift _ _ _ _ _) ?_
    | refine Loc.bind (loc_floatArith _ _ _ _) ?_
    | refine Loc.bind (loc_floatCmp _ _ _ _) ?_
    | refine Loc.bind (loc_stringOp _ _ _) ?_
    | refine Loc.bind (loc_unary _ _) ?_
    | refine Loc.bind (loc_holdsCells _ _) ?_
    | refine Loc.bind (Q' := fun _ => True) ?_ ?_
    | (intro _ _; skip)
    | (extract_lets -underBinder +onlyGivenNames j; refine jpcut (j := j) ?_ ?_; intro u; subst j; dsimp -zeta only; rotate_left; intro hj; clear_value j)
    | (extract_lets -underBinder +onlyGivenNames j; refine jpcut0 (j := j) ?_ ?_; subst j; rotate_left; intro hj; clear_value j)
    | (extract_lets -underBinder +onlyGivenNames j; clear_value j)
    | split
    | (dsimp only; skip)))
theorem loc_lenOf (v : Value) : Loc P B (fun _ => True) (Builtin.lenOf v) := by
  unfold Builtin.lenOf
  (repeat' (first
    | assumption
    | exact Loc.pure trivial
    | exact Loc.halt trivial
    | exact loc_stuck _
    | exact loc_unsupported _
    | exact loc_goPanic _
    | exact Loc.load _
    | exact Loc.store _ _
    | exact Loc.freeze _ _
    | exact Loc.frozen _
    | exact Loc.choose _
    | exact Loc.mono (Loc.shape _) (fun _ _ => trivial)
    | exact Loc.mono (Loc.newObj _) (fun _ _ => trivial)
    | exact Loc.mono Loc.program (fun _ _ => trivial)
    | exact loc_typeInfo _
    | exact loc_underlying _
    | exact loc_zeroValue _
    | exact loc_sizeOf _
    | exact loc_loadCells _ _
    | exact loc_storeCells _ _ _
    | exact loc_newRow _ _
    | exact loc_elemOf _
    | exact loc_part _ _ _
    | exact loc_runtimePanic _
    | exact loc_asInt _
    | exact loc_asBool _
    | exact loc_askRoom _
    | exact loc_markStringish _
    | exact loc_sameAddr _ _
    | exact loc_samePointer _ _
    | exact loc_byteOf _
    | exact loc_variablesAt _ _ _
    | exact loc_loadBytes _ _ _
    | exact Loc.mark trivial
    | exact loc_intArith _ _ _ _
    | exact loc_intDiv _ _ _ _
    | exact loc_intBits _ _ _ _
    | exact loc_intCmp _ _ _
    | exact loc_shift _ _ _ _ _
    | exact loc_floatArith _ _ _ _
    | exact loc_floatCmp _ _ _ _
    | exact loc_stringOp _ _ _
    | exact loc_unary _ _
    | exact loc_holdsCells _ _
    | exact loc_mayShare _ _ _ _ _
    | apply_assumption -exfalso -symm
    | refine Loc.bind (Loc.load _) ?_
    | refine Loc.bind (Loc.store _ _) ?_
    | refine Loc.bind Loc.program ?_
    | refine Loc.bind (Loc.shape _) ?_
    | refine Loc.bind (Loc.newObj _) ?_
    | refine Loc.bind (Loc.choose _) ?_
    | refine Loc.bind (loc_typeInfo _) ?_
    | refine Loc.bind (loc_underlying _) ?_
    | refine Loc.bind (loc_zeroValue _) ?_
    | refine Loc.bind (loc_sizeOf _) ?_
    | refine Loc.bind (loc_loadCells _ _) ?_
    | refine Loc.bind (loc_storeCells _ _ _) ?_
    | refine Loc.bind (loc_newRow _ _) ?_
    | refine Loc.bind (loc_elemOf _) ?_
    | refine Loc.bind (loc_part _ _ _) ?_
    | refine Loc.bind (loc_runtimePanic _) ?_
    | refine Loc.bind (loc_asInt _) ?_
    | refine Loc.bind (loc_asBool _) ?_
    | refine Loc.bind (loc_askRoom _) ?_
    | refine Loc.bind (loc_markStringish _) ?_
    | refine Loc.bind (loc_sameAddr _ _) ?_
    | refine Loc.bind (loc_samePointer _ _) ?_
    | refine Loc.bind (loc_byteOf _) ?_
    | refine Loc.bind (loc_variablesAt _ _ _) ?_
    | refine Loc.bind (loc_loadBytes _ _ _) ?_
    | refine Loc.bind (Loc.mark trivial) ?_
    | refine Loc.bind (loc_intArith _ _ _ _) ?_
    | refine Loc.bind (loc_intDiv _ _ _ _) ?_
    | refine Loc.bind (loc_intBits _ _ _ _) ?_
    | refine Loc.bind (loc_intCmp _ _ _) ?_
    | refine Loc.bind (loc_shift _ _ _ _ _) ?_
    | refine Loc.bind (loc_floatArith _ _ _ _) ?_
    | refine Loc.bind (loc_floatCmp _ _ _ _) ?_
    | refine Loc.bind (loc_stringOp _ _ _) ?_
    | refine Loc.bind (loc_unary _ _) ?_
    | refine Loc.bind (loc_holdsCells _ _) ?_
    | refine Loc.bind (loc_mayShare _ _ _ _ _) ?_
    | refine Loc.bind (Q' := fun _ => True) ?_ ?_
    | (intro _ _; skip)
    | (extract_lets -underBinder +onlyGivenNames j; refine jpcut (j := j) ?_ ?_; intro u; subst j; dsimp -zeta only; rotate_left; intro hj; clear_value j)
    | (extract_lets -underBinder +onlyGivenNames j; refine jpcut0 (j := j) ?_ ?_; subst j; rotate_left; intro hj; clear_value j)
    | (extract_lets -underBinder +onlyGivenNames j; clear_value j)
    | split
    | (dsimp only; skip)))
theorem loc_firstCells (x y : Nat) (v : Value) : Loc P B (fun _ => True) (Builtin.firstCells x y v) := by
  unfold Builtin.firstCells
  (repeat' (first
    | assumption
    | exact Loc.pure trivial
    | exact Loc.halt trivial
    | exact loc_stuck _
    | exact loc_unsupported _
    | exact loc_goPanic _
    | exact Loc.load _
    | exact Loc.store _ _
    | exact Loc.freeze _ _
    | exact Loc.frozen _
    | exact Loc.choose _
    | exact Loc.mono (Loc.shape _) (fun _ _ => trivial)
    | exact Loc.mono (Loc.newObj _) (fun _ _ => trivial)
    | exact Loc.mono Loc.program (fun _ _ => trivial)
    | exact loc_typeInfo _
    | exact loc_underlying _
    | exact loc_zeroValue _
    | exact loc_sizeOf _
    | exact loc_loadCells _ _
    | exact loc_storeCells _ _ _
    | exact loc_newRow _ _
    | exact loc_elemOf _
    | exact loc_part _ _ _
    | exact loc_runtimePanic _
    | exact loc_asInt _
    | exact loc_asBool _
    | exact loc_askRoom _
    | exact loc_markStringish _
    | exact loc_sameAddr _ _
    | exact loc_samePointer _ _
    | exact loc_byteOf _
    | exact loc_variablesAt _ _ _
    | exact loc_loadBytes _ _ _
    | exact Loc.mark trivial
    | exact loc_intArith _ _ _ _
    | exact loc_intDiv _ _ _ _
    | exact loc_intBits _ _ _ _
    | exact loc_intCmp _ _ _
    | exact loc_shift _ _ _ _ _
    | exact loc_floatArith _ _ _ _
    | exact loc_floatCmp _ _ _ _
    | exact loc_stringOp _ _ _
    | exact loc_unary _ _
    | exact loc_holdsCells _ _
    | exact loc_mayShare _ _ _ _ _
    | exact loc_lenOf _
    | apply_assumption -exfalso -symm
    | refine Loc.bind (Loc.load _) ?_
    | refine Loc.bind (Loc.store _ _) ?_
    | refine Loc.bind Loc.program ?_
    | refine Loc.bind (Loc.shape _) ?_
    | refine Loc.bind (Loc.newObj _) ?_
    | refine Loc.bind (Loc.choose _) ?_
    | refine Loc.bind (loc_typeInfo _) ?_
    | refine Loc.bind (loc_underlying _) ?_
    | refine Loc.bind (loc_zeroValue _) ?_
    | refine Loc.bind (loc_sizeOf _) ?_
    | refine Loc.bind (loc_loadCells _ _) ?_
    | refine Loc.bind (loc_storeCells _ _ _) ?_
    | refine Loc.bind (loc_newRow _ _) ?_
    | refine Loc.bind (loc_elemOf _) ?_
    | refine Loc.bind (loc_part _ _ _) ?_
    | refine Loc.bind (loc_runtimePanic _) ?_
    | refine Loc.bind (loc_asInt _) ?_
    | refine Loc.bind (loc_asBool _) ?_
    | refine Loc.bind (loc_askRoom _) ?_
    | refine Loc.bind (loc_markStringish _) ?_
    | refine Loc.bind (loc_sameAddr _ _) ?_
    | refine Loc.bind (loc_samePointer _ _) ?_
    | refine Loc.bind (loc_byteOf _) ?_
    | refine Loc.bind (loc_variablesAt _ _ _) ?_
    | refine Loc.bind (loc_loadBytes _ _ _) ?_
    | refine Loc.bind (Loc.mark trivial) ?_
    | refine Loc.bind (loc_intArith _ _ _ _) ?_
    | refine Loc.bind (loc_intDiv _ _ _ _) ?_
    | refine Loc.bind (loc_intBits _ _ _ _) ?_
    | refine Loc.bind (loc_intCmp _ _ _) ?_
    | refine Loc.bind (loc_shift _ _ _ _ _) ?_
    | refine Loc.bind (loc_floatArith _ _ _ _) ?_
    | refine Loc.bind (loc_floatCmp _ _ _ _) ?_
    | refine Loc.bind (loc_stringOp _ _ _) ?_
    | refine Loc.bind (loc_unary _ _) ?_
    | refine Loc.bind (loc_holdsCells _ _) ?_
    | refine Loc.bind (loc_mayShare _ _ _ _ _) ?_
    | refine Loc.bind (loc_lenOf _) ?_
    | refine Loc.bind (Q' := fun _ => True) ?_ ?_
    | (intro _ _; skip)
    | (extract_lets -underBinder +onlyGivenNames j; refine jpcut (j := j) ?_ ?_; intro u; subst j; dsimp -zeta only; rotate_left; intro hj; clear_value j)
    | (extract_lets -underBinder +onlyGivenNames j; refine jpcut0 (j := j) ?_ ?_; subst j; rotate_left; intro hj; clear_value j)
    | (extract_lets -underBinder +onlyGivenNames j; clear_value j)
    | split
    | (dsimp only; skip)))
theorem loc_append (a : Array TypeId) (t : TypeId) (args : Array Value) : Loc P B (fun _ => True) (Builtin.append_ a t args) := by
  unfold Builtin.append_
  (repeat' (first
    | assumption
    | exact Loc.pure trivial
    | exact Loc.halt trivial
    | exact loc_stuck _
    | exact loc_unsupported _
    | exact loc_goPanic _
    | exact Loc.load _
    | exact Loc.store _ _
    | exact Loc.freeze _ _
    | exact Loc.frozen _
    | exact Loc.choose _
    | exact Loc.mono (Loc.shape _) (fun _ _ => trivial)
    | exact Loc.mono (Loc.newObj _) (fun _ _ => trivial)
    | exact Loc.mono Loc.program (fun _ _ => trivial)
    | exact loc_typeInfo _
    | exact loc_underlying _
    | exact loc_zeroValue _
    | exact loc_sizeOf _
    | exact loc_loadCells _ _
    | exact loc_storeCells _ _ _
    | exact loc_newRow _ _
    | exact loc_elemOf _
    | exact loc_part _ _ _
    | exact loc_runtimePanic _
    | exact loc_asInt _
    | exact loc_asBool _
    | exact loc_askRoom _
    | exact loc_markStringish _
    | exact loc_sameAddr _ _
    | exact loc_samePointer _ _
    | exact loc_byteOf _
    | exact loc_variablesAt _ _ _
    | exact loc_loadBytes _ _ _
    | exact Loc.mark trivial
    | exact loc_intArith _ _ _ _
    | exact loc_intDiv _ _ _ _
    | exact loc_intBits _ _ _ _
    | exact loc_intCmp _ _ _
    | exact loc_shift _ _ _ _ _
    | exact loc_floatArith _ _ _ _
    | exact loc_floatCmp _ _ _ _
    | exact loc_stringOp _ _ _
    | exact loc_unary _ _
    | exact loc_holdsCells _ _
    | exact loc_mayShare _ _ _ _ _
    | exact loc_lenOf _
    | exact loc_firstCells _ _ _
    | apply_assumption -exfalso -symm
    | refine Loc.bind (Loc.load _) ?_
    | refine Loc.bind (Loc.store _ _) ?_
    | refine Loc.bind Loc.program ?_
    | refine Loc.bind (Loc.shape _) ?_
    | refine Loc.bind (Loc.newObj _) ?_
    | refine Loc.bind (Loc.choose _) ?_
    | refine Loc.bind (loc_typeInfo _) ?_
    | refine Loc.bind (loc_underlying _) ?_
    | refine Loc.bind (loc_zeroValue _) ?_
    | refine Loc.bind (loc_sizeOf _) ?_
    | refine Loc.bind (loc_loadCells _ _) ?_
    | refine Loc.bind (loc_storeCells _ _ _) ?_
    | refine Loc.bind (loc_newRow _ _) ?_
    | refine Loc.bind (loc_elemOf _) ?_
    | refine Loc.bind (loc_part _ _ _) ?_
    | refine Loc.bind (loc_runtimePanic _) ?_
    | refine Loc.bind (loc_asInt _) ?_
    | refine Loc.bind (loc_asBool _) ?_
    | refine Loc.bind (loc_askRoom _) ?_
    | refine Loc.bind (loc_markStringish _) ?_
    | refine Loc.bind (loc_sameAddr _ _) ?_
    | refine Loc.bind (loc_samePointer _ _) ?_
    | refine Loc.bind (loc_byteOf _) ?_
    | refine Loc.bind (loc_variablesAt _ _ _) ?_
    | refine Loc.bind (loc_loadBytes _ _ _) ?_
    | refine Loc.bind (Loc.mark trivial) ?_
    | refine Loc.bind (loc_intArith _ _ _ _) ?_
    | refine Loc.bind (loc_intDiv _ _ _ _) ?_
    | refine Loc.bind (loc_intBits _ _ _ _) ?_
    | refine Loc.bind (loc_intCmp _ _ _) ?_
    | refine Loc.bind (loc_shift _ _ _ _ _) ?_
    | refine Loc.bind (loc_floatArith _ _ _ _) ?_
    | refine Loc.bind (loc_floatCmp _ _ _ _) ?_
    | refine Loc.bind (loc_stringOp _ _ _) ?_
    | refine Loc.bind (loc_unary _ _) ?_
    | refine Loc.bind (loc_holdsCells _ _) ?_
    | refine Loc.bind (loc_mayShare _ _ _ _ _) ?_
    | refine Loc.bind (loc_lenOf _) ?_
    | refine Loc.bind (loc_firstCells _ _ _) ?_
    | refine Loc.bind (Q' := fun _ => True) ?_ ?_
    | (intro _ _; skip)
    | (extract_lets -underBinder +onlyGivenNames j; refine jpcut (j := j) ?_ ?_; intro u; subst j; dsimp -zeta only; rotate_left; intro hj; clear_value j)
    | (extract_lets -underBinder +onlyGivenNames j; refine jpcut0 (j := j) ?_ ?_; subst j; rotate_left; intro hj; clear_value j)
    | (extract_lets -underBinder +onlyGivenNames j; clear_value j)
    | split
    | (dsimp only; skip)))
theorem loc_unsafeString (a : Array TypeId) (t : TypeId) (args : Array Value) : Loc P B (fun _ => True) (Builtin.unsafeString_ a t args) := by
  have main : ∀ p l, Loc P B (fun _ => True) (Builtin.unsafeString_ a t #[.pointer p, l]) := by
    intro p l
    unfold Builtin.unsafeString_
    refine Loc.bind (loc_asInt l) fun n _ => ?_
    split
    · (repeat' (first
    | assumption
    | exact Loc.pure trivial
    | exact Loc.halt trivial
    | exact loc_stuck _
    | exact loc_unsupported _
    | exact loc_goPanic _
    | exact Loc.load _
    | exact Loc.store _ _
    | exact Loc.freeze _ _
    | exact Loc.frozen _
    | exact Loc.choose _
    | exact Loc.mono (Loc.shape _) (fun _ _ => trivial)
    | exact Loc.mono (Loc.newObj _) (fun _ _ => trivial)
    | exact Loc.mono Loc.program (fun _ _ => trivial)
    | exact loc_typeInfo _
    | exact loc_underlying _
    | exact loc_zeroValue _
    | exact loc_sizeOf _
    | exact loc_loadCells _ _
    | exact loc_storeCells _ _ _
    | exact loc_newRow _ _
    | exact loc_elemOf _
    | exact loc_part _ _ _
    | exact loc_runtimePanic _
    | exact loc_asInt _
    | exact loc_asBool _
    | exact loc_askRoom _
    | exact loc_markStringish _
    | exact loc_sameAddr _ _
    | exact loc_samePointer _ _
    | exact loc_byteOf _
    | exact loc_variablesAt _ _ _
    | exact loc_loadBytes _ _ _
    | exact Loc.mark trivial
    | exact loc_intArith _ _ _ _
    | exact loc_intDiv _ _ _ _
    | exact loc_intBits _ _ _ _
    | exact loc_intCmp _ _ _
    | exact loc_shift _ _ _ _ _
    | exact loc_floatArith _ _ _ _
    | exact loc_floatCmp _ _ _ _
    | exact loc_stringOp _ _ _
    | exact loc_unary _ _
    | exact loc_holdsCells _ _
    | exact loc_mayShare _ _ _ _ _
    | exact loc_lenOf _
    | exact loc_firstCells _ _ _
    | apply_assumption -exfalso -symm
    | refine Loc.bind (Loc.load _) ?_
    | refine Loc.bind (Loc.store _ _) ?_
    | refine Loc.bind Loc.program ?_
    | refine Loc.bind (Loc.shape _) ?_
    | refine Loc.bind (Loc.newObj _) ?_
    | refine Loc.bind (Loc.choose _) ?_
    | refine Loc.bind (loc_typeInfo _) ?_
    | refine Loc.bind (loc_underlying _) ?_
    | refine Loc.bind (loc_zeroValue _) ?_
    | refine Loc.bind (loc_sizeOf _) ?_
    | refine Loc.bind (loc_loadCells _ _) ?_
    | refine Loc.bind (loc_storeCells _ _ _) ?_
    | refine Loc.bind (loc_newRow _ _) ?_
    | refine Loc.bind (loc_elemOf _) ?_
    | refine Loc.bind (loc_part _ _ _) ?_
    | refine Loc.bind (loc_runtimePanic _) ?_
    | refine Loc.bind (loc_asInt _) ?_
    | refine Loc.bind (loc_asBool _) ?_
    | refine Loc.bind (loc_askRoom _) ?_
    | refine Loc.bind (loc_markStringish _) ?_
    | refine Loc.bind (loc_sameAddr _ _) ?_
    | refine Loc.bind (loc_samePointer _ _) ?_
    | refine Loc.bind (loc_byteOf _) ?_
    | refine Loc.bind (loc_variablesAt _ _ _) ?_
    | refine Loc.bind (loc_loadBytes _ _ _) ?_
    | refine Loc.bind (Loc.mark trivial) ?_
    | refine Loc.bind (loc_intArith _ _ _ _) ?_
    | refine Loc.bind (loc_intDiv _ _ _ _) ?_
    | refine Loc.bind (loc_intBits _ _ _ _) ?_
    | refine Loc.bind (loc_intCmp _ _ _) ?_
    | refine Loc.bind (loc_shift _ _ _ _ _) ?_
    | refine Loc.bind (loc_floatArith _ _ _ _) ?_
    | refine Loc.bind (loc_floatCmp _ _ _ _) ?_
    | refine Loc.bind (loc_stringOp _ _ _) ?_
    | refine Loc.bind (loc_unary _ _) ?_
    | refine Loc.bind (loc_holdsCells _ _) ?_
    | refine Loc.bind (loc_mayShare _ _ _ _ _) ?_
    | refine Loc.bind (loc_lenOf _) ?_
    | refine Loc.bind (loc_firstCells _ _ _) ?_
    | refine Loc.bind (Q' := fun _ => True) ?_ ?_
    | (intro _ _; skip)
    | (extract_lets -underBinder +onlyGivenNames j; refine jpcut (j := j) ?_ ?_; intro u; subst j; dsimp -zeta only; rotate_left; intro hj; clear_value j)
    | (extract_lets -underBinder +onlyGivenNames j; refine jpcut0 (j := j) ?_ ?_; subst j; rotate_left; intro hj; clear_value j)
    | (extract_lets -underBinder +onlyGivenNames j; clear_value j)
    | split
    | (dsimp only; skip)))
    · exact loc_stuck _
  obtain ⟨l⟩ := args
  rcases l with _ | ⟨x, _ | ⟨y, _ | ⟨z, l⟩⟩⟩
  · exact loc_stuck _
  · cases x <;> exact loc_stuck _
  · cases x <;> first | exact main _ _ | exact loc_stuck _
  · cases x <;> exact loc_stuck _
theorem loc_unsafeSliceData (hB : ∀ k, ¬ B k) (a : Array TypeId) (t : TypeId) (args : Array Value) : Loc P B (fun _ => True) (Builtin.unsafeSliceData_ a t args) := by
  have main : ∀ a' n c, Loc P B (fun _ => True) (Builtin.unsafeSliceData_ a t #[.slice (some a') n c]) := by
    intro a' n c
    show Loc P B _ (if c ≠ 0 then pure (Value.pointer (some a')) else _)
    split
    · exact Loc.pure trivial
    · refine loc_viewAt _ (fun hb => absurd hb (hB _)) fun o _ => ?_
      split
      · exact Loc.pure trivial
      · (repeat' (first
    | assumption
    | exact Loc.pure trivial
    | exact Loc.halt trivial
    | exact loc_stuck _
    | exact loc_unsupported _
    | exact loc_goPanic _
    | exact Loc.load _
    | exact Loc.store _ _
    | exact Loc.freeze _ _
    | exact Loc.frozen _
    | exact Loc.choose _
    | exact Loc.mono (Loc.shape _) (fun _ _ => trivial)
    | exact Loc.mono (Loc.newObj _) (fun _ _ => trivial)
    | exact Loc.mono Loc.program (fun _ _ => trivial)
    | exact loc_typeInfo _
    | exact loc_underlying _
    | exact loc_zeroValue _
    | exact loc_sizeOf _
    | exact loc_loadCells _ _
    | exact loc_storeCells _ _ _
    | exact loc_newRow _ _
    | exact loc_elemOf _
    | exact loc_part _ _ _
    | exact loc_runtimePanic _
    | exact loc_asInt _
    | exact loc_asBool _
    | exact loc_askRoom _
    | exact loc_markStringish _
    | exact loc_sameAddr _ _
    | exact loc_samePointer _ _
    | exact loc_byteOf _
    | exact loc_variablesAt _ _ _
    | exact loc_loadBytes _ _ _
    | exact Loc.mark trivial
    | exact loc_intArith _ _ _ _
    | exact loc_intDiv _ _ _ _
    | exact loc_intBits _ _ _ _
    | exact loc_intCmp _ _ _
    | exact loc_shift _ _ _ _ _
    | exact loc_floatArith _ _ _ _
    | exact loc_floatCmp _ _ _ _
    | exact loc_stringOp _ _ _
    | exact loc_unary _ _
    | exact loc_holdsCells _ _
    | exact loc_mayShare _ _ _ _ _
    | exact loc_lenOf _
    | exact loc_firstCells _ _ _
    | apply_assumption -exfalso -symm
    | refine Loc.bind (Loc.load _) ?_
    | refine Loc.bind (Loc.store _ _) ?_
    | refine Loc.bind Loc.program ?_
    | refine Loc.bind (Loc.shape _) ?_
    | refine Loc.bind (Loc.newObj _) ?_
    | refine Loc.bind (Loc.choose _) ?_
    | refine Loc.bind (loc_typeInfo _) ?_
    | refine Loc.bind (loc_underlying _) ?_
    | refine Loc.bind (loc_zeroValue _) ?_
    | refine Loc.bind (loc_sizeOf _) ?_
    | refine Loc.bind (loc_loadCells _ _) ?_
    | refine Loc.bind (loc_storeCells _ _ _) ?_
    | refine Loc.bind (loc_newRow _ _) ?_
    | refine Loc.bind (loc_elemOf _) ?_
    | refine Loc.bind (loc_part _ _ _) ?_
    | refine Loc.bind (loc_runtimePanic _) ?_
    | refine Loc.bind (loc_asInt _) ?_
    | refine Loc.bind (loc_asBool _) ?_
    | refine Loc.bind (loc_askRoom _) ?_
    | refine Loc.bind (loc_markStringish _) ?_
    | refine Loc.bind (loc_sameAddr _ _) ?_
    | refine Loc.bind (loc_samePointer _ _) ?_
    | refine Loc.bind (loc_byteOf _) ?_
    | refine Loc.bind (loc_variablesAt _ _ _) ?_
    | refine Loc.bind (loc_loadBytes _ _ _) ?_
    | refine Loc.bind (Loc.mark trivial) ?_
    | refine Loc.bind (loc_intArith _ _ _ _) ?_
    | refine Loc.bind (loc_intDiv _ _ _ _) ?_
    | refine Loc.bind (loc_intBits _ _ _ _) ?_
    | refine Loc.bind (loc_intCmp _ _ _) ?_
    | refine Loc.bind (loc_shift _ _ _ _ _) ?_
    | refine Loc.bind (loc_floatArith _ _ _ _) ?_
    | refine Loc.bind (loc_floatCmp _ _ _ _) ?_
    | refine Loc.bind (loc_stringOp _ _ _) ?_
    | refine Loc.bind (loc_unary _ _) ?_
    | refine Loc.bind (loc_holdsCells _ _) ?_
    | refine Loc.bind (loc_mayShare _ _ _ _ _) ?_
    | refine Loc.bind (loc_lenOf _) ?_
    | refine Loc.bind (loc_firstCells _ _ _) ?_
    | refine Loc.bind (Q' := fun _ => True) ?_ ?_
    | (intro _ _; skip)
    | (extract_lets -underBinder +onlyGivenNames j; refine jpcut (j := j) ?_ ?_; intro u; subst j; dsimp -zeta only; rotate_left; intro hj; clear_value j)
    | (extract_lets -underBinder +onlyGivenNames j; refine jpcut0 (j := j) ?_ ?_; subst j; rotate_left; intro hj; clear_value j)
    | (extract_lets -underBinder +onlyGivenNames j; clear_value j)
    | split
    | (dsimp only; skip)))
  obtain ⟨l⟩ := args
  rcases l with _ | ⟨x, _ | ⟨y, l⟩⟩
  · exact loc_stuck _
  · cases x with
    | slice b n c => cases b with
      | none => exact Loc.pure trivial
      | some a' => exact main _ _ _
    | _ => exact loc_stuck _
  · cases x with
    | slice b n c => cases b <;> exact loc_stuck _
    | _ => exact loc_stuck _
theorem loc_intToString (n : Int) : Loc P B (fun _ => True) (Conv.intToString n) := Loc.pure trivial
theorem loc_stringToBytes (t : TypeId) (s : ByteArray) : Loc P B (fun _ => True) (Conv.stringToBytes t s) := by
  unfold Conv.stringToBytes
  (repeat' (first
    | assumption
    | exact Loc.pure trivial
    | exact Loc.halt trivial
    | exact loc_stuck _
    | exact loc_unsupported _
    | exact loc_goPanic _
    | exact Loc.load _
    | exact Loc.store _ _
    | exact Loc.freeze _ _
    | exact Loc.frozen _
    | exact Loc.choose _
    | exact Loc.mono (Loc.shape _) (fun _ _ => trivial)
    | exact Loc.mono (Loc.newObj _) (fun _ _ => trivial)
    | exact Loc.mono Loc.program (fun _ _ => trivial)
    | exact loc_typeInfo _
    | exact loc_underlying _
    | exact loc_zeroValue _
    | exact loc_sizeOf _
    | exact loc_loadCells _ _
    | exact loc_storeCells _ _ _
    | exact loc_newRow _ _
    | exact loc_elemOf _
    | exact loc_part _ _ _
    | exact loc_runtimePanic _
    | exact loc_asInt _
    | exact loc_asBool _
    | exact loc_askRoom _
    | exact loc_markStringish _
    | exact loc_sameAddr _ _
    | exact loc_samePointer _ _
    | exact loc_byteOf _
    | exact loc_variablesAt _ _ _
    | exact loc_loadBytes _ _ _
    | exact Loc.mark trivial
    | exact loc_intArith _ _ _ _
    | exact loc_intDiv _ _ _ _
    | exact loc_intBits _ _ _ _
    | exact loc_intCmp _ _ _
    | exact loc_shift _ _ _ _ _
    | exact loc_floatArith _ _ _ _
    | exact loc_floatCmp _ _ _ _
    | exact loc_stringOp _ _ _
    | exact loc_unary _ _
    | exact loc_holdsCells _ _
    | exact loc_mayShare _ _ _ _ _
    | exact loc_lenOf _
    | exact loc_firstCells _ _ _
    | exact loc_intToString _
    | apply_assumption -exfalso -symm
    | refine Loc.bind (Loc.load _) ?_
    | refine Loc.bind (Loc.store _ _) ?_
    | refine Loc.bind Loc.program ?_
    | refine Loc.bind (Loc.shape _) ?_
    | refine Loc.bind (Loc.newObj _) ?_
    | refine Loc.bind (Loc.choose _) ?_
    | refine Loc.bind (loc_typeInfo _) ?_
    | refine Loc.bind (loc_underlying _) ?_
    | refine Loc.bind (loc_zeroValue _) ?_
    | refine Loc.bind (loc_sizeOf _) ?_
    | refine Loc.bind (loc_loadCells _ _) ?_
    | refine Loc.bind (loc_storeCells _ _ _) ?_
    | refine Loc.bind (loc_newRow _ _) ?_
    | refine Loc.bind (loc_elemOf _) ?_
    | refine Loc.bind (loc_part _ _ _) ?_
    | refine Loc.bind (loc_runtimePanic _) ?_
    | refine Loc.bind (loc_asInt _) ?_
    | refine Loc.bind (loc_asBool _) ?_
    | refine Loc.bind (loc_askRoom _) ?_
    | refine Loc.bind (loc_markStringish _) ?_
    | refine Loc.bind (loc_sameAddr _ _) ?_
    | refine Loc.bind (loc_samePointer _ _) ?_
    | refine Loc.bind (loc_byteOf _) ?_
    | refine Loc.bind (loc_variablesAt _ _ _) ?_
    | refine Loc.bind (loc_loadBytes _ _ _) ?_
    | refine Loc.bind (Loc.mark trivial) ?_
    | refine Loc.bind (loc_intArith _ _ _ _) ?_
    | refine Loc.bind (loc_intDiv _ _ _ _) ?_
    | refine Loc.bind (loc_intBits _ _ _ _) ?_
    | refine Loc.bind (loc_intCmp _ _ _) ?_
    | refine Loc.bind (loc_shift _ _ _ _ _) ?_
    | refine Loc.bind (loc_floatArith _ _ _ _) ?_
    | refine Loc.bind (loc_floatCmp _ _ _ _) ?_
    | refine Loc.bind (loc_stringOp _ _ _) ?_
    | refine Loc.bind (loc_unary _ _) ?_
    | refine Loc.bind (loc_holdsCells _ _) ?_
    | refine Loc.bind (loc_mayShare _ _ _ _ _) ?_
    | refine Loc.bind (loc_lenOf _) ?_
    | refine Loc.bind (loc_firstCells _ _ _) ?_
    | refine Loc.bind (loc_intToString _) ?_
    | refine Loc.bind (Q' := fun _ => True) ?_ ?_
    | (intro _ _; skip)
    | (extract_lets -underBinder +onlyGivenNames j; refine jpcut (j := j) ?_ ?_; intro u; subst j; dsimp -zeta only; rotate_left; intro hj; clear_value j)
    | (extract_lets -underBinder +onlyGivenNames j; refine jpcut0 (j := j) ?_ ?_; subst j; rotate_left; intro hj; clear_value j)
    | (extract_lets -underBinder +onlyGivenNames j; clear_value j)
    | split
    | (dsimp only; skip)))
theorem loc_stringToRunes (t : TypeId) (s : ByteArray) : Loc P B (fun _ => True) (Conv.stringToRunes t s) := by
  unfold Conv.stringToRunes
  (repeat' (first
    | assumption
    | exact Loc.pure trivial
    | exact Loc.halt trivial
    | exact loc_stuck _
    | exact loc_unsupported _
    | exact loc_goPanic _
    | exact Loc.load _
    | exact Loc.store _ _
    | exact Loc.freeze _ _
    | exact Loc.frozen _
    | exact Loc.choose _
    | exact Loc.mono (Loc.shape _) (fun _ _ => trivial)
    | exact Loc.mono (Loc.newObj _) (fun _ _ => trivial)
    | exact Loc.mono Loc.program (fun _ _ => trivial)
    | exact loc_typeInfo _
    | exact loc_underlying _
    | exact loc_zeroValue _
    | exact loc_sizeOf _
    | exact loc_loadCells _ _
    | exact loc_storeCells _ _ _
    | exact loc_newRow _ _
    | exact loc_elemOf _
    | exact loc_part _ _ _
    | exact loc_runtimePanic _
    | exact loc_asInt _
    | exact loc_asBool _
    | exact loc_askRoom _
    | exact loc_markStringish _
    | exact loc_sameAddr _ _
    | exact loc_samePointer _ _
    | exact loc_byteOf _
    | exact loc_variablesAt _ _ _
    | exact loc_loadBytes _ _ _
    | exact Loc.mark trivial
    | exact loc_intArith _ _ _ _
    | exact loc_intDiv _ _ _ _
    | exact loc_intBits _ _ _ _
    | exact loc_intCmp _ _ _
    | exact loc_shift _ _ _ _ _
    | exact loc_floatArith _ _ _ _
    | exact loc_floatCmp _ _ _ _
    | exact loc_stringOp _ _ _
    | exact loc_unary _ _
    | exact loc_holdsCells _ _
    | exact loc_mayShare _ _ _ _ _
    | exact loc_lenOf _
    | exact loc_firstCells _ _ _
    | exact loc_intToString _
    | exact loc_stringToBytes _ _
    | apply_assumption -exfalso -symm
    | refine Loc.bind (Loc.load _) ?_
    | refine Loc.bind (Loc.store _ _) ?_
    | refine Loc.bind Loc.program ?_
    | refine Loc.bind (Loc.shape _) ?_
    | refine Loc.bind (Loc.newObj _) ?_
    | refine Loc.bind (Loc.choose _) ?_
    | refine Loc.bind (loc_typeInfo _) ?_
    | refine Loc.bind (loc_underlying _) ?_
    | refine Loc.bind (loc_zeroValue _) ?_
    | refine Loc.bind (loc_sizeOf _) ?_
    | refine Loc.bind (loc_loadCells _ _) ?_
    | refine Loc.bind (loc_storeCells _ _ _) ?_
    | refine Loc.bind (loc_newRow _ _) ?_
    | refine Loc.bind (loc_elemOf _) ?_
    | refine Loc.bind (loc_part _ _ _) ?_
    | refine Loc.bind (loc_runtimePanic _) ?_
    | refine Loc.bind (loc_asInt _) ?_
    | refine Loc.bind (loc_asBool _) ?_
    | refine Loc.bind (loc_askRoom _) ?_
    | refine Loc.bind (loc_markStringish _) ?_
    | refine Loc.bind (loc_sameAddr _ _) ?_
    | refine Loc.bind (loc_samePointer _ _) ?_
    | refine Loc.bind (loc_byteOf _) ?_
    | refine Loc.bind (loc_variablesAt _ _ _) ?_
    | refine Loc.bind (loc_loadBytes _ _ _) ?_
    | refine Loc.bind (Loc.mark trivial) ?_
    | refine Loc.bind (loc_intArith _ _ _ _) ?_
    | refine Loc.bind (loc_intDiv _ _ _ _) ?_
    | refine Loc.bind (loc_intBits _ _ _ _) ?_
    | refine Loc.bind (loc_intCmp _ _ _) ?_
    | refine Loc.bind (loc_shift _ _ _ _ _) ?_
    | refine Loc.bind (loc_floatArith _ _ _ _) ?_
    | refine Loc.bind (loc_floatCmp _ _ _ _) ?_
    | refine Loc.bind (loc_stringOp _ _ _) ?_
    | refine Loc.bind (loc_unary _ _) ?_
    | refine Loc.bind (loc_holdsCells _ _) ?_
    | refine Loc.bind (loc_mayShare _ _ _ _ _) ?_
    | refine Loc.bind (loc_lenOf _) ?_
    | refine Loc.bind (loc_firstCells _ _ _) ?_
    | refine Loc.bind (loc_intToString _) ?_
    | refine Loc.bind (loc_stringToBytes _ _) ?_
    | refine Loc.bind (Q' := fun _ => True) ?_ ?_
    | (intro _ _; skip)
    | (extract_lets -underBinder +onlyGivenNames j; refine jpcut (j := j) ?_ ?_; intro u; subst j; dsimp -zeta only; rotate_left; intro hj; clear_value j)
    | (extract_lets -underBinder +onlyGivenNames j; refine jpcut0 (j := j) ?_ ?_; subst j; rotate_left; intro hj; clear_value j)
    | (extract_lets -underBinder +onlyGivenNames j; clear_value j)
    | split
    | (dsimp only; skip)))
theorem loc_bytesToString (v : Value) : Loc P B (fun _ => True) (Conv.bytesToString v) := by
  unfold Conv.bytesToString
  split
  · exact Loc.pure trivial
  · refine Loc.bind (loc_loadCells _ _) fun c _ => Loc.bind (loc_forInArray (fun a b => ?_) _ _) fun _ _ => Loc.pure trivial
    (repeat' (first
    | assumption
    | exact Loc.pure trivial
    | exact Loc.halt trivial
    | exact loc_stuck _
    | exact loc_unsupported _
    | exact loc_goPanic _
    | exact Loc.load _
    | exact Loc.store _ _
    | exact Loc.freeze _ _
    | exact Loc.frozen _
    | exact Loc.choose _
    | exact Loc.mono (Loc.shape _) (fun _ _ => trivial)
    | exact Loc.mono (Loc.newObj _) (fun _ _ => trivial)
    | exact Loc.mono Loc.program (fun _ _ => trivial)
    | exact loc_typeInfo _
    | exact loc_underlying _
    | exact loc_zeroValue _
    | exact loc_sizeOf _
    | exact loc_loadCells _ _
    | exact loc_storeCells _ _ _
    | exact loc_newRow _ _
    | exact loc_elemOf _
    | exact loc_part _ _ _
    | exact loc_runtimePanic _
    | exact loc_asInt _
    | exact loc_asBool _
    | exact loc_askRoom _
    | exact loc_markStringish _
    | exact loc_sameAddr _ _
    | exact loc_samePointer _ _
    | exact loc_byteOf _
    | exact loc_variablesAt _ _ _
    | exact loc_loadBytes _ _ _
    | exact Loc.mark trivial
    | exact loc_intArith _ _ _ _
    | exact loc_intDiv _ _ _ _
    | exact loc_intBits _ _ _ _
    | exact loc_intCmp _ _ _
    | exact loc_shift _ _ _ _ _
    | exact loc_floatArith _ _ _ _
    | exact loc_floatCmp _ _ _ _
    | exact loc_stringOp _ _ _
    | exact loc_unary _ _
    | exact loc_holdsCells _ _
    | exact loc_mayShare _ _ _ _ _
    | exact loc_lenOf _
    | exact loc_firstCells _ _ _
    | exact loc_intToString _
    | exact loc_stringToBytes _ _
    | exact loc_stringToRunes _ _
    | apply_assumption -exfalso -symm
    | refine Loc.bind (Loc.load _) ?_
    | refine Loc.bind (Loc.store _ _) ?_
    | refine Loc.bind Loc.program ?_
    | refine Loc.bind (Loc.shape _) ?_
    | refine Loc.bind (Loc.newObj _) ?_
    | refine Loc.bind (Loc.choose _) ?_
    | refine Loc.bind (loc_typeInfo _) ?_
    | refine Loc.bind (loc_underlying _) ?_
    | refine Loc.bind (loc_zeroValue _) ?_
    | refine Loc.bind (loc_sizeOf _) ?_
    | refine Loc.bind (loc_loadCells _ _) ?_
    | refine Loc.bind (loc_storeCells _ _ _) ?_
    | refine Loc.bind (loc_newRow _ _) ?_
    | refine Loc.bind (loc_elemOf _) ?_
    | refine Loc.bind (loc_part _ _ _) ?_
    | refine Loc.bind (loc_runtimePanic _) ?_
    | refine Loc.bind (loc_asInt _) ?_
    | refine Loc.bind (loc_asBool _) ?_
    | refine Loc.bind (loc_askRoom _) ?_
    | refine Loc.bind (loc_markStringish _) ?_
    | refine Loc.bind (loc_sameAddr _ _) ?_
    | refine Loc.bind (loc_samePointer _ _) ?_
    | refine Loc.bind (loc_byteOf _) ?_
    | refine Loc.bind (loc_variablesAt _ _ _) ?_
    | refine Loc.bind (loc_loadBytes _ _ _) ?_
    | refine Loc.bind (Loc.mark trivial) ?_
    | refine Loc.bind (loc_intArith _ _ _ _) ?_
    | refine Loc.bind (loc_intDiv _ _ _ _) ?_
    | refine Loc.bind (loc_intBits _ _ _ _) ?_
    | refine Loc.bind (loc_intCmp _ _ _) ?_
    | refine Loc.bind (loc_shift _ _ _ _ _) ?_
    | refine Loc.bind (loc_floatArith _ _ _ _) ?_
    | refine Loc.bind (loc_floatCmp _ _ _ _) ?_
    | refine Loc.bind (loc_stringOp _ _ _) ?_
    | refine Loc.bind (loc_unary _ _) ?_
    | refine Loc.bind (loc_holdsCells _ _) ?_
    | refine Loc.bind (loc_mayShare _ _ _ _ _) ?_
    | refine Loc.bind (loc_lenOf _) ?_
    | refine Loc.bind (loc_firstCells _ _ _) ?_
    | refine Loc.bind (loc_intToString _) ?_
    | refine Loc.bind (loc_stringToBytes _ _) ?_
    | refine Loc.bind (loc_stringToRunes _ _) ?_
    | refine Loc.bind (Q' := fun _ => True) ?_ ?_
    | (intro _ _; skip)
    | (extract_lets -underBinder +onlyGivenNames j; refine jpcut (j := j) ?_ ?_; intro u; subst j; dsimp -zeta only; rotate_left; intro hj; clear_value j)
    | (extract_lets -underBinder +onlyGivenNames j; refine jpcut0 (j := j) ?_ ?_; subst j; rotate_left; intro hj; clear_value j)
    | (extract_lets -underBinder +onlyGivenNames j; clear_value j)
    | split
    | (dsimp only; skip)))
  · exact loc_stuck _
theorem loc_runesToString (v : Value) : Loc P B (fun _ => True) (Conv.runesToString v) := by
  unfold Conv.runesToString
  split
  · exact Loc.pure trivial
  · refine Loc.bind (loc_loadCells _ _) fun c _ => Loc.bind (loc_forInArray (fun a b => ?_) _ _) fun _ _ => Loc.pure trivial
    (repeat' (first
    | assumption
    | exact Loc.pure trivial
    | exact Loc.halt trivial
    | exact loc_stuck _
    | exact loc_unsupported _
    | exact loc_goPanic _
    | exact Loc.load _
    | exact Loc.store _ _
    | exact Loc.freeze _ _
    | exact Loc.frozen _
    | exact Loc.choose _
    | exact Loc.mono (Loc.shape _) (fun _ _ => trivial)
    | exact Loc.mono (Loc.newObj _) (fun _ _ => trivial)
    | exact Loc.mono Loc.program (fun _ _ => trivial)
    | exact loc_typeInfo _
    | exact loc_underlying _
    | exact loc_zeroValue _
    | exact loc_sizeOf _
    | exact loc_loadCells _ _
    | exact loc_storeCells _ _ _
    | exact loc_newRow _ _
    | exact loc_elemOf _
    | exact loc_part _ _ _
    | exact loc_runtimePanic _
    | exact loc_asInt _
    | exact loc_asBool _
    | exact loc_askRoom _
    | exact loc_markStringish _
    | exact loc_sameAddr _ _
    | exact loc_samePointer _ _
    | exact loc_byteOf _
    | exact loc_variablesAt _ _ _
    | exact loc_loadBytes _ _ _
    | exact Loc.mark trivial
    | exact loc_intArith _ _ _ _
    | exact loc_intDiv _ _ _ _
    | exact loc_intBits _ _ _ _
    | exact loc_intCmp _ _ _
    | exact loc_shift _ _ _ _ _
    | exact loc_floatArith _ _ _ _
    | exact loc_floatCmp _ _ _ _
    | exact loc_stringOp _ _ _
    | exact loc_unary _ _
    | exact loc_holdsCells _ _
    | exact loc_mayShare _ _ _ _ _
    | exact loc_lenOf _
    | exact loc_firstCells _ _ _
    | exact loc_intToString _
    | exact loc_stringToBytes _ _
    | exact loc_stringToRunes _ _
    | exact loc_bytesToString _
    | apply_assumption -exfalso -symm
    | refine Loc.bind (Loc.load _) ?_
    | refine Loc.bind (Loc.store _ _) ?_
    | refine Loc.bind Loc.program ?_
    | refine Loc.bind (Loc.shape _) ?_
    | refine Loc.bind (Loc.newObj _) ?_
    | refine Loc.bind (Loc.choose _) ?_
    | refine Loc.bind (loc_typeInfo _) ?_
    | refine Loc.bind (loc_underlying _) ?_
    | refine Loc.bind (loc_zeroValue _) ?_
    | refine Loc.bind (loc_sizeOf _) ?_
    | refine Loc.bind (loc_loadCells _ _) ?_
    | refine Loc.bind (loc_storeCells _ _ _) ?_
    | refine Loc.bind (loc_newRow _ _) ?_
    | refine Loc.bind (loc_elemOf _) ?_
    | refine Loc.bind (loc_part _ _ _) ?_
    | refine Loc.bind (loc_runtimePanic _) ?_
    | refine Loc.bind (loc_asInt _) ?_
    | refine Loc.bind (loc_asBool _) ?_
    | refine Loc.bind (loc_askRoom _) ?_
    | refine Loc.bind (loc_markStringish _) ?_
    | refine Loc.bind (loc_sameAddr _ _) ?_
    | refine Loc.bind (loc_samePointer _ _) ?_
    | refine Loc.bind (loc_byteOf _) ?_
    | refine Loc.bind (loc_variablesAt _ _ _) ?_
    | refine Loc.bind (loc_loadBytes _ _ _) ?_
    | refine Loc.bind (Loc.mark trivial) ?_
    | refine Loc.bind (loc_intArith _ _ _ _) ?_
    | refine Loc.bind (loc_intDiv _ _ _ _) ?_
    | refine Loc.bind (loc_intBits _ _ _ _) ?_
    | refine Loc.bind (loc_intCmp _ _ _) ?_
    | refine Loc.bind (loc_shift _ _ _ _ _) ?_
    | refine Loc.bind (loc_floatArith _ _ _ _) ?_
    | refine Loc.bind (loc_floatCmp _ _ _ _) ?_
    | refine Loc.bind (loc_stringOp _ _ _) ?_
    | refine Loc.bind (loc_unary _ _) ?_
    | refine Loc.bind (loc_holdsCells _ _) ?_
    | refine Loc.bind (loc_mayShare _ _ _ _ _) ?_
    | refine Loc.bind (loc_lenOf _) ?_
    | refine Loc.bind (loc_firstCells _ _ _) ?_
    | refine Loc.bind (loc_intToString _) ?_
    | refine Loc.bind (loc_stringToBytes _ _) ?_
    | refine Loc.bind (loc_stringToRunes _ _) ?_
    | refine Loc.bind (loc_bytesToString _) ?_
    | refine Loc.bind (Q' := fun _ => True) ?_ ?_
    | (intro _ _; skip)
    | (extract_lets -underBinder +onlyGivenNames j; refine jpcut (j := j) ?_ ?_; intro u; subst j; dsimp -zeta only; rotate_left; intro hj; clear_value j)
    | (extract_lets -underBinder +onlyGivenNames j; refine jpcut0 (j := j) ?_ ?_; subst j; rotate_left; intro hj; clear_value j)
    | (extract_lets -underBinder +onlyGivenNames j; clear_value j)
    | split
    | (dsimp only; skip)))
  · exact loc_stuck _
end
end Go.Co
