/-
  WHICH OPERATIONS MAY STAND IN A FUNCTION THAT IS WALKED ALONE AND RUN IN COMPANY; each is well behaved.
-/
import Derived.Test.YtbjkljmhhpoooaaDoorCoE

/-
  OPERATORS ON ADDRESSES, EQUALITY, CONVERSIONS: WELL BEHAVED where the others' blocks lie behind the variables.
-/
namespace Go.Co

/-- What is asked of the program. -/
structure Tidy (P : Program) : Prop where
  noCopy : ∀ t i, P.info? t = some i → ∀ u, i.desc ≠ .named "sync.copyChecker" u

section
variable {P : Program} {B : Nat → Prop}

theorem loc_typeInfo' (t : TypeId) : Loc P B (fun i => P.info? t = some i) (typeInfo t) := by
  unfold typeInfo
  refine Loc.bind Loc.program fun p hp => ?_
  subst hp
  split
  · rename_i i h
    exact Loc.pure h
  · exact loc_stuck _
theorem loc_underlying' (t : TypeId) : Loc P B (fun d => P.underlying t = some d) (underlying t) := by
  unfold underlying
  refine Loc.bind Loc.program fun p hp => ?_
  subst hp
  split
  · rename_i i h
    exact Loc.pure h
  · exact loc_stuck _

/-- It only looks, and comes to no panic. -/
def Still (P : Program) (B : Nat → Prop) {α : Type} (Q : α → Prop) (s : Sem α) : Prop :=
  ∀ v es, Masked B v → match (s.runT P v es).1 with | .halt h _ => lost h | .ok a v1 => v1 = v ∧ Q a

theorem dead_after {α β : Type} {Q : α → Prop} {s : Sem α} {f : α → Sem β} (hs : Still P B Q s) (hf : ∀ a, Q a → Dead P B (f a)) : Dead P B (s >>= f) := by
  refine ⟨fun v es hm => ?_⟩
  have h2 := hs v es hm
  rw [runT_bind_eq]
  rcases hr : s.runT P v es with ⟨r, es1⟩
  rw [hr] at h2
  cases r with
  | halt h v1 => exact h2
  | ok a v1 =>
    obtain ⟨rfl, hq⟩ := h2
    exact (hf a hq).out v1 es1 hm

theorem still_pure {α : Type} {Q : α → Prop} {a : α} (h : Q a) : Still P B Q (Pure.pure a : Sem α) := fun _ _ _ => ⟨rfl, h⟩
theorem still_lost {α : Type} {Q : α → Prop} {h : Halt} (hh : lost h) : Still P B Q (Sem.halt h : Sem α) := fun _ _ _ => hh
theorem still_bind {α β : Type} {Q : α → Prop} {Q' : β → Prop} {s : Sem α} {f : α → Sem β} (hs : Still P B Q s) (hf : ∀ a, Q a → Still P B Q' (f a)) : Still P B Q' (s >>= f) := by
  intro v es hm
  have h2 := hs v es hm
  rw [runT_bind_eq]
  rcases hr : s.runT P v es with ⟨r, es1⟩
  rw [hr] at h2
  cases r with
  | halt h v1 => exact h2
  | ok a v1 =>
    obtain ⟨rfl, hq⟩ := h2
    exact hf a hq v1 es1 hm
theorem still_shape (r : Nat) : Still P B (fun s => B r → s = none) (shape r) := fun _ _ hm => ⟨rfl, fun hb => hm.shape? hb⟩
theorem still_program : Still P B (fun p => p = P) program := fun _ _ _ => ⟨rfl, rfl⟩
theorem still_getObj (r : Nat) : Still P B (fun o => B r → o = poison r) (getObj r) := by
  intro v es hm
  simp only [getObj, Sem.runT]
  cases hv : v.heap[r]? with
  | none => trivial
  | some o =>
    have h : B r → o = poison r := fun hb => by rw [hm r hb] at hv; exact (Option.some.inj hv).symm
    cases o <;> first | trivial | exact ⟨rfl, h⟩
theorem still_numberAt (r : Nat) : Still P B (fun o => B r → o = none) (numberAt r) := by
  unfold numberAt
  refine still_bind (still_shape r) fun s hs => ?_
  split
  · exact still_pure fun _ => rfl
  · refine still_bind (still_getObj r) fun o ho => ?_
    split
    · exact still_pure fun hb => by cases ho hb
    · exact still_pure fun _ => rfl
theorem still_viewAt (r : Nat) : Still P B (fun o => B r → o.isSome = true) (viewAt r) := by
  unfold viewAt
  refine still_bind (still_shape r) fun s hs => ?_
  split
  · rename_i h
    exact still_pure fun hb => by rw [hs hb] at h; cases h
  · refine still_bind (still_getObj r) fun o ho => ?_
    split
    · exact still_pure fun _ => rfl
    · rename_i h
      exact still_pure fun hb => absurd (ho hb) (h _ _)
theorem still_behind (a : Addr) : Still P B (fun x => B a.block → x = (a, false)) (behindNumber a) := by
  unfold behindNumber
  exact still_bind (still_numberAt _) fun o ho => still_pure fun hb => by rw [ho hb]; rfl
theorem still_asInt (v : Value) : Still P B (fun _ => True) (asInt v) := by
  unfold asInt
  refine still_bind (Q := fun _ => True) ?_ fun _ _ => still_pure trivial
  unfold asIntOf
  split
  · exact still_pure trivial
  · exact still_lost trivial
  · exact still_lost trivial

theorem loc_behind (n : Addr) {β : Type} {Q : β → Prop} {f : Addr × Bool → Sem β} (hd : B n.block → Dead P B (f (n, false))) (hf : ∀ x, Loc P B Q (f x)) : Loc P B Q (behindNumber n >>= f) := by
  have e : (behindNumber n >>= f) = (numberAt n.block >>= fun o => f (o.getD (n, false))) := by
    unfold behindNumber
    rw [bind_assoc]
    simp only [pure_bind]
  rw [e]
  exact loc_numberAt _ hd fun o _ => hf _

theorem Dead.program {β : Type} {f : Program → Sem β} (h : Dead P B (f P)) : Dead P B (Go.program >>= f) :=
  dead_after still_program fun p hp => by subst hp; exact h


theorem loc_twoPlaces (a b : Addr) : Loc P B (fun _ => True) (Op.twoPlaces a b) := by
  unfold Op.twoPlaces
  (repeat' (first
    | assumption
    | exact Loc.pure trivial
    | exact Loc.halt trivial
    | exact loc_stuck _
    | exact loc_unsupported _
    | exact loc_goPanic _
    | exact Loc.load _
    | exact Loc.store _ _
    | exact Loc.freeze _ _
    | exact Loc.frozen _
    | exact Loc.choose _
    | exact Loc.mono (Loc.shape _) (fun _ _ => trivial)
    | exact Loc.mono (Loc.newObj _) (fun _ _ => trivial)
    | exact Loc.mono Loc.program (fun _ _ => trivial)
    | exact loc_typeInfo _
    | exact loc_underlying _
    | exact loc_zeroValue _
    | exact loc_sizeOf _
    | exact loc_part _ _ _
    | exact loc_runtimePanic _
    | exact loc_asInt _
    | exact loc_asBool _
    | exact loc_sameAddr _ _
    | exact loc_samePointer _ _
    | exact loc_byteOf _
    | apply_assumption -exfalso -symm
    | refine Loc.bind (Loc.load _) ?_
    | refine Loc.bind (Loc.store _ _) ?_
    | refine Loc.bind Loc.program ?_
    | refine Loc.bind (Loc.shape _) ?_
    | refine Loc.bind (Loc.newObj _) ?_
    | refine Loc.bind (Loc.choose _) ?_
    | refine Loc.bind (loc_typeInfo _) ?_
    | refine Loc.bind (loc_underlying _) ?_
    | refine Loc.bind (loc_zeroValue _) ?_
    | refine Loc.bind (loc_sizeOf _) ?_
    | refine Loc.bind (loc_part _ _ _) ?_
    | refine Loc.bind (loc_runtimePanic _) ?_
    | refine Loc.bind (loc_asInt _) ?_
    | refine Loc.bind (loc_asBool _) ?_
    | refine Loc.bind (loc_sameAddr _ _) ?_
    | refine Loc.bind (loc_samePointer _ _) ?_
    | refine Loc.bind (loc_byteOf _) ?_
    | refine Loc.bind (loc_forInArray (fun _ _ => ?_) _ _) ?_
    | refine Loc.bind (loc_forInRange (fun _ _ => ?_) _ _) ?_
    | refine Loc.bind (Q' := fun _ => True) ?_ ?_
    | (intro _ _; skip)
    | (extract_lets -underBinder +onlyGivenNames j; refine jpcut (j := j) ?_ ?_; intro u; subst j; dsimp -zeta only; rotate_left; intro hj; clear_value j)
    | (extract_lets -underBinder +onlyGivenNames j; refine jpcut0 (j := j) ?_ ?_; subst j; rotate_left; intro hj; clear_value j)
    | (extract_lets -underBinder +onlyGivenNames j; clear_value j)
    | split
    | (dsimp only; skip)))
theorem dead_twoPlaces (hG : ∀ k, B k → P.globals.size ≤ k) {a b : Addr} (h : B a.block ∨ B b.block) : Dead P B (Op.twoPlaces a b) := by
  unfold Op.twoPlaces
  refine Dead.program ?_
  have hc : (a.block != b.block || decide (a.block ≥ P.globals.size)) = true := by
    rcases h with h | h
    · simp [hG _ h]
    · by_cases e : a.block = b.block
      · simp [e, hG _ h]
      · simp [e]
  extract_lets j
  rw [if_pos hc]
  exact Dead.bind (dead_unsupported _)
theorem loc_addrSub (k : IntKind) (a b : Addr) : Loc P B (fun _ => True) (Op.addrSub k a b) := by
  unfold Op.addrSub
  (repeat' (first
    | assumption
    | exact Loc.pure trivial
    | exact Loc.halt trivial
    | exact loc_stuck _
    | exact loc_unsupported _
    | exact loc_goPanic _
    | exact Loc.load _
    | exact Loc.store _ _
    | exact Loc.freeze _ _
    | exact Loc.frozen _
    | exact Loc.choose _
    | exact Loc.mono (Loc.shape _) (fun _ _ => trivial)
    | exact Loc.mono (Loc.newObj _) (fun _ _ => trivial)
    | exact Loc.mono Loc.program (fun _ _ => trivial)
    | exact loc_typeInfo _
    | exact loc_underlying _
    | exact loc_zeroValue _
    | exact loc_sizeOf _
    | exact loc_part _ _ _
    | exact loc_runtimePanic _
    | exact loc_asInt _
    | exact loc_asBool _
    | exact loc_sameAddr _ _
    | exact loc_samePointer _ _
    | exact loc_byteOf _
    | exact loc_twoPlaces _ _
    | apply_assumption -exfalso -symm
    | refine Loc.bind (Loc.load _) ?_
    | refine Loc.bind (Loc.store _ _) ?_
    | refine Loc.bind Loc.program ?_
    | refine Loc.bind (Loc.shape _) ?_
    | refine Loc.bind (Loc.newObj _) ?_
    | refine Loc.bind (Loc.choose _) ?_
    | refine Loc.bind (loc_typeInfo _) ?_
    | refine Loc.bind (loc_underlying _) ?_
    | refine Loc.bind (loc_zeroValue _) ?_
    | refine Loc.bind (loc_sizeOf _) ?_
    | refine Loc.bind (loc_part _ _ _) ?_
    | refine Loc.bind (loc_runtimePanic _) ?_
    | refine Loc.bind (loc_asInt _) ?_
    | refine Loc.bind (loc_asBool _) ?_
    | refine Loc.bind (loc_sameAddr _ _) ?_
    | refine Loc.bind (loc_samePointer _ _) ?_
    | refine Loc.bind (loc_byteOf _) ?_
    | refine Loc.bind (loc_twoPlaces _ _) ?_
    | refine Loc.bind (loc_forInArray (fun _ _ => ?_) _ _) ?_
    | refine Loc.bind (loc_forInRange (fun _ _ => ?_) _ _) ?_
    | refine Loc.bind (Q' := fun _ => True) ?_ ?_
    | (intro _ _; skip)
    | (extract_lets -underBinder +onlyGivenNames j; refine jpcut (j := j) ?_ ?_; intro u; subst j; dsimp -zeta only; rotate_left; intro hj; clear_value j)
    | (extract_lets -underBinder +onlyGivenNames j; refine jpcut0 (j := j) ?_ ?_; subst j; rotate_left; intro hj; clear_value j)
    | (extract_lets -underBinder +onlyGivenNames j; clear_value j)
    | split
    | (dsimp only; skip)))
theorem loc_addrCmp (op : BinOp) (a b : Addr) : Loc P B (fun _ => True) (Op.addrCmp op a b) := by
  unfold Op.addrCmp
  (repeat' (first
    | assumption
    | exact Loc.pure trivial
    | exact Loc.halt trivial
    | exact loc_stuck _
    | exact loc_unsupported _
    | exact loc_goPanic _
    | exact Loc.load _
    | exact Loc.store _ _
    | exact Loc.freeze _ _
    | exact Loc.frozen _
    | exact Loc.choose _
    | exact Loc.mono (Loc.shape _) (fun _ _ => trivial)
    | exact Loc.mono (Loc.newObj _) (fun _ _ => trivial)
    | exact Loc.mono Loc.program (fun _ _ => trivial)
    | exact loc_typeInfo _
    | exact loc_underlying _
    | exact loc_zeroValue _
    | exact loc_sizeOf _
    | exact loc_part _ _ _
    | exact loc_runtimePanic _
    | exact loc_asInt _
    | exact loc_asBool _
    | exact loc_sameAddr _ _
    | exact loc_samePointer _ _
    | exact loc_byteOf _
    | exact loc_twoPlaces _ _
    | exact loc_addrSub _ _ _
    | apply_assumption -exfalso -symm
    | refine Loc.bind (Loc.load _) ?_
    | refine Loc.bind (Loc.store _ _) ?_
    | refine Loc.bind Loc.program ?_
    | refine Loc.bind (Loc.shape _) ?_
    | refine Loc.bind (Loc.newObj _) ?_
    | refine Loc.bind (Loc.choose _) ?_
    | refine Loc.bind (loc_typeInfo _) ?_
    | refine Loc.bind (loc_underlying _) ?_
    | refine Loc.bind (loc_zeroValue _) ?_
    | refine Loc.bind (loc_sizeOf _) ?_
    | refine Loc.bind (loc_part _ _ _) ?_
    | refine Loc.bind (loc_runtimePanic _) ?_
    | refine Loc.bind (loc_asInt _) ?_
    | refine Loc.bind (loc_asBool _) ?_
    | refine Loc.bind (loc_sameAddr _ _) ?_
    | refine Loc.bind (loc_samePointer _ _) ?_
    | refine Loc.bind (loc_byteOf _) ?_
    | refine Loc.bind (loc_twoPlaces _ _) ?_
    | refine Loc.bind (loc_addrSub _ _ _) ?_
    | refine Loc.bind (loc_forInArray (fun _ _ => ?_) _ _) ?_
    | refine Loc.bind (loc_forInRange (fun _ _ => ?_) _ _) ?_
    | refine Loc.bind (Q' := fun _ => True) ?_ ?_
    | (intro _ _; skip)
    | (extract_lets -underBinder +onlyGivenNames j; refine jpcut (j := j) ?_ ?_; intro u; subst j; dsimp -zeta only; rotate_left; intro hj; clear_value j)
    | (extract_lets -underBinder +onlyGivenNames j; refine jpcut0 (j := j) ?_ ?_; subst j; rotate_left; intro hj; clear_value j)
    | (extract_lets -underBinder +onlyGivenNames j; clear_value j)
    | split
    | (dsimp only; skip)))
theorem loc_addrMod (k : IntKind) (a : Addr) (n : Int) : Loc P B (fun _ => True) (Op.addrMod k a n) := by
  unfold Op.addrMod
  (repeat' (first
    | assumption
    | exact Loc.pure trivial
    | exact Loc.halt trivial
    | exact loc_stuck _
    | exact loc_unsupported _
    | exact loc_goPanic _
    | exact Loc.load _
    | exact Loc.store _ _
    | exact Loc.freeze _ _
    | exact Loc.frozen _
    | exact Loc.choose _
    | exact Loc.mono (Loc.shape _) (fun _ _ => trivial)
    | exact Loc.mono (Loc.newObj _) (fun _ _ => trivial)
    | exact Loc.mono Loc.program (fun _ _ => trivial)
    | exact loc_typeInfo _
    | exact loc_underlying _
    | exact loc_zeroValue _
    | exact loc_sizeOf _
    | exact loc_part _ _ _
    | exact loc_runtimePanic _
    | exact loc_asInt _
    | exact loc_asBool _
    | exact loc_sameAddr _ _
    | exact loc_samePointer _ _
    | exact loc_byteOf _
    | exact loc_twoPlaces _ _
    | exact loc_addrSub _ _ _
    | exact loc_addrCmp _ _ _
    | apply_assumption -exfalso -symm
    | refine Loc.bind (Loc.load _) ?_
    | refine Loc.bind (Loc.store _ _) ?_
    | refine Loc.bind Loc.program ?_
    | refine Loc.bind (Loc.shape _) ?_
    | refine Loc.bind (Loc.newObj _) ?_
    | refine Loc.bind (Loc.choose _) ?_
    | refine Loc.bind (loc_typeInfo _) ?_
    | refine Loc.bind (loc_underlying _) ?_
    | refine Loc.bind (loc_zeroValue _) ?_
    | refine Loc.bind (loc_sizeOf _) ?_
    | refine Loc.bind (loc_part _ _ _) ?_
    | refine Loc.bind (loc_runtimePanic _) ?_
    | refine Loc.bind (loc_asInt _) ?_
    | refine Loc.bind (loc_asBool _) ?_
    | refine Loc.bind (loc_sameAddr _ _) ?_
    | refine Loc.bind (loc_samePointer _ _) ?_
    | refine Loc.bind (loc_byteOf _) ?_
    | refine Loc.bind (loc_twoPlaces _ _) ?_
    | refine Loc.bind (loc_addrSub _ _ _) ?_
    | refine Loc.bind (loc_addrCmp _ _ _) ?_
    | refine Loc.bind (loc_forInArray (fun _ _ => ?_) _ _) ?_
    | refine Loc.bind (loc_forInRange (fun _ _ => ?_) _ _) ?_
    | refine Loc.bind (Q' := fun _ => True) ?_ ?_
    | (intro _ _; skip)
    | (extract_lets -underBinder +onlyGivenNames j; refine jpcut (j := j) ?_ ?_; intro u; subst j; dsimp -zeta only; rotate_left; intro hj; clear_value j)
    | (extract_lets -underBinder +onlyGivenNames j; refine jpcut0 (j := j) ?_ ?_; subst j; rotate_left; intro hj; clear_value j)
    | (extract_lets -underBinder +onlyGivenNames j; clear_value j)
    | split
    | (dsimp only; skip)))
theorem loc_subAt (hG : ∀ k, B k → P.globals.size ≤ k) (k : IntKind) (a b : Addr) : Loc P B (fun _ => True) (do Op.addrSub k (← behindNumber a).1 (← behindNumber b).1) := by
  refine loc_behind a (fun hb => ?_) fun x => loc_behind b (fun hb => ?_) fun y => loc_addrSub _ _ _
  · refine dead_after (still_behind b) fun y _ => ?_
    unfold Op.addrSub
    exact Dead.bind (dead_twoPlaces hG (.inl hb))
  · unfold Op.addrSub
    exact Dead.bind (dead_twoPlaces hG (.inr hb))
theorem loc_cmpAt (hG : ∀ k, B k → P.globals.size ≤ k) (op : BinOp) (a b : Addr) : Loc P B (fun _ => True) (do Op.addrCmp op (← behindNumber a).1 (← behindNumber b).1) := by
  refine loc_behind a (fun hb => ?_) fun x => loc_behind b (fun hb => ?_) fun y => loc_addrCmp _ _ _
  · refine dead_after (still_behind b) fun y _ => ?_
    unfold Op.addrCmp
    exact Dead.bind (dead_twoPlaces hG (.inl hb))
  · unfold Op.addrCmp
    exact Dead.bind (dead_twoPlaces hG (.inr hb))
theorem loc_modAt (k : IntKind) (a : Addr) (n : Int) : Loc P B (fun _ => True) (do Op.addrMod k (← behindNumber a).1 n) := by
  refine loc_behind a (fun hb => ?_) fun x => loc_addrMod _ _ _
  unfold Op.addrMod
  refine dead_after (still_shape _) fun s hs => ?_
  rw [hs hb]
  exact dead_unsupported _

theorem loc_unsafeAddAt (t : TypeId) (a : Addr) (y : Value) : Loc P B (fun _ => True) (Builtin.unsafeAdd_ #[] t #[.pointer (some a), y]) := by
  unfold Builtin.unsafeAdd_
  refine Loc.bind (loc_asInt y) fun n _ => ?_
  dsimp only
  split
  · refine loc_viewAt _ (fun hb x => Dead.bind (dead_unsupported _)) fun o _ => ?_
    (repeat' (first
    | assumption
    | exact Loc.pure trivial
    | exact Loc.halt trivial
    | exact loc_stuck _
    | exact loc_unsupported _
    | exact loc_goPanic _
    | exact Loc.load _
    | exact Loc.store _ _
    | exact Loc.freeze _ _
    | exact Loc.frozen _
    | exact Loc.choose _
    | exact Loc.mono (Loc.shape _) (fun _ _ => trivial)
    | exact Loc.mono (Loc.newObj _) (fun _ _ => trivial)
    | exact Loc.mono Loc.program (fun _ _ => trivial)
    | exact loc_typeInfo _
    | exact loc_underlying _
    | exact loc_zeroValue _
    | exact loc_sizeOf _
    | exact loc_part _ _ _
    | exact loc_runtimePanic _
    | exact loc_asInt _
    | exact loc_asBool _
    | exact loc_sameAddr _ _
    | exact loc_samePointer _ _
    | exact loc_byteOf _
    | exact loc_twoPlaces _ _
    | exact loc_addrSub _ _ _
    | exact loc_addrCmp _ _ _
    | exact loc_addrMod _ _ _
    | apply_assumption -exfalso -symm
    | refine Loc.bind (Loc.load _) ?_
    | refine Loc.bind (Loc.store _ _) ?_
    | refine Loc.bind Loc.program ?_
    | refine Loc.bind (Loc.shape _) ?_
    | refine Loc.bind (Loc.newObj _) ?_
    | refine Loc.bind (Loc.choose _) ?_
    | refine Loc.bind (loc_typeInfo _) ?_
    | refine Loc.bind (loc_underlying _) ?_
    | refine Loc.bind (loc_zeroValue _) ?_
    | refine Loc.bind (loc_sizeOf _) ?_
    | refine Loc.bind (loc_part _ _ _) ?_
    | refine Loc.bind (loc_runtimePanic _) ?_
    | refine Loc.bind (loc_asInt _) ?_
    | refine Loc.bind (loc_asBool _) ?_
    | refine Loc.bind (loc_sameAddr _ _) ?_
    | refine Loc.bind (loc_samePointer _ _) ?_
    | refine Loc.bind (loc_byteOf _) ?_
    | refine Loc.bind (loc_twoPlaces _ _) ?_
    | refine Loc.bind (loc_addrSub _ _ _) ?_
    | refine Loc.bind (loc_addrCmp _ _ _) ?_
    | refine Loc.bind (loc_addrMod _ _ _) ?_
    | refine Loc.bind (loc_forInArray (fun _ _ => ?_) _ _) ?_
    | refine Loc.bind (loc_forInRange (fun _ _ => ?_) _ _) ?_
    | refine Loc.bind (Q' := fun _ => True) ?_ ?_
    | (intro _ _; skip)
    | (extract_lets -underBinder +onlyGivenNames j; refine jpcut (j := j) ?_ ?_; intro u; subst j; dsimp -zeta only; rotate_left; intro hj; clear_value j)
    | (extract_lets -underBinder +onlyGivenNames j; refine jpcut0 (j := j) ?_ ?_; subst j; rotate_left; intro hj; clear_value j)
    | (extract_lets -underBinder +onlyGivenNames j; clear_value j)
    | split
    | (dsimp only; skip)))
  · (repeat' (first
    | assumption
    | exact Loc.pure trivial
    | exact Loc.halt trivial
    | exact loc_stuck _
    | exact loc_unsupported _
    | exact loc_goPanic _
    | exact Loc.load _
    | exact Loc.store _ _
    | exact Loc.freeze _ _
    | exact Loc.frozen _
    | exact Loc.choose _
    | exact Loc.mono (Loc.shape _) (fun _ _ => trivial)
    | exact Loc.mono (Loc.newObj _) (fun _ _ => trivial)
    | exact Loc.mono Loc.program (fun _ _ => trivial)
    | exact loc_typeInfo _
    | exact loc_underlying _
    | exact loc_zeroValue _
    | exact loc_sizeOf _
    | exact loc_part _ _ _
    | exact loc_runtimePanic _
    | exact loc_asInt _
    | exact loc_asBool _
    | exact loc_sameAddr _ _
    | exact loc_samePointer _ _
    | exact loc_byteOf _
    | exact loc_twoPlaces _ _
    | exact loc_addrSub _ _ _
    | exact loc_addrCmp _ _ _
    | exact loc_addrMod _ _ _
    | apply_assumption -exfalso -symm
    | refine Loc.bind (Loc.load _) ?_
    | refine Loc.bind (Loc.store _ _) ?_
    | refine Loc.bind Loc.program ?_
    | refine Loc.bind (Loc.shape _) ?_
    | refine Loc.bind (Loc.newObj _) ?_
    | refine Loc.bind (Loc.choose _) ?_
    | refine Loc.bind (loc_typeInfo _) ?_
    | refine Loc.bind (loc_underlying _) ?_
    | refine Loc.bind (loc_zeroValue _) ?_
    | refine Loc.bind (loc_sizeOf _) ?_
    | refine Loc.bind (loc_part _ _ _) ?_
    | refine Loc.bind (loc_runtimePanic _) ?_
    | refine Loc.bind (loc_asInt _) ?_
    | refine Loc.bind (loc_asBool _) ?_
    | refine Loc.bind (loc_sameAddr _ _) ?_
    | refine Loc.bind (loc_samePointer _ _) ?_
    | refine Loc.bind (loc_byteOf _) ?_
    | refine Loc.bind (loc_twoPlaces _ _) ?_
    | refine Loc.bind (loc_addrSub _ _ _) ?_
    | refine Loc.bind (loc_addrCmp _ _ _) ?_
    | refine Loc.bind (loc_addrMod _ _ _) ?_
    | refine Loc.bind (loc_forInArray (fun _ _ => ?_) _ _) ?_
    | refine Loc.bind (loc_forInRange (fun _ _ => ?_) _ _) ?_
    | refine Loc.bind (Q' := fun _ => True) ?_ ?_
    | (intro _ _; skip)
    | (extract_lets -underBinder +onlyGivenNames j; refine jpcut (j := j) ?_ ?_; intro u; subst j; dsimp -zeta only; rotate_left; intro hj; clear_value j)
    | (extract_lets -underBinder +onlyGivenNames j; refine jpcut0 (j := j) ?_ ?_; subst j; rotate_left; intro hj; clear_value j)
    | (extract_lets -underBinder +onlyGivenNames j; clear_value j)
    | split
    | (dsimp only; skip)))
theorem dead_unsafeAddAt (t : TypeId) {a : Addr} (hb : B a.block) (y : Value) : Dead P B (Builtin.unsafeAdd_ #[] t #[.pointer (some a), y]) := by
  unfold Builtin.unsafeAdd_
  refine dead_after (still_asInt y) fun n _ => ?_
  dsimp only
  split
  · refine dead_after (still_viewAt _) fun o ho => ?_
    rw [if_pos (ho hb)]
    exact Dead.bind (dead_unsupported _)
  · split
    · exact Dead.bind (dead_unsupported _)
    · refine dead_after (still_shape _) fun s hs => ?_
      rw [hs hb]
      exact dead_unsupported _
theorem loc_unsafeAddNil (t : TypeId) (x y : Value) (hx : ∀ a, x ≠ .pointer (some a)) : Loc P B (fun _ => True) (Builtin.unsafeAdd_ #[] t #[x, y]) := by
  cases x with
  | pointer p =>
    cases p with
    | some a => exact absurd rfl (hx a)
    | none =>
      unfold Builtin.unsafeAdd_
      refine Loc.bind (loc_asInt y) fun n _ => ?_
      (repeat' (first
    | assumption
    | exact Loc.pure trivial
    | exact Loc.halt trivial
    | exact loc_stuck _
    | exact loc_unsupported _
    | exact loc_goPanic _
    | exact Loc.load _
    | exact Loc.store _ _
    | exact Loc.freeze _ _
    | exact Loc.frozen _
    | exact Loc.choose _
    | exact Loc.mono (Loc.shape _) (fun _ _ => trivial)
    | exact Loc.mono (Loc.newObj _) (fun _ _ => trivial)
    | exact Loc.mono Loc.program (fun _ _ => trivial)
    | exact loc_typeInfo _
    | exact loc_underlying _
    | exact loc_zeroValue _
    | exact loc_sizeOf _
    | exact loc_part _ _ _
    | exact loc_runtimePanic _
    | exact loc_asInt _
    | exact loc_asBool _
    | exact loc_sameAddr _ _
    | exact loc_samePointer _ _
    | exact loc_byteOf _
    | exact loc_twoPlaces _ _
    | exact loc_addrSub _ _ _
    | exact loc_addrCmp _ _ _
    | exact loc_addrMod _ _ _
    | apply_assumption -exfalso -symm
    | refine Loc.bind (Loc.load _) ?_
    | refine Loc.bind (Loc.store _ _) ?_
    | refine Loc.bind Loc.program ?_
    | refine Loc.bind (Loc.shape _) ?_
    | refine Loc.bind (Loc.newObj _) ?_
    | refine Loc.bind (Loc.choose _) ?_
    | refine Loc.bind (loc_typeInfo _) ?_
    | refine Loc.bind (loc_underlying _) ?_
    | refine Loc.bind (loc_zeroValue _) ?_
    | refine Loc.bind (loc_sizeOf _) ?_
    | refine Loc.bind (loc_part _ _ _) ?_
    | refine Loc.bind (loc_runtimePanic _) ?_
    | refine Loc.bind (loc_asInt _) ?_
    | refine Loc.bind (loc_asBool _) ?_
    | refine Loc.bind (loc_sameAddr _ _) ?_
    | refine Loc.bind (loc_samePointer _ _) ?_
    | refine Loc.bind (loc_byteOf _) ?_
    | refine Loc.bind (loc_twoPlaces _ _) ?_
    | refine Loc.bind (loc_addrSub _ _ _) ?_
    | refine Loc.bind (loc_addrCmp _ _ _) ?_
    | refine Loc.bind (loc_addrMod _ _ _) ?_
    | refine Loc.bind (loc_forInArray (fun _ _ => ?_) _ _) ?_
    | refine Loc.bind (loc_forInRange (fun _ _ => ?_) _ _) ?_
    | refine Loc.bind (Q' := fun _ => True) ?_ ?_
    | (intro _ _; skip)
    | (extract_lets -underBinder +onlyGivenNames j; refine jpcut (j := j) ?_ ?_; intro u; subst j; dsimp -zeta only; rotate_left; intro hj; clear_value j)
    | (extract_lets -underBinder +onlyGivenNames j; refine jpcut0 (j := j) ?_ ?_; subst j; rotate_left; intro hj; clear_value j)
    | (extract_lets -underBinder +onlyGivenNames j; clear_value j)
    | split
    | (dsimp only; skip)))
  | _ => exact loc_stuck _
theorem loc_asNumber (a : Addr) (l : Bool) : Loc P B (fun _ => True) (asNumber a l) := by
  unfold asNumber
  (repeat' (first
    | assumption
    | exact Loc.pure trivial
    | exact Loc.halt trivial
    | exact loc_stuck _
    | exact loc_unsupported _
    | exact loc_goPanic _
    | exact Loc.load _
    | exact Loc.store _ _
    | exact Loc.freeze _ _
    | exact Loc.frozen _
    | exact Loc.choose _
    | exact Loc.mono (Loc.shape _) (fun _ _ => trivial)
    | exact Loc.mono (Loc.newObj _) (fun _ _ => trivial)
    | exact Loc.mono Loc.program (fun _ _ => trivial)
    | exact loc_typeInfo _
    | exact loc_underlying _
    | exact loc_zeroValue _
    | exact loc_sizeOf _
    | exact loc_part _ _ _
    | exact loc_runtimePanic _
    | exact loc_asInt _
    | exact loc_asBool _
    | exact loc_sameAddr _ _
    | exact loc_samePointer _ _
    | exact loc_byteOf _
    | exact loc_twoPlaces _ _
    | exact loc_addrSub _ _ _
    | exact loc_addrCmp _ _ _
    | exact loc_addrMod _ _ _
    | apply_assumption -exfalso -symm
    | refine Loc.bind (Loc.load _) ?_
    | refine Loc.bind (Loc.store _ _) ?_
    | refine Loc.bind Loc.program ?_
    | refine Loc.bind (Loc.shape _) ?_
    | refine Loc.bind (Loc.newObj _) ?_
    | refine Loc.bind (Loc.choose _) ?_
    | refine Loc.bind (loc_typeInfo _) ?_
    | refine Loc.bind (loc_underlying _) ?_
    | refine Loc.bind (loc_zeroValue _) ?_
    | refine Loc.bind (loc_sizeOf _) ?_
    | refine Loc.bind (loc_part _ _ _) ?_
    | refine Loc.bind (loc_runtimePanic _) ?_
    | refine Loc.bind (loc_asInt _) ?_
    | refine Loc.bind (loc_asBool _) ?_
    | refine Loc.bind (loc_sameAddr _ _) ?_
    | refine Loc.bind (loc_samePointer _ _) ?_
    | refine Loc.bind (loc_byteOf _) ?_
    | refine Loc.bind (loc_twoPlaces _ _) ?_
    | refine Loc.bind (loc_addrSub _ _ _) ?_
    | refine Loc.bind (loc_addrCmp _ _ _) ?_
    | refine Loc.bind (loc_addrMod _ _ _) ?_
    | refine Loc.bind (loc_forInArray (fun _ _ => ?_) _ _) ?_
    | refine Loc.bind (loc_forInRange (fun _ _ => ?_) _ _) ?_
    | refine Loc.bind (Q' := fun _ => True) ?_ ?_
    | (intro _ _; skip)
    | (extract_lets -underBinder +onlyGivenNames j; refine jpcut (j := j) ?_ ?_; intro u; subst j; dsimp -zeta only; rotate_left; intro hj; clear_value j)
    | (extract_lets -underBinder +onlyGivenNames j; refine jpcut0 (j := j) ?_ ?_; subst j; rotate_left; intro hj; clear_value j)
    | (extract_lets -underBinder +onlyGivenNames j; clear_value j)
    | split
    | (dsimp only; skip)))
theorem loc_movedNumber (t : TypeId) (x y : Value) : Loc P B (fun _ => True) (movedNumber t x y) := by
  unfold movedNumber
  refine Loc.bind (loc_underlying _) fun d _ => ?_
  extract_lets -underBinder +onlyGivenNames j
  have hj : ∀ u, Loc P B (fun _ => True) (j u) := by
    intro u
    subst j
    dsimp -zeta only
    split
    · rename_i n
      refine loc_behind n (fun hb => ?_) fun x => ?_
      · exact Dead.bind (dead_unsafeAddAt t hb y)
      · refine Loc.bind (loc_unsafeAddAt _ _ _) fun v _ => ?_
        split
        · exact loc_asNumber _ _
        · exact Loc.pure trivial
    · rename_i h
      exact loc_unsafeAddNil t _ _ (fun a e => h a e)
  clear_value j
  (repeat' (first
    | assumption
    | exact Loc.pure trivial
    | exact Loc.halt trivial
    | exact loc_stuck _
    | exact loc_unsupported _
    | exact loc_goPanic _
    | exact Loc.load _
    | exact Loc.store _ _
    | exact Loc.freeze _ _
    | exact Loc.frozen _
    | exact Loc.choose _
    | exact Loc.mono (Loc.shape _) (fun _ _ => trivial)
    | exact Loc.mono (Loc.newObj _) (fun _ _ => trivial)
    | exact Loc.mono Loc.program (fun _ _ => trivial)
    | exact loc_typeInfo _
    | exact loc_underlying _
    | exact loc_zeroValue _
    | exact loc_sizeOf _
    | exact loc_part _ _ _
    | exact loc_runtimePanic _
    | exact loc_asInt _
    | exact loc_asBool _
    | exact loc_sameAddr _ _
    | exact loc_samePointer _ _
    | exact loc_byteOf _
    | exact loc_twoPlaces _ _
    | exact loc_addrSub _ _ _
    | exact loc_addrCmp _ _ _
    | exact loc_addrMod _ _ _
    | apply_assumption -exfalso -symm
    | refine Loc.bind (Loc.load _) ?_
    | refine Loc.bind (Loc.store _ _) ?_
    | refine Loc.bind Loc.program ?_
    | refine Loc.bind (Loc.shape _) ?_
    | refine Loc.bind (Loc.newObj _) ?_
    | refine Loc.bind (Loc.choose _) ?_
    | refine Loc.bind (loc_typeInfo _) ?_
    | refine Loc.bind (loc_underlying _) ?_
    | refine Loc.bind (loc_zeroValue _) ?_
    | refine Loc.bind (loc_sizeOf _) ?_
    | refine Loc.bind (loc_part _ _ _) ?_
    | refine Loc.bind (loc_runtimePanic _) ?_
    | refine Loc.bind (loc_asInt _) ?_
    | refine Loc.bind (loc_asBool _) ?_
    | refine Loc.bind (loc_sameAddr _ _) ?_
    | refine Loc.bind (loc_samePointer _ _) ?_
    | refine Loc.bind (loc_byteOf _) ?_
    | refine Loc.bind (loc_twoPlaces _ _) ?_
    | refine Loc.bind (loc_addrSub _ _ _) ?_
    | refine Loc.bind (loc_addrCmp _ _ _) ?_
    | refine Loc.bind (loc_addrMod _ _ _) ?_
    | refine Loc.bind (loc_forInArray (fun _ _ => ?_) _ _) ?_
    | refine Loc.bind (loc_forInRange (fun _ _ => ?_) _ _) ?_
    | refine Loc.bind (Q' := fun _ => True) ?_ ?_
    | (intro _ _; skip)
    | (extract_lets -underBinder +onlyGivenNames j; refine jpcut (j := j) ?_ ?_; intro u; subst j; dsimp -zeta only; rotate_left; intro hj; clear_value j)
    | (extract_lets -underBinder +onlyGivenNames j; refine jpcut0 (j := j) ?_ ?_; subst j; rotate_left; intro hj; clear_value j)
    | (extract_lets -underBinder +onlyGivenNames j; clear_value j)
    | split
    | (dsimp only; skip)))
theorem loc_movedPointer (t : TypeId) (x y : Value) : Loc P B (fun _ => True) (movedPointer t x y) := by
  unfold movedPointer
  split
  · rename_i a
    refine loc_numberAt _ (fun hb => ?_) fun o _ => ?_
    · exact dead_unsafeAddAt t hb y
    · have := @loc_unsafeAddAt P B t a y
      (repeat' (first
    | assumption
    | exact Loc.pure trivial
    | exact Loc.halt trivial
    | exact loc_stuck _
    | exact loc_unsupported _
    | exact loc_goPanic _
    | exact Loc.load _
    | exact Loc.store _ _
    | exact Loc.freeze _ _
    | exact Loc.frozen _
    | exact Loc.choose _
    | exact Loc.mono (Loc.shape _) (fun _ _ => trivial)
    | exact Loc.mono (Loc.newObj _) (fun _ _ => trivial)
    | exact Loc.mono Loc.program (fun _ _ => trivial)
    | exact loc_typeInfo _
    | exact loc_underlying _
    | exact loc_zeroValue _
    | exact loc_sizeOf _
    | exact loc_part _ _ _
    | exact loc_runtimePanic _
    | exact loc_asInt _
    | exact loc_asBool _
    | exact loc_sameAddr _ _
    | exact loc_samePointer _ _
    | exact loc_byteOf _
    | exact loc_twoPlaces _ _
    | exact loc_addrSub _ _ _
    | exact loc_addrCmp _ _ _
    | exact loc_addrMod _ _ _
    | apply_assumption -exfalso -symm
    | refine Loc.bind (Loc.load _) ?_
    | refine Loc.bind (Loc.store _ _) ?_
    | refine Loc.bind Loc.program ?_
    | refine Loc.bind (Loc.shape _) ?_
    | refine Loc.bind (Loc.newObj _) ?_
    | refine Loc.bind (Loc.choose _) ?_
    | refine Loc.bind (loc_typeInfo _) ?_
    | refine Loc.bind (loc_underlying _) ?_
    | refine Loc.bind (loc_zeroValue _) ?_
    | refine Loc.bind (loc_sizeOf _) ?_
    | refine Loc.bind (loc_part _ _ _) ?_
    | refine Loc.bind (loc_runtimePanic _) ?_
    | refine Loc.bind (loc_asInt _) ?_
    | refine Loc.bind (loc_asBool _) ?_
    | refine Loc.bind (loc_sameAddr _ _) ?_
    | refine Loc.bind (loc_samePointer _ _) ?_
    | refine Loc.bind (loc_byteOf _) ?_
    | refine Loc.bind (loc_twoPlaces _ _) ?_
    | refine Loc.bind (loc_addrSub _ _ _) ?_
    | refine Loc.bind (loc_addrCmp _ _ _) ?_
    | refine Loc.bind (loc_addrMod _ _ _) ?_
    | refine Loc.bind (loc_forInArray (fun _ _ => ?_) _ _) ?_
    | refine Loc.bind (loc_forInRange (fun _ _ => ?_) _ _) ?_
    | refine Loc.bind (Q' := fun _ => True) ?_ ?_
    | (intro _ _; skip)
    | (extract_lets -underBinder +onlyGivenNames j; refine jpcut (j := j) ?_ ?_; intro u; subst j; dsimp -zeta only; rotate_left; intro hj; clear_value j)
    | (extract_lets -underBinder +onlyGivenNames j; refine jpcut0 (j := j) ?_ ?_; subst j; rotate_left; intro hj; clear_value j)
    | (extract_lets -underBinder +onlyGivenNames j; clear_value j)
    | split
    | (dsimp only; skip)))
  · rename_i h
    exact loc_unsafeAddNil t _ _ (fun a e => h a e)
end
end Go.Co

/-
  FLOATS, EQUALITY, THE BINARY OPERATORS, CONVERSIONS: WELL BEHAVED.
-/
namespace Go.Co

section
variable {P : Program} {B : Nat → Prop}
theorem loc_intToInt (k : IntKind) (n : Int) : Loc P B (fun _ => True) (Conv.intToInt k n) := Loc.pure trivial
theorem loc_intToFloat (k : FloatKind) (n : Int) : Loc P B (fun _ => True) (Conv.intToFloat k n) := by
  unfold Conv.intToFloat
  (repeat' (first
    | assumption
    | exact Loc.pure trivial
    | exact Loc.halt trivial
    | exact loc_stuck _
    | exact loc_unsupported _
    | exact loc_goPanic _
    | exact Loc.load _
    | exact Loc.store _ _
    | exact Loc.freeze _ _
    | exact Loc.frozen _
    | exact Loc.choose _
    | exact Loc.mono (Loc.shape _) (fun _ _ => trivial)
    | exact Loc.mono (Loc.newObj _) (fun _ _ => trivial)
    | exact Loc.mono Loc.program (fun _ _ => trivial)
    | exact loc_typeInfo _
    | exact loc_underlying _
    | exact loc_sizeOf _
    | exact loc_part _ _ _
    | exact loc_runtimePanic _
    | exact loc_asBool _
    | exact loc_sameAddr _ _
    | exact loc_samePointer _ _
    | exact loc_byteOf _
    | exact loc_floatArith _ _ _ _
    | exact loc_floatCmp _ _ _ _
    | apply_assumption -exfalso -symm
    | refine Loc.bind (Loc.load _) ?_
    | refine Loc.bind (Loc.store _ _) ?_
    | refine Loc.bind Loc.program ?_
    | refine Loc.bind (Loc.shape _) ?_
    | refine Loc.bind (Loc.newObj _) ?_
    | refine Loc.bind (Loc.choose _) ?_
    | refine Loc.bind (loc_typeInfo _) ?_
    | refine Loc.bind (loc_underlying _) ?_
    | refine Loc.bind (loc_sizeOf _) ?_
    | refine Loc.bind (loc_part _ _ _) ?_
    | refine Loc.bind (loc_runtimePanic _) ?_
    | refine Loc.bind (loc_asBool _) ?_
    | refine Loc.bind (loc_sameAddr _ _) ?_
    | refine Loc.bind (loc_samePointer _ _) ?_
    | refine Loc.bind (loc_byteOf _) ?_
    | refine Loc.bind (loc_floatArith _ _ _ _) ?_
    | refine Loc.bind (loc_floatCmp _ _ _ _) ?_
    | refine Loc.bind (loc_forInArray (fun _ _ => ?_) _ _) ?_
    | refine Loc.bind (loc_forInRange (fun _ _ => ?_) _ _) ?_
    | refine Loc.bind (Q' := fun _ => True) ?_ ?_
    | (intro _ _; skip)
    | (extract_lets -underBinder +onlyGivenNames j; refine jpcut (j := j) ?_ ?_; intro u; subst j; dsimp -zeta only; rotate_left; intro hj; clear_value j)
    | (extract_lets -underBinder +onlyGivenNames j; refine jpcut0 (j := j) ?_ ?_; subst j; rotate_left; intro hj; clear_value j)
    | (extract_lets -underBinder +onlyGivenNames j; clear_value j)
    | split
    | (dsimp only; skip)))
theorem loc_floatToInt (k : FloatKind) (n : Nat) (d : IntKind) : Loc P B (fun _ => True) (Conv.floatToInt k n d) := by
  unfold Conv.floatToInt
  dsimp only
  (repeat' (first
    | assumption
    | exact Loc.pure trivial
    | exact Loc.halt trivial
    | exact loc_stuck _
    | exact loc_unsupported _
    | exact loc_goPanic _
    | exact Loc.load _
    | exact Loc.store _ _
    | exact Loc.freeze _ _
    | exact Loc.frozen _
    | exact Loc.choose _
    | exact Loc.mono (Loc.shape _) (fun _ _ => trivial)
    | exact Loc.mono (Loc.newObj _) (fun _ _ => trivial)
    | exact Loc.mono Loc.program (fun _ _ => trivial)
    | exact loc_typeInfo _
    | exact loc_underlying _
    | exact loc_sizeOf _
    | exact loc_part _ _ _
    | exact loc_runtimePanic _
    | exact loc_asBool _
    | exact loc_sameAddr _ _
    | exact loc_samePointer _ _
    | exact loc_byteOf _
    | exact loc_floatArith _ _ _ _
    | exact loc_floatCmp _ _ _ _
    | apply_assumption -exfalso -symm
    | refine Loc.bind (Loc.load _) ?_
    | refine Loc.bind (Loc.store _ _) ?_
    | refine Loc.bind Loc.program ?_
    | refine Loc.bind (Loc.shape _) ?_
    | refine Loc.bind (Loc.newObj _) ?_
    | refine Loc.bind (Loc.choose _) ?_
    | refine Loc.bind (loc_typeInfo _) ?_
    | refine Loc.bind (loc_underlying _) ?_
    | refine Loc.bind (loc_sizeOf _) ?_
    | refine Loc.bind (loc_part _ _ _) ?_
    | refine Loc.bind (loc_runtimePanic _) ?_
    | refine Loc.bind (loc_asBool _) ?_
    | refine Loc.bind (loc_sameAddr _ _) ?_
    | refine Loc.bind (loc_samePointer _ _) ?_
    | refine Loc.bind (loc_byteOf _) ?_
    | refine Loc.bind (loc_floatArith _ _ _ _) ?_
    | refine Loc.bind (loc_floatCmp _ _ _ _) ?_
    | refine Loc.bind (loc_forInArray (fun _ _ => ?_) _ _) ?_
    | refine Loc.bind (loc_forInRange (fun _ _ => ?_) _ _) ?_
    | refine Loc.bind (Q' := fun _ => True) ?_ ?_
    | (intro _ _; skip)
    | (extract_lets -underBinder +onlyGivenNames j; refine jpcut (j := j) ?_ ?_; intro u; subst j; dsimp -zeta only; rotate_left; intro hj; clear_value j)
    | (extract_lets -underBinder +onlyGivenNames j; refine jpcut0 (j := j) ?_ ?_; subst j; rotate_left; intro hj; clear_value j)
    | (extract_lets -underBinder +onlyGivenNames j; clear_value j)
    | split
    | (dsimp only; skip)))
theorem loc_floatToFloat (k : FloatKind) (n : Nat) (d : FloatKind) : Loc P B (fun _ => True) (Conv.floatToFloat k n d) := by
  unfold Conv.floatToFloat
  dsimp only
  (repeat' (first
    | assumption
    | exact Loc.pure trivial
    | exact Loc.halt trivial
    | exact loc_stuck _
    | exact loc_unsupported _
    | exact loc_goPanic _
    | exact Loc.load _
    | exact Loc.store _ _
    | exact Loc.freeze _ _
    | exact Loc.frozen _
    | exact Loc.choose _
    | exact Loc.mono (Loc.shape _) (fun _ _ => trivial)
    | exact Loc.mono (Loc.newObj _) (fun _ _ => trivial)
    | exact Loc.mono Loc.program (fun _ _ => trivial)
    | exact loc_typeInfo _
    | exact loc_underlying _
    | exact loc_sizeOf _
    | exact loc_part _ _ _
    | exact loc_runtimePanic _
    | exact loc_asBool _
    | exact loc_sameAddr _ _
    | exact loc_samePointer _ _
    | exact loc_byteOf _
    | exact loc_floatArith _ _ _ _
    | exact loc_floatCmp _ _ _ _
    | apply_assumption -exfalso -symm
    | refine Loc.bind (Loc.load _) ?_
    | refine Loc.bind (Loc.store _ _) ?_
    | refine Loc.bind Loc.program ?_
    | refine Loc.bind (Loc.shape _) ?_
    | refine Loc.bind (Loc.newObj _) ?_
    | refine Loc.bind (Loc.choose _) ?_
    | refine Loc.bind (loc_typeInfo _) ?_
    | refine Loc.bind (loc_underlying _) ?_
    | refine Loc.bind (loc_sizeOf _) ?_
    | refine Loc.bind (loc_part _ _ _) ?_
    | refine Loc.bind (loc_runtimePanic _) ?_
    | refine Loc.bind (loc_asBool _) ?_
    | refine Loc.bind (loc_sameAddr _ _) ?_
    | refine Loc.bind (loc_samePointer _ _) ?_
    | refine Loc.bind (loc_byteOf _) ?_
    | refine Loc.bind (loc_floatArith _ _ _ _) ?_
    | refine Loc.bind (loc_floatCmp _ _ _ _) ?_
    | refine Loc.bind (loc_forInArray (fun _ _ => ?_) _ _) ?_
    | refine Loc.bind (loc_forInRange (fun _ _ => ?_) _ _) ?_
    | refine Loc.bind (Q' := fun _ => True) ?_ ?_
    | (intro _ _; skip)
    | (extract_lets -underBinder +onlyGivenNames j; refine jpcut (j := j) ?_ ?_; intro u; subst j; dsimp -zeta only; rotate_left; intro hj; clear_value j)
    | (extract_lets -underBinder +onlyGivenNames j; refine jpcut0 (j := j) ?_ ?_; subst j; rotate_left; intro hj; clear_value j)
    | (extract_lets -underBinder +onlyGivenNames j; clear_value j)
    | split
    | (dsimp only; skip)))
theorem loc_complexToComplex (k : FloatKind) (a b : Nat) (d : FloatKind) : Loc P B (fun _ => True) (Conv.complexToComplex k a b d) := by
  unfold Conv.complexToComplex
  (repeat' (first
    | assumption
    | exact Loc.pure trivial
    | exact Loc.halt trivial
    | exact loc_stuck _
    | exact loc_unsupported _
    | exact loc_goPanic _
    | exact Loc.load _
    | exact Loc.store _ _
    | exact Loc.freeze _ _
    | exact Loc.frozen _
    | exact Loc.choose _
    | exact Loc.mono (Loc.shape _) (fun _ _ => trivial)
    | exact Loc.mono (Loc.newObj _) (fun _ _ => trivial)
    | exact Loc.mono Loc.program (fun _ _ => trivial)
    | exact loc_typeInfo _
    | exact loc_underlying _
    | exact loc_sizeOf _
    | exact loc_part _ _ _
    | exact loc_runtimePanic _
    | exact loc_asBool _
    | exact loc_sameAddr _ _
    | exact loc_samePointer _ _
    | exact loc_byteOf _
    | exact loc_floatArith _ _ _ _
    | exact loc_floatCmp _ _ _ _
    | exact loc_floatToFloat _ _ _
    | apply_assumption -exfalso -symm
    | refine Loc.bind (Loc.load _) ?_
    | refine Loc.bind (Loc.store _ _) ?_
    | refine Loc.bind Loc.program ?_
    | refine Loc.bind (Loc.shape _) ?_
    | refine Loc.bind (Loc.newObj _) ?_
    | refine Loc.bind (Loc.choose _) ?_
    | refine Loc.bind (loc_typeInfo _) ?_
    | refine Loc.bind (loc_underlying _) ?_
    | refine Loc.bind (loc_sizeOf _) ?_
    | refine Loc.bind (loc_part _ _ _) ?_
    | refine Loc.bind (loc_runtimePanic _) ?_
    | refine Loc.bind (loc_asBool _) ?_
    | refine Loc.bind (loc_sameAddr _ _) ?_
    | refine Loc.bind (loc_samePointer _ _) ?_
    | refine Loc.bind (loc_byteOf _) ?_
    | refine Loc.bind (loc_floatArith _ _ _ _) ?_
    | refine Loc.bind (loc_floatCmp _ _ _ _) ?_
    | refine Loc.bind (loc_floatToFloat _ _ _) ?_
    | refine Loc.bind (loc_forInArray (fun _ _ => ?_) _ _) ?_
    | refine Loc.bind (loc_forInRange (fun _ _ => ?_) _ _) ?_
    | refine Loc.bind (Q' := fun _ => True) ?_ ?_
    | (intro _ _; skip)
    | (extract_lets -underBinder +onlyGivenNames j; refine jpcut (j := j) ?_ ?_; intro u; subst j; dsimp -zeta only; rotate_left; intro hj; clear_value j)
    | (extract_lets -underBinder +onlyGivenNames j; refine jpcut0 (j := j) ?_ ?_; subst j; rotate_left; intro hj; clear_value j)
    | (extract_lets -underBinder +onlyGivenNames j; clear_value j)
    | split
    | (dsimp only; skip)))
theorem loc_carith (op : BinOp) (k : FloatKind) (a b : Nat) : Loc P B (fun _ => True) (Op.Complex.arith op k a b) := by
  unfold Op.Complex.arith
  (repeat' (first
    | assumption
    | exact Loc.pure trivial
    | exact Loc.halt trivial
    | exact loc_stuck _
    | exact loc_unsupported _
    | exact loc_goPanic _
    | exact Loc.load _
    | exact Loc.store _ _
    | exact Loc.freeze _ _
    | exact Loc.frozen _
    | exact Loc.choose _
    | exact Loc.mono (Loc.shape _) (fun _ _ => trivial)
    | exact Loc.mono (Loc.newObj _) (fun _ _ => trivial)
    | exact Loc.mono Loc.program (fun _ _ => trivial)
    | exact loc_typeInfo _
    | exact loc_underlying _
    | exact loc_sizeOf _
    | exact loc_part _ _ _
    | exact loc_runtimePanic _
    | exact loc_asBool _
    | exact loc_sameAddr _ _
    | exact loc_samePointer _ _
    | exact loc_byteOf _
    | exact loc_floatArith _ _ _ _
    | exact loc_floatCmp _ _ _ _
    | exact loc_floatToFloat _ _ _
    | apply_assumption -exfalso -symm
    | refine Loc.bind (Loc.load _) ?_
    | refine Loc.bind (Loc.store _ _) ?_
    | refine Loc.bind Loc.program ?_
    | refine Loc.bind (Loc.shape _) ?_
    | refine Loc.bind (Loc.newObj _) ?_
    | refine Loc.bind (Loc.choose _) ?_
    | refine Loc.bind (loc_typeInfo _) ?_
    | refine Loc.bind (loc_underlying _) ?_
    | refine Loc.bind (loc_sizeOf _) ?_
    | refine Loc.bind (loc_part _ _ _) ?_
    | refine Loc.bind (loc_runtimePanic _) ?_
    | refine Loc.bind (loc_asBool _) ?_
    | refine Loc.bind (loc_sameAddr _ _) ?_
    | refine Loc.bind (loc_samePointer _ _) ?_
    | refine Loc.bind (loc_byteOf _) ?_
    | refine Loc.bind (loc_floatArith _ _ _ _) ?_
    | refine Loc.bind (loc_floatCmp _ _ _ _) ?_
    | refine Loc.bind (loc_floatToFloat _ _ _) ?_
    | refine Loc.bind (loc_forInArray (fun _ _ => ?_) _ _) ?_
    | refine Loc.bind (loc_forInRange (fun _ _ => ?_) _ _) ?_
    | refine Loc.bind (Q' := fun _ => True) ?_ ?_
    | (intro _ _; skip)
    | (extract_lets -underBinder +onlyGivenNames j; refine jpcut (j := j) ?_ ?_; intro u; subst j; dsimp -zeta only; rotate_left; intro hj; clear_value j)
    | (extract_lets -underBinder +onlyGivenNames j; refine jpcut0 (j := j) ?_ ?_; subst j; rotate_left; intro hj; clear_value j)
    | (extract_lets -underBinder +onlyGivenNames j; clear_value j)
    | split
    | (dsimp only; skip)))
theorem loc_ccmp (op : BinOp) (k : FloatKind) (a b : Nat) : Loc P B (fun _ => True) (Op.Complex.cmp op k a b) := by
  unfold Op.Complex.cmp
  (repeat' (first
    | assumption
    | exact Loc.pure trivial
    | exact Loc.halt trivial
    | exact loc_stuck _
    | exact loc_unsupported _
    | exact loc_goPanic _
    | exact Loc.load _
    | exact Loc.store _ _
    | exact Loc.freeze _ _
    | exact Loc.frozen _
    | exact Loc.choose _
    | exact Loc.mono (Loc.shape _) (fun _ _ => trivial)
    | exact Loc.mono (Loc.newObj _) (fun _ _ => trivial)
    | exact Loc.mono Loc.program (fun _ _ => trivial)
    | exact loc_typeInfo _
    | exact loc_underlying _
    | exact loc_sizeOf _
    | exact loc_part _ _ _
    | exact loc_runtimePanic _
    | exact loc_asBool _
    | exact loc_sameAddr _ _
    | exact loc_samePointer _ _
    | exact loc_byteOf _
    | exact loc_floatArith _ _ _ _
    | exact loc_floatCmp _ _ _ _
    | exact loc_floatToFloat _ _ _
    | exact loc_carith _ _ _ _
    | apply_assumption -exfalso -symm
    | refine Loc.bind (Loc.load _) ?_
    | refine Loc.bind (Loc.store _ _) ?_
    | refine Loc.bind Loc.program ?_
    | refine Loc.bind (Loc.shape _) ?_
    | refine Loc.bind (Loc.newObj _) ?_
    | refine Loc.bind (Loc.choose _) ?_
    | refine Loc.bind (loc_typeInfo _) ?_
    | refine Loc.bind (loc_underlying _) ?_
    | refine Loc.bind (loc_sizeOf _) ?_
    | refine Loc.bind (loc_part _ _ _) ?_
    | refine Loc.bind (loc_runtimePanic _) ?_
    | refine Loc.bind (loc_asBool _) ?_
    | refine Loc.bind (loc_sameAddr _ _) ?_
    | refine Loc.bind (loc_samePointer _ _) ?_
    | refine Loc.bind (loc_byteOf _) ?_
    | refine Loc.bind (loc_floatArith _ _ _ _) ?_
    | refine Loc.bind (loc_floatCmp _ _ _ _) ?_
    | refine Loc.bind (loc_floatToFloat _ _ _) ?_
    | refine Loc.bind (loc_carith _ _ _ _) ?_
    | refine Loc.bind (loc_forInArray (fun _ _ => ?_) _ _) ?_
    | refine Loc.bind (loc_forInRange (fun _ _ => ?_) _ _) ?_
    | refine Loc.bind (Q' := fun _ => True) ?_ ?_
    | (intro _ _; skip)
    | (extract_lets -underBinder +onlyGivenNames j; refine jpcut (j := j) ?_ ?_; intro u; subst j; dsimp -zeta only; rotate_left; intro hj; clear_value j)
    | (extract_lets -underBinder +onlyGivenNames j; refine jpcut0 (j := j) ?_ ?_; subst j; rotate_left; intro hj; clear_value j)
    | (extract_lets -underBinder +onlyGivenNames j; clear_value j)
    | split
    | (dsimp only; skip)))
theorem loc_cconv (k : FloatKind) (a : Nat) (d : FloatKind) : Loc P B (fun _ => True) (Op.Complex.conv k a d) := by
  unfold Op.Complex.conv
  (repeat' (first
    | assumption
    | exact Loc.pure trivial
    | exact Loc.halt trivial
    | exact loc_stuck _
    | exact loc_unsupported _
    | exact loc_goPanic _
    | exact Loc.load _
    | exact Loc.store _ _
    | exact Loc.freeze _ _
    | exact Loc.frozen _
    | exact Loc.choose _
    | exact Loc.mono (Loc.shape _) (fun _ _ => trivial)
    | exact Loc.mono (Loc.newObj _) (fun _ _ => trivial)
    | exact Loc.mono Loc.program (fun _ _ => trivial)
    | exact loc_typeInfo _
    | exact loc_underlying _
    | exact loc_sizeOf _
    | exact loc_part _ _ _
    | exact loc_runtimePanic _
    | exact loc_asBool _
    | exact loc_sameAddr _ _
    | exact loc_samePointer _ _
    | exact loc_byteOf _
    | exact loc_floatArith _ _ _ _
    | exact loc_floatCmp _ _ _ _
    | exact loc_floatToFloat _ _ _
    | exact loc_carith _ _ _ _
    | exact loc_ccmp _ _ _ _
    | apply_assumption -exfalso -symm
    | refine Loc.bind (Loc.load _) ?_
    | refine Loc.bind (Loc.store _ _) ?_
    | refine Loc.bind Loc.program ?_
    | refine Loc.bind (Loc.shape _) ?_
    | refine Loc.bind (Loc.newObj _) ?_
    | refine Loc.bind (Loc.choose _) ?_
    | refine Loc.bind (loc_typeInfo _) ?_
    | refine Loc.bind (loc_underlying _) ?_
    | refine Loc.bind (loc_sizeOf _) ?_
    | refine Loc.bind (loc_part _ _ _) ?_
    | refine Loc.bind (loc_runtimePanic _) ?_
    | refine Loc.bind (loc_asBool _) ?_
    | refine Loc.bind (loc_sameAddr _ _) ?_
    | refine Loc.bind (loc_samePointer _ _) ?_
    | refine Loc.bind (loc_byteOf _) ?_
    | refine Loc.bind (loc_floatArith _ _ _ _) ?_
    | refine Loc.bind (loc_floatCmp _ _ _ _) ?_
    | refine Loc.bind (loc_floatToFloat _ _ _) ?_
    | refine Loc.bind (loc_carith _ _ _ _) ?_
    | refine Loc.bind (loc_ccmp _ _ _ _) ?_
    | refine Loc.bind (loc_forInArray (fun _ _ => ?_) _ _) ?_
    | refine Loc.bind (loc_forInRange (fun _ _ => ?_) _ _) ?_
    | refine Loc.bind (Q' := fun _ => True) ?_ ?_
    | (intro _ _; skip)
    | (extract_lets -underBinder +onlyGivenNames j; refine jpcut (j := j) ?_ ?_; intro u; subst j; dsimp -zeta only; rotate_left; intro hj; clear_value j)
    | (extract_lets -underBinder +onlyGivenNames j; refine jpcut0 (j := j) ?_ ?_; subst j; rotate_left; intro hj; clear_value j)
    | (extract_lets -underBinder +onlyGivenNames j; clear_value j)
    | split
    | (dsimp only; skip)))
theorem loc_product (a b c d : Nat) : Loc P B (fun _ => True) (Op.Complex.product a b c d) := by
  unfold Op.Complex.product Op.Complex.mul Op.Complex.sub Op.Complex.add
  (repeat' (first
    | assumption
    | exact Loc.pure trivial
    | exact Loc.halt trivial
    | exact loc_stuck _
    | exact loc_unsupported _
    | exact loc_goPanic _
    | exact Loc.load _
    | exact Loc.store _ _
    | exact Loc.freeze _ _
    | exact Loc.frozen _
    | exact Loc.choose _
    | exact Loc.mono (Loc.shape _) (fun _ _ => trivial)
    | exact Loc.mono (Loc.newObj _) (fun _ _ => trivial)
    | exact Loc.mono Loc.program (fun _ _ => trivial)
    | exact loc_typeInfo _
    | exact loc_underlying _
    | exact loc_sizeOf _
    | exact loc_part _ _ _
    | exact loc_runtimePanic _
    | exact loc_asBool _
    | exact loc_sameAddr _ _
    | exact loc_samePointer _ _
    | exact loc_byteOf _
    | exact loc_floatArith _ _ _ _
    | exact loc_floatCmp _ _ _ _
    | exact loc_floatToFloat _ _ _
    | exact loc_carith _ _ _ _
    | exact loc_ccmp _ _ _ _
    | exact loc_cconv _ _ _
    | apply_assumption -exfalso -symm
    | refine Loc.bind (Loc.load _) ?_
    | refine Loc.bind (Loc.store _ _) ?_
    | refine Loc.bind Loc.program ?_
    | refine Loc.bind (Loc.shape _) ?_
    | refine Loc.bind (Loc.newObj _) ?_
    | refine Loc.bind (Loc.choose _) ?_
    | refine Loc.bind (loc_typeInfo _) ?_
    | refine Loc.bind (loc_underlying _) ?_
    | refine Loc.bind (loc_sizeOf _) ?_
    | refine Loc.bind (loc_part _ _ _) ?_
    | refine Loc.bind (loc_runtimePanic _) ?_
    | refine Loc.bind (loc_asBool _) ?_
    | refine Loc.bind (loc_sameAddr _ _) ?_
    | refine Loc.bind (loc_samePointer _ _) ?_
    | refine Loc.bind (loc_byteOf _) ?_
    | refine Loc.bind (loc_floatArith _ _ _ _) ?_
    | refine Loc.bind (loc_floatCmp _ _ _ _) ?_
    | refine Loc.bind (loc_floatToFloat _ _ _) ?_
    | refine Loc.bind (loc_carith _ _ _ _) ?_
    | refine Loc.bind (loc_ccmp _ _ _ _) ?_
    | refine Loc.bind (loc_cconv _ _ _) ?_
    | refine Loc.bind (loc_forInArray (fun _ _ => ?_) _ _) ?_
    | refine Loc.bind (loc_forInRange (fun _ _ => ?_) _ _) ?_
    | refine Loc.bind (Q' := fun _ => True) ?_ ?_
    | (intro _ _; skip)
    | (extract_lets -underBinder +onlyGivenNames j; refine jpcut (j := j) ?_ ?_; intro u; subst j; dsimp -zeta only; rotate_left; intro hj; clear_value j)
    | (extract_lets -underBinder +onlyGivenNames j; refine jpcut0 (j := j) ?_ ?_; subst j; rotate_left; intro hj; clear_value j)
    | (extract_lets -underBinder +onlyGivenNames j; clear_value j)
    | split
    | (dsimp only; skip)))
theorem loc_corrected (s a b c d : Nat) : Loc P B (fun _ => True) (Op.Complex.corrected s a b c d) := by
  unfold Op.Complex.corrected Op.Complex.mul Op.Complex.sub Op.Complex.add
  (repeat' (first
    | assumption
    | exact Loc.pure trivial
    | exact Loc.halt trivial
    | exact loc_stuck _
    | exact loc_unsupported _
    | exact loc_goPanic _
    | exact Loc.load _
    | exact Loc.store _ _
    | exact Loc.freeze _ _
    | exact Loc.frozen _
    | exact Loc.choose _
    | exact Loc.mono (Loc.shape _) (fun _ _ => trivial)
    | exact Loc.mono (Loc.newObj _) (fun _ _ => trivial)
    | exact Loc.mono Loc.program (fun _ _ => trivial)
    | exact loc_typeInfo _
    | exact loc_underlying _
    | exact loc_sizeOf _
    | exact loc_part _ _ _
    | exact loc_runtimePanic _
    | exact loc_asBool _
    | exact loc_sameAddr _ _
    | exact loc_samePointer _ _
    | exact loc_byteOf _
    | exact loc_floatArith _ _ _ _
    | exact loc_floatCmp _ _ _ _
    | exact loc_floatToFloat _ _ _
    | exact loc_carith _ _ _ _
    | exact loc_ccmp _ _ _ _
    | exact loc_cconv _ _ _
    | exact loc_product _ _ _ _
    | apply_assumption -exfalso -symm
    | refine Loc.bind (Loc.load _) ?_
    | refine Loc.bind (Loc.store _ _) ?_
    | refine Loc.bind Loc.program ?_
    | refine Loc.bind (Loc.shape _) ?_
    | refine Loc.bind (Loc.newObj _) ?_
    | refine Loc.bind (Loc.choose _) ?_
    | refine Loc.bind (loc_typeInfo _) ?_
    | refine Loc.bind (loc_underlying _) ?_
    | refine Loc.bind (loc_sizeOf _) ?_
    | refine Loc.bind (loc_part _ _ _) ?_
    | refine Loc.bind (loc_runtimePanic _) ?_
    | refine Loc.bind (loc_asBool _) ?_
    | refine Loc.bind (loc_sameAddr _ _) ?_
    | refine Loc.bind (loc_samePointer _ _) ?_
    | refine Loc.bind (loc_byteOf _) ?_
    | refine Loc.bind (loc_floatArith _ _ _ _) ?_
    | refine Loc.bind (loc_floatCmp _ _ _ _) ?_
    | refine Loc.bind (loc_floatToFloat _ _ _) ?_
    | refine Loc.bind (loc_carith _ _ _ _) ?_
    | refine Loc.bind (loc_ccmp _ _ _ _) ?_
    | refine Loc.bind (loc_cconv _ _ _) ?_
    | refine Loc.bind (loc_product _ _ _ _) ?_
    | refine Loc.bind (loc_forInArray (fun _ _ => ?_) _ _) ?_
    | refine Loc.bind (loc_forInRange (fun _ _ => ?_) _ _) ?_
    | refine Loc.bind (Q' := fun _ => True) ?_ ?_
    | (intro _ _; skip)
    | (extract_lets -underBinder +onlyGivenNames j; refine jpcut (j := j) ?_ ?_; intro u; subst j; dsimp -zeta only; rotate_left; intro hj; clear_value j)
    | (extract_lets -underBinder +onlyGivenNames j; refine jpcut0 (j := j) ?_ ?_; subst j; rotate_left; intro hj; clear_value j)
    | (extract_lets -underBinder +onlyGivenNames j; clear_value j)
    | split
    | (dsimp only; skip)))
set_option maxHeartbeats 2000000 in
theorem loc_quotient (a b c d : Nat) : Loc P B (fun _ => True) (Op.Complex.quotient a b c d) := by
  unfold Op.Complex.quotient Op.Complex.mul Op.Complex.sub Op.Complex.add Op.Complex.quo
  (repeat' (first
    | assumption
    | exact Loc.pure trivial
    | exact Loc.halt trivial
    | exact loc_stuck _
    | exact loc_unsupported _
    | exact loc_goPanic _
    | exact Loc.load _
    | exact Loc.store _ _
    | exact Loc.freeze _ _
    | exact Loc.frozen _
    | exact Loc.choose _
    | exact Loc.mono (Loc.shape _) (fun _ _ => trivial)
    | exact Loc.mono (Loc.newObj _) (fun _ _ => trivial)
    | exact Loc.mono Loc.program (fun _ _ => trivial)
    | exact loc_typeInfo _
    | exact loc_underlying _
    | exact loc_sizeOf _
    | exact loc_part _ _ _
    | exact loc_runtimePanic _
    | exact loc_asBool _
    | exact loc_sameAddr _ _
    | exact loc_samePointer _ _
    | exact loc_byteOf _
    | exact loc_floatArith _ _ _ _
    | exact loc_floatCmp _ _ _ _
    | exact loc_floatToFloat _ _ _
    | exact loc_carith _ _ _ _
    | exact loc_ccmp _ _ _ _
    | exact loc_cconv _ _ _
    | exact loc_product _ _ _ _
    | exact loc_corrected _ _ _ _ _
    | apply_assumption -exfalso -symm
    | refine Loc.bind (Loc.load _) ?_
    | refine Loc.bind (Loc.store _ _) ?_
    | refine Loc.bind Loc.program ?_
    | refine Loc.bind (Loc.shape _) ?_
    | refine Loc.bind (Loc.newObj _) ?_
    | refine Loc.bind (Loc.choose _) ?_
    | refine Loc.bind (loc_typeInfo _) ?_
    | refine Loc.bind (loc_underlying _) ?_
    | refine Loc.bind (loc_sizeOf _) ?_
    | refine Loc.bind (loc_part _ _ _) ?_
    | refine Loc.bind (loc_runtimePanic _) ?_
    | refine Loc.bind (loc_asBool _) ?_
    | refine Loc.bind (loc_sameAddr _ _) ?_
    | refine Loc.bind (loc_samePointer _ _) ?_
    | refine Loc.bind (loc_byteOf _) ?_
    | refine Loc.bind (loc_floatArith _ _ _ _) ?_
    | refine Loc.bind (loc_floatCmp _ _ _ _) ?_
    | refine Loc.bind (loc_floatToFloat _ _ _) ?_
    | refine Loc.bind (loc_carith _ _ _ _) ?_
    | refine Loc.bind (loc_ccmp _ _ _ _) ?_
    | refine Loc.bind (loc_cconv _ _ _) ?_
    | refine Loc.bind (loc_product _ _ _ _) ?_
    | refine Loc.bind (loc_corrected _ _ _ _ _) ?_
    | refine Loc.bind (loc_forInArray (fun _ _ => ?_) _ _) ?_
    | refine Loc.bind (loc_forInRange (fun _ _ => ?_) _ _) ?_
    | refine Loc.bind (Q' := fun _ => True) ?_ ?_
    | (intro _ _; skip)
    | (extract_lets -underBinder +onlyGivenNames j; refine jpcut (j := j) ?_ ?_; intro u; subst j; dsimp -zeta only; rotate_left; intro hj; clear_value j)
    | (extract_lets -underBinder +onlyGivenNames j; refine jpcut0 (j := j) ?_ ?_; subst j; rotate_left; intro hj; clear_value j)
    | (extract_lets -underBinder +onlyGivenNames j; clear_value j)
    | split
    | (dsimp only; skip)))
theorem loc_complexOp (op : BinOp) (k : FloatKind) (a b c d : Nat) : Loc P B (fun _ => True) (Op.complexOp op k a b c d) := by
  unfold Op.complexOp
  (repeat' (first
    | assumption
    | exact Loc.pure trivial
    | exact Loc.halt trivial
    | exact loc_stuck _
    | exact loc_unsupported _
    | exact loc_goPanic _
    | exact Loc.load _
    | exact Loc.store _ _
    | exact Loc.freeze _ _
    | exact Loc.frozen _
    | exact Loc.choose _
    | exact Loc.mono (Loc.shape _) (fun _ _ => trivial)
    | exact Loc.mono (Loc.newObj _) (fun _ _ => trivial)
    | exact Loc.mono Loc.program (fun _ _ => trivial)
    | exact loc_typeInfo _
    | exact loc_underlying _
    | exact loc_sizeOf _
    | exact loc_part _ _ _
    | exact loc_runtimePanic _
    | exact loc_asBool _
    | exact loc_sameAddr _ _
    | exact loc_samePointer _ _
    | exact loc_byteOf _
    | exact loc_floatArith _ _ _ _
    | exact loc_floatCmp _ _ _ _
    | exact loc_floatToFloat _ _ _
    | exact loc_carith _ _ _ _
    | exact loc_ccmp _ _ _ _
    | exact loc_cconv _ _ _
    | exact loc_product _ _ _ _
    | exact loc_corrected _ _ _ _ _
    | exact loc_quotient _ _ _ _
    | apply_assumption -exfalso -symm
    | refine Loc.bind (Loc.load _) ?_
    | refine Loc.bind (Loc.store _ _) ?_
    | refine Loc.bind Loc.program ?_
    | refine Loc.bind (Loc.shape _) ?_
    | refine Loc.bind (Loc.newObj _) ?_
    | refine Loc.bind (Loc.choose _) ?_
    | refine Loc.bind (loc_typeInfo _) ?_
    | refine Loc.bind (loc_underlying _) ?_
    | refine Loc.bind (loc_sizeOf _) ?_
    | refine Loc.bind (loc_part _ _ _) ?_
    | refine Loc.bind (loc_runtimePanic _) ?_
    | refine Loc.bind (loc_asBool _) ?_
    | refine Loc.bind (loc_sameAddr _ _) ?_
    | refine Loc.bind (loc_samePointer _ _) ?_
    | refine Loc.bind (loc_byteOf _) ?_
    | refine Loc.bind (loc_floatArith _ _ _ _) ?_
    | refine Loc.bind (loc_floatCmp _ _ _ _) ?_
    | refine Loc.bind (loc_floatToFloat _ _ _) ?_
    | refine Loc.bind (loc_carith _ _ _ _) ?_
    | refine Loc.bind (loc_ccmp _ _ _ _) ?_
    | refine Loc.bind (loc_cconv _ _ _) ?_
    | refine Loc.bind (loc_product _ _ _ _) ?_
    | refine Loc.bind (loc_corrected _ _ _ _ _) ?_
    | refine Loc.bind (loc_quotient _ _ _ _) ?_
    | refine Loc.bind (loc_forInArray (fun _ _ => ?_) _ _) ?_
    | refine Loc.bind (loc_forInRange (fun _ _ => ?_) _ _) ?_
    | refine Loc.bind (Q' := fun _ => True) ?_ ?_
    | (intro _ _; skip)
    | (extract_lets -underBinder +onlyGivenNames j; refine jpcut (j := j) ?_ ?_; intro u; subst j; dsimp -zeta only; rotate_left; intro hj; clear_value j)
    | (extract_lets -underBinder +onlyGivenNames j; refine jpcut0 (j := j) ?_ ?_; subst j; rotate_left; intro hj; clear_value j)
    | (extract_lets -underBinder +onlyGivenNames j; clear_value j)
    | split
    | (dsimp only; skip)))

theorem loc_typeStr (t : TypeId) : Loc P B (fun _ => True) (typeStr t) := by
  unfold typeStr
  (repeat' (first
    | assumption
    | exact Loc.pure trivial
    | exact Loc.halt trivial
    | exact loc_stuck _
    | exact loc_unsupported _
    | exact loc_goPanic _
    | exact Loc.load _
    | exact Loc.store _ _
    | exact Loc.freeze _ _
    | exact Loc.frozen _
    | exact Loc.choose _
    | exact Loc.mono (Loc.shape _) (fun _ _ => trivial)
    | exact Loc.mono (Loc.newObj _) (fun _ _ => trivial)
    | exact Loc.mono Loc.program (fun _ _ => trivial)
    | exact loc_typeInfo _
    | exact loc_underlying _
    | exact loc_sizeOf _
    | exact loc_part _ _ _
    | exact loc_runtimePanic _
    | exact loc_asBool _
    | exact loc_sameAddr _ _
    | exact loc_samePointer _ _
    | exact loc_byteOf _
    | exact loc_floatArith _ _ _ _
    | exact loc_floatCmp _ _ _ _
    | exact loc_floatToFloat _ _ _
    | exact loc_carith _ _ _ _
    | exact loc_ccmp _ _ _ _
    | exact loc_cconv _ _ _
    | exact loc_product _ _ _ _
    | exact loc_corrected _ _ _ _ _
    | exact loc_quotient _ _ _ _
    | apply_assumption -exfalso -symm
    | refine Loc.bind (Loc.load _) ?_
    | refine Loc.bind (Loc.store _ _) ?_
    | refine Loc.bind Loc.program ?_
    | refine Loc.bind (Loc.shape _) ?_
    | refine Loc.bind (Loc.newObj _) ?_
    | refine Loc.bind (Loc.choose _) ?_
    | refine Loc.bind (loc_typeInfo _) ?_
    | refine Loc.bind (loc_underlying _) ?_
    | refine Loc.bind (loc_sizeOf _) ?_
    | refine Loc.bind (loc_part _ _ _) ?_
    | refine Loc.bind (loc_runtimePanic _) ?_
    | refine Loc.bind (loc_asBool _) ?_
    | refine Loc.bind (loc_sameAddr _ _) ?_
    | refine Loc.bind (loc_samePointer _ _) ?_
    | refine Loc.bind (loc_byteOf _) ?_
    | refine Loc.bind (loc_floatArith _ _ _ _) ?_
    | refine Loc.bind (loc_floatCmp _ _ _ _) ?_
    | refine Loc.bind (loc_floatToFloat _ _ _) ?_
    | refine Loc.bind (loc_carith _ _ _ _) ?_
    | refine Loc.bind (loc_ccmp _ _ _ _) ?_
    | refine Loc.bind (loc_cconv _ _ _) ?_
    | refine Loc.bind (loc_product _ _ _ _) ?_
    | refine Loc.bind (loc_corrected _ _ _ _ _) ?_
    | refine Loc.bind (loc_quotient _ _ _ _) ?_
    | refine Loc.bind (loc_forInArray (fun _ _ => ?_) _ _) ?_
    | refine Loc.bind (loc_forInRange (fun _ _ => ?_) _ _) ?_
    | refine Loc.bind (Q' := fun _ => True) ?_ ?_
    | (intro _ _; skip)
    | (extract_lets -underBinder +onlyGivenNames j; refine jpcut (j := j) ?_ ?_; intro u; subst j; dsimp -zeta only; rotate_left; intro hj; clear_value j)
    | (extract_lets -underBinder +onlyGivenNames j; refine jpcut0 (j := j) ?_ ?_; subst j; rotate_left; intro hj; clear_value j)
    | (extract_lets -underBinder +onlyGivenNames j; clear_value j)
    | split
    | (dsimp only; skip)))
theorem loc_eqInt (hP : Tidy P) (hG : ∀ k, B k → P.globals.size ≤ k) (t : TypeId) (x y : Addr) :
    Loc P B (fun _ => True) (behindNumber x >>= fun u => behindNumber y >>= fun v => match (u.fst, v.fst) with
      | (a, b) => program >>= fun p => if (a.block == b.block && decide (a.block < p.globals.size)) = true then byteOf a >>= fun c => byteOf b >>= fun d => pure (c == d)
        else typeInfo t >>= fun i => match i.desc with
          | .named "sync.copyChecker" _ => if (a == b) = true then pure true else unsupported .addressObserved
          | _ => unsupported .addressObserved : Sem Bool) := by
  have dead : ∀ (a b : Addr), B a.block ∨ B b.block → Dead P B (program >>= fun p => if (a.block == b.block && decide (a.block < p.globals.size)) = true then byteOf a >>= fun c => byteOf b >>= fun d => pure (c == d)
        else typeInfo t >>= fun i => match i.desc with
          | .named "sync.copyChecker" _ => if (a == b) = true then pure true else unsupported .addressObserved
          | _ => unsupported .addressObserved : Sem Bool) := by
    intro a b h
    refine Dead.program ?_
    have hc : ¬ (a.block == b.block && decide (a.block < P.globals.size)) = true := by
      intro hh
      simp only [Bool.and_eq_true, beq_iff_eq, decide_eq_true_eq] at hh
      obtain ⟨e, l⟩ := hh
      rcases h with h | h
      · have := hG _ h; omega
      · have := hG _ h; omega
    rw [if_neg hc]
    refine dead_after (Q := fun i => P.info? t = some i) ?_ fun i hi => ?_
    · unfold typeInfo
      refine still_bind still_program fun p hp => ?_
      subst hp
      split
      · rename_i i h
        exact still_pure h
      · exact still_lost trivial
    · split
      · rename_i h
        exact absurd h (hP.noCopy t i hi _)
      · exact dead_unsupported _
  refine loc_behind x (fun hb => dead_after (still_behind y) fun v _ => dead _ _ (.inl hb)) fun u => loc_behind y (fun hb => dead _ _ (.inr hb)) fun v => ?_
  dsimp only
  (repeat' (first
    | assumption
    | exact Loc.pure trivial
    | exact Loc.halt trivial
    | exact loc_stuck _
    | exact loc_unsupported _
    | exact loc_goPanic _
    | exact Loc.load _
    | exact Loc.store _ _
    | exact Loc.freeze _ _
    | exact Loc.frozen _
    | exact Loc.choose _
    | exact Loc.mono (Loc.shape _) (fun _ _ => trivial)
    | exact Loc.mono (Loc.newObj _) (fun _ _ => trivial)
    | exact Loc.mono Loc.program (fun _ _ => trivial)
    | exact loc_typeInfo _
    | exact loc_underlying _
    | exact loc_sizeOf _
    | exact loc_part _ _ _
    | exact loc_runtimePanic _
    | exact loc_asBool _
    | exact loc_sameAddr _ _
    | exact loc_samePointer _ _
    | exact loc_byteOf _
    | exact loc_floatArith _ _ _ _
    | exact loc_floatCmp _ _ _ _
    | exact loc_floatToFloat _ _ _
    | exact loc_carith _ _ _ _
    | exact loc_ccmp _ _ _ _
    | exact loc_cconv _ _ _
    | exact loc_product _ _ _ _
    | exact loc_corrected _ _ _ _ _
    | exact loc_quotient _ _ _ _
    | exact loc_typeStr _
    | apply_assumption -exfalso -symm
    | refine Loc.bind (Loc.load _) ?_
    | refine Loc.bind (Loc.store _ _) ?_
    | refine Loc.bind Loc.program ?_
    | refine Loc.bind (Loc.shape _) ?_
    | refine Loc.bind (Loc.newObj _) ?_
    | refine Loc.bind (Loc.choose _) ?_
    | refine Loc.bind (loc_typeInfo _) ?_
    | refine Loc.bind (loc_underlying _) ?_
    | refine Loc.bind (loc_sizeOf _) ?_
    | refine Loc.bind (loc_part _ _ _) ?_
    | refine Loc.bind (loc_runtimePanic _) ?_
    | refine Loc.bind (loc_asBool _) ?_
    | refine Loc.bind (loc_sameAddr _ _) ?_
    | refine Loc.bind (loc_samePointer _ _) ?_
    | refine Loc.bind (loc_byteOf _) ?_
    | refine Loc.bind (loc_floatArith _ _ _ _) ?_
    | refine Loc.bind (loc_floatCmp _ _ _ _) ?_
    | refine Loc.bind (loc_floatToFloat _ _ _) ?_
    | refine Loc.bind (loc_carith _ _ _ _) ?_
    | refine Loc.bind (loc_ccmp _ _ _ _) ?_
    | refine Loc.bind (loc_cconv _ _ _) ?_
    | refine Loc.bind (loc_product _ _ _ _) ?_
    | refine Loc.bind (loc_corrected _ _ _ _ _) ?_
    | refine Loc.bind (loc_quotient _ _ _ _) ?_
    | refine Loc.bind (loc_typeStr _) ?_
    | refine Loc.bind (loc_forInArray (fun _ _ => ?_) _ _) ?_
    | refine Loc.bind (loc_forInRange (fun _ _ => ?_) _ _) ?_
    | refine Loc.bind (Q' := fun _ => True) ?_ ?_
    | (intro _ _; skip)
    | (extract_lets -underBinder +onlyGivenNames j; refine jpcut (j := j) ?_ ?_; intro u; subst j; dsimp -zeta only; rotate_left; intro hj; clear_value j)
    | (extract_lets -underBinder +onlyGivenNames j; refine jpcut0 (j := j) ?_ ?_; subst j; rotate_left; intro hj; clear_value j)
    | (extract_lets -underBinder +onlyGivenNames j; clear_value j)
    | split
    | (dsimp only; skip)))

theorem loc_equalIn (hP : Tidy P) (hG : ∀ k, B k → P.globals.size ≤ k) : ∀ (d : Nat) (t : TypeId) (x y : Value), Loc P B (fun _ => True) (Op.equalIn d t x y)
  | 0, _, _, _ => loc_unsupported _
  | d + 1, t, x, y => by
    have ih := loc_equalIn hP hG d
    unfold Op.equalIn
    refine Loc.bind (loc_underlying _) fun dd _ => ?_
    split
    case h_5 => exact loc_eqInt hP hG _ _ _
    all_goals (repeat' (first
    | assumption
    | exact Loc.pure trivial
    | exact Loc.halt trivial
    | exact loc_stuck _
    | exact loc_unsupported _
    | exact loc_goPanic _
    | exact Loc.load _
    | exact Loc.store _ _
    | exact Loc.freeze _ _
    | exact Loc.frozen _
    | exact Loc.choose _
    | exact Loc.mono (Loc.shape _) (fun _ _ => trivial)
    | exact Loc.mono (Loc.newObj _) (fun _ _ => trivial)
    | exact Loc.mono Loc.program (fun _ _ => trivial)
    | exact loc_typeInfo _
    | exact loc_underlying _
    | exact loc_sizeOf _
    | exact loc_part _ _ _
    | exact loc_runtimePanic _
    | exact loc_asBool _
    | exact loc_sameAddr _ _
    | exact loc_samePointer _ _
    | exact loc_byteOf _
    | exact loc_floatArith _ _ _ _
    | exact loc_floatCmp _ _ _ _
    | exact loc_floatToFloat _ _ _
    | exact loc_carith _ _ _ _
    | exact loc_ccmp _ _ _ _
    | exact loc_cconv _ _ _
    | exact loc_product _ _ _ _
    | exact loc_corrected _ _ _ _ _
    | exact loc_quotient _ _ _ _
    | exact loc_typeStr _
    | apply_assumption -exfalso -symm
    | refine Loc.bind (Loc.load _) ?_
    | refine Loc.bind (Loc.store _ _) ?_
    | refine Loc.bind Loc.program ?_
    | refine Loc.bind (Loc.shape _) ?_
    | refine Loc.bind (Loc.newObj _) ?_
    | refine Loc.bind (Loc.choose _) ?_
    | refine Loc.bind (loc_typeInfo _) ?_
    | refine Loc.bind (loc_underlying _) ?_
    | refine Loc.bind (loc_sizeOf _) ?_
    | refine Loc.bind (loc_part _ _ _) ?_
    | refine Loc.bind (loc_runtimePanic _) ?_
    | refine Loc.bind (loc_asBool _) ?_
    | refine Loc.bind (loc_sameAddr _ _) ?_
    | refine Loc.bind (loc_samePointer _ _) ?_
    | refine Loc.bind (loc_byteOf _) ?_
    | refine Loc.bind (loc_floatArith _ _ _ _) ?_
    | refine Loc.bind (loc_floatCmp _ _ _ _) ?_
    | refine Loc.bind (loc_floatToFloat _ _ _) ?_
    | refine Loc.bind (loc_carith _ _ _ _) ?_
    | refine Loc.bind (loc_ccmp _ _ _ _) ?_
    | refine Loc.bind (loc_cconv _ _ _) ?_
    | refine Loc.bind (loc_product _ _ _ _) ?_
    | refine Loc.bind (loc_corrected _ _ _ _ _) ?_
    | refine Loc.bind (loc_quotient _ _ _ _) ?_
    | refine Loc.bind (loc_typeStr _) ?_
    | refine Loc.bind (loc_forInArray (fun _ _ => ?_) _ _) ?_
    | refine Loc.bind (loc_forInRange (fun _ _ => ?_) _ _) ?_
    | refine Loc.bind (Q' := fun _ => True) ?_ ?_
    | (intro _ _; skip)
    | (extract_lets -underBinder +onlyGivenNames j; refine jpcut (j := j) ?_ ?_; intro u; subst j; dsimp -zeta only; rotate_left; intro hj; clear_value j)
    | (extract_lets -underBinder +onlyGivenNames j; refine jpcut0 (j := j) ?_ ?_; subst j; rotate_left; intro hj; clear_value j)
    | (extract_lets -underBinder +onlyGivenNames j; clear_value j)
    | split
    | (dsimp only; skip)))

theorem loc_equal (hP : Tidy P) (hG : ∀ k, B k → P.globals.size ≤ k) (t : TypeId) (x y : Value) : Loc P B (fun _ => True) (Op.equal t x y) := loc_equalIn hP hG _ _ _ _

theorem loc_eqGuardIn : ∀ (d : Nat) (t : TypeId) (x y : Value), Loc P B (fun _ => True) (Op.eqGuardIn d t x y)
  | 0, _, _, _ => loc_unsupported _
  | d + 1, t, x, y => by
    have ih := @loc_eqGuardIn d
    unfold Op.eqGuardIn
    refine Loc.bind (loc_underlying _) fun dd _ => ?_
    split
    all_goals (repeat' (first
    | assumption
    | exact Loc.pure trivial
    | exact Loc.halt trivial
    | exact loc_stuck _
    | exact loc_unsupported _
    | exact loc_goPanic _
    | exact Loc.load _
    | exact Loc.store _ _
    | exact Loc.freeze _ _
    | exact Loc.frozen _
    | exact Loc.choose _
    | exact Loc.mono (Loc.shape _) (fun _ _ => trivial)
    | exact Loc.mono (Loc.newObj _) (fun _ _ => trivial)
    | exact Loc.mono Loc.program (fun _ _ => trivial)
    | exact loc_typeInfo _
    | exact loc_underlying _
    | exact loc_sizeOf _
    | exact loc_part _ _ _
    | exact loc_runtimePanic _
    | exact loc_asBool _
    | exact loc_sameAddr _ _
    | exact loc_samePointer _ _
    | exact loc_byteOf _
    | exact loc_floatArith _ _ _ _
    | exact loc_floatCmp _ _ _ _
    | exact loc_floatToFloat _ _ _
    | exact loc_carith _ _ _ _
    | exact loc_ccmp _ _ _ _
    | exact loc_cconv _ _ _
    | exact loc_product _ _ _ _
    | exact loc_corrected _ _ _ _ _
    | exact loc_quotient _ _ _ _
    | exact loc_typeStr _
    | apply_assumption -exfalso -symm
    | refine Loc.bind (Loc.load _) ?_
    | refine Loc.bind (Loc.store _ _) ?_
    | refine Loc.bind Loc.program ?_
    | refine Loc.bind (Loc.shape _) ?_
    | refine Loc.bind (Loc.newObj _) ?_
    | refine Loc.bind (Loc.choose _) ?_
    | refine Loc.bind (loc_typeInfo _) ?_
    | refine Loc.bind (loc_underlying _) ?_
    | refine Loc.bind (loc_sizeOf _) ?_
    | refine Loc.bind (loc_part _ _ _) ?_
    | refine Loc.bind (loc_runtimePanic _) ?_
    | refine Loc.bind (loc_asBool _) ?_
    | refine Loc.bind (loc_sameAddr _ _) ?_
    | refine Loc.bind (loc_samePointer _ _) ?_
    | refine Loc.bind (loc_byteOf _) ?_
    | refine Loc.bind (loc_floatArith _ _ _ _) ?_
    | refine Loc.bind (loc_floatCmp _ _ _ _) ?_
    | refine Loc.bind (loc_floatToFloat _ _ _) ?_
    | refine Loc.bind (loc_carith _ _ _ _) ?_
    | refine Loc.bind (loc_ccmp _ _ _ _) ?_
    | refine Loc.bind (loc_cconv _ _ _) ?_
    | refine Loc.bind (loc_product _ _ _ _) ?_
    | refine Loc.bind (loc_corrected _ _ _ _ _) ?_
    | refine Loc.bind (loc_quotient _ _ _ _) ?_
    | refine Loc.bind (loc_typeStr _) ?_
    | refine Loc.bind (loc_forInArray (fun _ _ => ?_) _ _) ?_
    | refine Loc.bind (loc_forInRange (fun _ _ => ?_) _ _) ?_
    | refine Loc.bind (Q' := fun _ => True) ?_ ?_
    | (intro _ _; skip)
    | (extract_lets -underBinder +onlyGivenNames j; refine jpcut (j := j) ?_ ?_; intro u; subst j; dsimp -zeta only; rotate_left; intro hj; clear_value j)
    | (extract_lets -underBinder +onlyGivenNames j; refine jpcut0 (j := j) ?_ ?_; subst j; rotate_left; intro hj; clear_value j)
    | (extract_lets -underBinder +onlyGivenNames j; clear_value j)
    | split
    | (dsimp only; skip)))
theorem loc_eqGuard (op : BinOp) (t : TypeId) (a b : Operand) (x y : Value) : Loc P B (fun _ => True) (eqGuard op t a b x y) := by
  unfold eqGuard
  (repeat' (first
    | assumption
    | exact Loc.pure trivial
    | exact Loc.halt trivial
    | exact loc_stuck _
    | exact loc_unsupported _
    | exact loc_goPanic _
    | exact Loc.load _
    | exact Loc.store _ _
    | exact Loc.freeze _ _
    | exact Loc.frozen _
    | exact Loc.choose _
    | exact Loc.mono (Loc.shape _) (fun _ _ => trivial)
    | exact Loc.mono (Loc.newObj _) (fun _ _ => trivial)
    | exact Loc.mono Loc.program (fun _ _ => trivial)
    | exact loc_typeInfo _
    | exact loc_underlying _
    | exact loc_sizeOf _
    | exact loc_part _ _ _
    | exact loc_runtimePanic _
    | exact loc_asBool _
    | exact loc_sameAddr _ _
    | exact loc_samePointer _ _
    | exact loc_byteOf _
    | exact loc_floatArith _ _ _ _
    | exact loc_floatCmp _ _ _ _
    | exact loc_floatToFloat _ _ _
    | exact loc_carith _ _ _ _
    | exact loc_ccmp _ _ _ _
    | exact loc_cconv _ _ _
    | exact loc_product _ _ _ _
    | exact loc_corrected _ _ _ _ _
    | exact loc_quotient _ _ _ _
    | exact loc_typeStr _
    | exact loc_eqGuardIn _ _ _ _
    | apply_assumption -exfalso -symm
    | refine Loc.bind (Loc.load _) ?_
    | refine Loc.bind (Loc.store _ _) ?_
    | refine Loc.bind Loc.program ?_
    | refine Loc.bind (Loc.shape _) ?_
    | refine Loc.bind (Loc.newObj _) ?_
    | refine Loc.bind (Loc.choose _) ?_
    | refine Loc.bind (loc_typeInfo _) ?_
    | refine Loc.bind (loc_underlying _) ?_
    | refine Loc.bind (loc_sizeOf _) ?_
    | refine Loc.bind (loc_part _ _ _) ?_
    | refine Loc.bind (loc_runtimePanic _) ?_
    | refine Loc.bind (loc_asBool _) ?_
    | refine Loc.bind (loc_sameAddr _ _) ?_
    | refine Loc.bind (loc_samePointer _ _) ?_
    | refine Loc.bind (loc_byteOf _) ?_
    | refine Loc.bind (loc_floatArith _ _ _ _) ?_
    | refine Loc.bind (loc_floatCmp _ _ _ _) ?_
    | refine Loc.bind (loc_floatToFloat _ _ _) ?_
    | refine Loc.bind (loc_carith _ _ _ _) ?_
    | refine Loc.bind (loc_ccmp _ _ _ _) ?_
    | refine Loc.bind (loc_cconv _ _ _) ?_
    | refine Loc.bind (loc_product _ _ _ _) ?_
    | refine Loc.bind (loc_corrected _ _ _ _ _) ?_
    | refine Loc.bind (loc_quotient _ _ _ _) ?_
    | refine Loc.bind (loc_typeStr _) ?_
    | refine Loc.bind (loc_eqGuardIn _ _ _ _) ?_
    | refine Loc.bind (loc_forInArray (fun _ _ => ?_) _ _) ?_
    | refine Loc.bind (loc_forInRange (fun _ _ => ?_) _ _) ?_
    | refine Loc.bind (Q' := fun _ => True) ?_ ?_
    | (intro _ _; skip)
    | (extract_lets -underBinder +onlyGivenNames j; refine jpcut (j := j) ?_ ?_; intro u; subst j; dsimp -zeta only; rotate_left; intro hj; clear_value j)
    | (extract_lets -underBinder +onlyGivenNames j; refine jpcut0 (j := j) ?_ ?_; subst j; rotate_left; intro hj; clear_value j)
    | (extract_lets -underBinder +onlyGivenNames j; clear_value j)
    | split
    | (dsimp only; skip)))

theorem loc_binOp (hP : Tidy P) (hG : ∀ k, B k → P.globals.size ≤ k) (op : BinOp) (t : TypeId) (x y : Value) : Loc P B (fun _ => True) (binOp op t x y) := by
  unfold binOp
  split
  · exact loc_shift _ _ _ _ _
  · exact loc_shift _ _ _ _ _
  · split
    · exact loc_stuck _
    · split
      all_goals first | exact loc_intArith _ _ _ _ | exact loc_intDiv _ _ _ _ | exact loc_intBits _ _ _ _ | exact loc_intCmp _ _ _
  · split
    · exact loc_stuck _
    · split
      all_goals first | exact loc_floatArith _ _ _ _ | exact loc_floatCmp _ _ _ _
  · split
    · exact loc_stuck _
    · exact loc_complexOp _ _ _ _ _ _
  · exact loc_stringOp _ _ _
  · exact Loc.bind (loc_equal hP hG _ _ _) fun _ _ => Loc.pure trivial
  · exact Loc.bind (loc_equal hP hG _ _ _) fun _ _ => Loc.pure trivial
  · refine Loc.bind (loc_underlying _) fun _ _ => ?_
    split
    · exact loc_movedPointer _ _ _
    · exact loc_movedNumber _ _ _
  · exact loc_movedNumber _ _ _
  · exact loc_movedNumber _ _ _
  · exact loc_subAt hG _ _ _
  · exact loc_cmpAt hG _ _ _
  · exact loc_cmpAt hG _ _ _
  · exact loc_cmpAt hG _ _ _
  · exact loc_cmpAt hG _ _ _
  · exact loc_modAt _ _ _
  · exact loc_modAt _ _ _
  · exact loc_modAt _ _ _
  · exact loc_unsupported _
  · exact loc_unsupported _
  · exact loc_stuck _

theorem loc_convert {s d : TypeId} (hs : P.underlying s ≠ some .unsafePointer) (hd : P.underlying d ≠ some .unsafePointer) (x : Value) : Loc P B (fun _ => True) (convert s d x) := by
  unfold convert
  refine Loc.bind (loc_underlying' s) fun ds hds => Loc.bind (loc_underlying' d) fun dd hdd => ?_
  split
  · exact loc_intToInt _ _
  · exact loc_intToFloat _ _
  · exact loc_floatToInt _ _ _
  · exact loc_floatToFloat _ _ _
  · exact loc_complexToComplex _ _ _ _
  · exact loc_intToString _
  · exact Loc.pure trivial
  · refine Loc.bind (loc_underlying _) fun _ _ => ?_
    split
    · exact loc_stringToBytes _ _
    · exact loc_stringToRunes _ _
    · exact loc_stuck _
  · refine Loc.bind (loc_underlying _) fun _ _ => ?_
    split
    · exact Loc.bind (loc_markStringish _) fun _ _ => Loc.pure trivial
    · exact loc_unsupported _
  · refine Loc.bind (loc_underlying _) fun _ _ => ?_
    split
    · exact loc_bytesToString _
    · exact loc_runesToString _
    · exact loc_stuck _
  · exact absurd hds hs
  · exact absurd hdd hd
  · exact loc_unsupported _
  · exact loc_unsupported _
end
end Go.Co

/-
  UNSAFE POINTERS, where no block is walled off; the environment; a panic.
-/
namespace Go.Co
section
variable {P : Program} {B : Nat → Prop}



theorem Loc.sysEnv : Loc P B (fun _ => True) (Go.sys .env) := by
  have e : ∀ w es, (Go.sys .env).runT P w es = (.ok (.strings w.os.env) w, es.push ⟨.output, true, false⟩) := fun w es => rfl
  refine ⟨fun v es hm => ?_⟩
  rw [e]
  refine .inr ⟨trivial, .refl hm, fun e he => ?_, fun w hv _ => ⟨w, ?_, .refl hv⟩⟩
  · rcases Array.mem_push.1 he with h | rfl
    · exact .inl h
    · exact .inr trivial
  · rw [e, hv.os]; rfl

theorem loc_panicnil : Loc P B (fun _ => True) Instr.panicnil := by
  unfold Instr.panicnil
  refine Loc.bind Loc.sysEnv fun r _ => ?_
  split
  · exact Loc.bind Loc.program fun _ _ => Loc.pure trivial
  · exact loc_stuck _

theorem loc_panic (x : Value) : Loc P B (fun _ => True) (Instr.panic x) := by
  unfold Instr.panic
  split
  · exact loc_goPanic _
  · refine Loc.bind loc_panicnil fun _ _ => ?_
    split
    · exact loc_goPanic _
    · exact loc_runtimePanic _
  · exact loc_stuck _

theorem loc_cellsIn (hB : ∀ k, ¬ B k) (r : Nat) : Loc P B (fun _ => True) (cellsIn r) := by
  unfold cellsIn
  refine Loc.bind (Loc.mono (Loc.shape r) fun _ _ => trivial) fun o _ => ?_
  split
  · exact Loc.pure trivial
  · refine Loc.getObj (fun h => absurd h (hB _)) fun o _ => ?_
    split <;> exact Loc.pure trivial

theorem loc_seenAt (hB : ∀ k, ¬ B k) (a : Addr) : Loc P B (fun _ => True) (Conv.seenAt a) := by
  unfold Conv.seenAt
  refine loc_viewAt _ (fun hb => absurd hb (hB _)) fun o _ => ?_
  cases o with
  | none => exact Loc.pure trivial
  | some p =>
    obtain ⟨seen, u⟩ := p
    dsimp only
    (repeat' (first
    | assumption
    | exact Loc.pure trivial
    | exact Loc.halt trivial
    | exact loc_stuck _
    | exact loc_unsupported _
    | exact loc_goPanic _
    | exact Loc.load _
    | exact Loc.store _ _
    | exact Loc.freeze _ _
    | exact Loc.frozen _
    | exact Loc.choose _
    | exact Loc.mono (Loc.shape _) (fun _ _ => trivial)
    | exact Loc.mono (Loc.newObj _) (fun _ _ => trivial)
    | exact Loc.mono Loc.program (fun _ _ => trivial)
    | exact loc_typeInfo _
    | exact loc_underlying _
    | exact loc_sizeOf _
    | exact loc_part _ _ _
    | exact loc_runtimePanic _
    | exact loc_variablesAt _ _ _
    | apply_assumption -exfalso -symm
    | refine Loc.bind (Loc.load _) ?_
    | refine Loc.bind (Loc.store _ _) ?_
    | refine Loc.bind Loc.program ?_
    | refine Loc.bind (Loc.shape _) ?_
    | refine Loc.bind (Loc.newObj _) ?_
    | refine Loc.bind (Loc.choose _) ?_
    | refine Loc.bind (loc_typeInfo _) ?_
    | refine Loc.bind (loc_underlying _) ?_
    | refine Loc.bind (loc_sizeOf _) ?_
    | refine Loc.bind (loc_part _ _ _) ?_
    | refine Loc.bind (loc_runtimePanic _) ?_
    | refine Loc.bind (loc_variablesAt _ _ _) ?_
    | refine Loc.bind (loc_forInArray (fun _ _ => ?_) _ _) ?_
    | refine Loc.bind (loc_forInRange (fun _ _ => ?_) _ _) ?_
    | refine Loc.bind (Q' := fun _ => True) ?_ ?_
    | (intro _ _; skip)
    | (extract_lets -underBinder +onlyGivenNames j; refine jpcut (j := j) ?_ ?_; intro u; subst j; dsimp -zeta only; rotate_left; intro hj; clear_value j)
    | (extract_lets -underBinder +onlyGivenNames j; refine jpcut0 (j := j) ?_ ?_; subst j; rotate_left; intro hj; clear_value j)
    | (extract_lets -underBinder +onlyGivenNames j; clear_value j)
    | split
    | (dsimp only; skip)))

theorem loc_unsafePointer (hB : ∀ k, ¬ B k) (s d : TypeId) (x : Value) : Loc P B (fun _ => True) (Conv.unsafePointer s d x) := by
  have h1 := fun a => loc_seenAt (P := P) hB a
  have h2 := fun a => loc_cellsIn (P := P) hB a
  unfold Conv.unsafePointer
  refine Loc.bind (loc_underlying _) fun _ _ => Loc.bind (loc_underlying _) fun _ _ => ?_
  split
  · exact Loc.pure trivial
  · refine Loc.bind (h1 _) fun _ _ => Loc.bind (h2 _) fun _ _ => ?_
    (repeat' (first
    | assumption
    | exact Loc.pure trivial
    | exact Loc.halt trivial
    | exact loc_stuck _
    | exact loc_unsupported _
    | exact loc_goPanic _
    | exact Loc.load _
    | exact Loc.store _ _
    | exact Loc.freeze _ _
    | exact Loc.frozen _
    | exact Loc.choose _
    | exact Loc.mono (Loc.shape _) (fun _ _ => trivial)
    | exact Loc.mono (Loc.newObj _) (fun _ _ => trivial)
    | exact Loc.mono Loc.program (fun _ _ => trivial)
    | exact loc_typeInfo _
    | exact loc_underlying _
    | exact loc_sizeOf _
    | exact loc_part _ _ _
    | exact loc_runtimePanic _
    | exact loc_variablesAt _ _ _
    | apply_assumption -exfalso -symm
    | refine Loc.bind (Loc.load _) ?_
    | refine Loc.bind (Loc.store _ _) ?_
    | refine Loc.bind Loc.program ?_
    | refine Loc.bind (Loc.shape _) ?_
    | refine Loc.bind (Loc.newObj _) ?_
    | refine Loc.bind (Loc.choose _) ?_
    | refine Loc.bind (loc_typeInfo _) ?_
    | refine Loc.bind (loc_underlying _) ?_
    | refine Loc.bind (loc_sizeOf _) ?_
    | refine Loc.bind (loc_part _ _ _) ?_
    | refine Loc.bind (loc_runtimePanic _) ?_
    | refine Loc.bind (loc_variablesAt _ _ _) ?_
    | refine Loc.bind (loc_forInArray (fun _ _ => ?_) _ _) ?_
    | refine Loc.bind (loc_forInRange (fun _ _ => ?_) _ _) ?_
    | refine Loc.bind (Q' := fun _ => True) ?_ ?_
    | (intro _ _; skip)
    | (extract_lets -underBinder +onlyGivenNames j; refine jpcut (j := j) ?_ ?_; intro u; subst j; dsimp -zeta only; rotate_left; intro hj; clear_value j)
    | (extract_lets -underBinder +onlyGivenNames j; refine jpcut0 (j := j) ?_ ?_; subst j; rotate_left; intro hj; clear_value j)
    | (extract_lets -underBinder +onlyGivenNames j; clear_value j)
    | split
    | (dsimp only; skip)))
  · exact Loc.pure trivial
  · refine Loc.bind (h1 _) fun _ _ => ?_
    (repeat' (first
    | assumption
    | exact Loc.pure trivial
    | exact Loc.halt trivial
    | exact loc_stuck _
    | exact loc_unsupported _
    | exact loc_goPanic _
    | exact Loc.load _
    | exact Loc.store _ _
    | exact Loc.freeze _ _
    | exact Loc.frozen _
    | exact Loc.choose _
    | exact Loc.mono (Loc.shape _) (fun _ _ => trivial)
    | exact Loc.mono (Loc.newObj _) (fun _ _ => trivial)
    | exact Loc.mono Loc.program (fun _ _ => trivial)
    | exact loc_typeInfo _
    | exact loc_underlying _
    | exact loc_sizeOf _
    | exact loc_part _ _ _
    | exact loc_runtimePanic _
    | exact loc_variablesAt _ _ _
    | apply_assumption -exfalso -symm
    | refine Loc.bind (Loc.load _) ?_
    | refine Loc.bind (Loc.store _ _) ?_
    | refine Loc.bind Loc.program ?_
    | refine Loc.bind (Loc.shape _) ?_
    | refine Loc.bind (Loc.newObj _) ?_
    | refine Loc.bind (Loc.choose _) ?_
    | refine Loc.bind (loc_typeInfo _) ?_
    | refine Loc.bind (loc_underlying _) ?_
    | refine Loc.bind (loc_sizeOf _) ?_
    | refine Loc.bind (loc_part _ _ _) ?_
    | refine Loc.bind (loc_runtimePanic _) ?_
    | refine Loc.bind (loc_variablesAt _ _ _) ?_
    | refine Loc.bind (loc_forInArray (fun _ _ => ?_) _ _) ?_
    | refine Loc.bind (loc_forInRange (fun _ _ => ?_) _ _) ?_
    | refine Loc.bind (Q' := fun _ => True) ?_ ?_
    | (intro _ _; skip)
    | (extract_lets -underBinder +onlyGivenNames j; refine jpcut (j := j) ?_ ?_; intro u; subst j; dsimp -zeta only; rotate_left; intro hj; clear_value j)
    | (extract_lets -underBinder +onlyGivenNames j; refine jpcut0 (j := j) ?_ ?_; subst j; rotate_left; intro hj; clear_value j)
    | (extract_lets -underBinder +onlyGivenNames j; clear_value j)
    | split
    | (dsimp only; skip)))
  · exact Loc.pure trivial
  · exact Loc.pure trivial
  · unfold asNumber
    exact Loc.bind (Loc.mono (Loc.newObj _) fun _ _ => trivial) fun _ _ => Loc.pure trivial
  · exact loc_unsupported _
  · exact loc_unsupported _
  · exact loc_unsupported _
  · exact loc_stuck _

theorem loc_convertU (hB : ∀ k, ¬ B k) (s d : TypeId) (x : Value) : Loc P B (fun _ => True) (convert s d x) := by
  unfold convert
  refine Loc.bind (loc_underlying' s) fun _ _ => Loc.bind (loc_underlying' d) fun _ _ => ?_
  split
  · exact loc_intToInt _ _
  · exact loc_intToFloat _ _
  · exact loc_floatToInt _ _ _
  · exact loc_floatToFloat _ _ _
  · exact loc_complexToComplex _ _ _ _
  · exact loc_intToString _
  · exact Loc.pure trivial
  · refine Loc.bind (loc_underlying _) fun _ _ => ?_
    split
    · exact loc_stringToBytes _ _
    · exact loc_stringToRunes _ _
    · exact loc_stuck _
  · refine Loc.bind (loc_underlying _) fun _ _ => ?_
    split
    · exact Loc.bind (loc_markStringish _) fun _ _ => Loc.pure trivial
    · exact loc_unsupported _
  · refine Loc.bind (loc_underlying _) fun _ _ => ?_
    split
    · exact loc_bytesToString _
    · exact loc_runesToString _
    · exact loc_stuck _
  · exact loc_unsafePointer hB _ _ _
  · exact loc_unsafePointer hB _ _ _
  · exact loc_unsupported _
  · exact loc_unsupported _
end
end Go.Co

/-
  WHICH OPERATIONS MAY STAND IN A FUNCTION THAT IS WALKED ALONE AND RUN IN COMPANY; each is well behaved.
-/
namespace Go.Co

/-- The functions that may be entered; those without a body that may be called; of each the slots that hold functions to be called. -/
structure Sets where
  F : FuncId → Bool
  X : FuncId → Bool
  D : FuncId → List Tmp
  U : Bool

/-- A function value that may be called. -/
def FnOk (S : Sets) : Value → Prop
  | .func (.func f) _ _ => S.F f = true ∧ S.D f = []
  | .func _ _ _ => False
  | _ => True

/-- What an operation may come to. -/
def NextOk (S : Sets) : Next → Prop
  | .value _ => True
  | .skip => True
  | .enter f args => S.F f = true ∧ ∀ t ∈ S.D f, args.size ≤ t
  | _ => False

def notUnsafe (P : Program) (t : TypeId) : Bool := match P.underlying t with | some .unsafePointer => false | _ => true

/-- The operations that may stand in function 'fn'. -/
def okOp (P : Program) (S : Sets) (fn : FuncId) : Op → Bool
  | .move _ | .assign _ | .pick .. | .alloc _ | .box .. | .build .. | .buildSlice .. | .load .. | .store .. | .unOp .. | .makeInterface .. | .makeFunc .. | .makeSlice .. | .slice ..
  | .fieldAddr .. | .field .. | .indexAddr .. | .index .. | .range .. | .next .. | .extract .. | .binOp .. | .typeAssert .. | .nilCheck _ => true
  | .convert s d _ => S.U || (notUnsafe P s && notUnsafe P d)
  | .call c => match c.callee with
    | .builtin .append | .builtin .len | .builtin .min | .builtin .unsafeString => true
    | .builtin .unsafeSliceData => S.U
    | .value (.func f) => S.F f && (S.D f).all (c.args.size ≤ ·) || S.X f
    | .value (.tmp t) => (S.D fn).contains t
    | _ => false
  | .panic _ => true
  | _ => false

section
variable {P : Program} {B : Nat → Prop}
theorem loc_followBlind : ∀ (l : List FieldStep) (t : TypeId) (x : Option Value), Loc P B (fun _ => True) (followBlind l t x)
  | [], _, _ => Loc.pure trivial
  | s :: l, t, x => by
    have ih := @loc_followBlind l
    unfold followBlind
    (repeat' (first
    | assumption
    | exact Loc.pure trivial
    | exact Loc.halt trivial
    | exact loc_stuck _
    | exact loc_unsupported _
    | exact loc_goPanic _
    | exact Loc.load _
    | exact Loc.store _ _
    | exact Loc.freeze _ _
    | exact Loc.frozen _
    | exact Loc.choose _
    | exact Loc.mono (Loc.shape _) (fun _ _ => trivial)
    | exact Loc.mono (Loc.newObj _) (fun _ _ => trivial)
    | exact Loc.mono Loc.program (fun _ _ => trivial)
    | exact loc_typeInfo _
    | exact loc_underlying _
    | exact loc_part _ _ _
    | exact loc_runtimePanic _
    | exact loc_asBool _
    | apply_assumption -exfalso -symm
    | refine Loc.bind (Loc.load _) ?_
    | refine Loc.bind (Loc.store _ _) ?_
    | refine Loc.bind Loc.program ?_
    | refine Loc.bind (Loc.shape _) ?_
    | refine Loc.bind (Loc.newObj _) ?_
    | refine Loc.bind (Loc.choose _) ?_
    | refine Loc.bind (loc_typeInfo _) ?_
    | refine Loc.bind (loc_underlying _) ?_
    | refine Loc.bind (loc_part _ _ _) ?_
    | refine Loc.bind (loc_runtimePanic _) ?_
    | refine Loc.bind (loc_asBool _) ?_
    | refine Loc.bind (loc_forInArray (fun _ _ => ?_) _ _) ?_
    | refine Loc.bind (loc_forInRange (fun _ _ => ?_) _ _) ?_
    | refine Loc.bind (Q' := fun _ => True) ?_ ?_
    | (intro _ _; skip)
    | (extract_lets -underBinder +onlyGivenNames j; refine jpcut (j := j) ?_ ?_; intro u; subst j; dsimp -zeta only; rotate_left; intro hj; clear_value j)
    | (extract_lets -underBinder +onlyGivenNames j; refine jpcut0 (j := j) ?_ ?_; subst j; rotate_left; intro hj; clear_value j)
    | (extract_lets -underBinder +onlyGivenNames j; clear_value j)
    | split
    | (dsimp only; skip)))
theorem loc_nilAhead : ∀ (n : Nat) (t : TypeId) (v : Value) (s : String), Loc P B (fun _ => True) (nilAhead n t v s)
  | 0, _, _, _ => Loc.pure trivial
  | n + 1, t, v, s => by
    have ih := @loc_nilAhead n
    unfold nilAhead
    (repeat' (first
    | assumption
    | exact Loc.pure trivial
    | exact Loc.halt trivial
    | exact loc_stuck _
    | exact loc_unsupported _
    | exact loc_goPanic _
    | exact Loc.load _
    | exact Loc.store _ _
    | exact Loc.freeze _ _
    | exact Loc.frozen _
    | exact Loc.choose _
    | exact Loc.mono (Loc.shape _) (fun _ _ => trivial)
    | exact Loc.mono (Loc.newObj _) (fun _ _ => trivial)
    | exact Loc.mono Loc.program (fun _ _ => trivial)
    | exact loc_typeInfo _
    | exact loc_underlying _
    | exact loc_part _ _ _
    | exact loc_runtimePanic _
    | exact loc_asBool _
    | exact loc_followBlind _ _ _
    | apply_assumption -exfalso -symm
    | refine Loc.bind (Loc.load _) ?_
    | refine Loc.bind (Loc.store _ _) ?_
    | refine Loc.bind Loc.program ?_
    | refine Loc.bind (Loc.shape _) ?_
    | refine Loc.bind (Loc.newObj _) ?_
    | refine Loc.bind (Loc.choose _) ?_
    | refine Loc.bind (loc_typeInfo _) ?_
    | refine Loc.bind (loc_underlying _) ?_
    | refine Loc.bind (loc_part _ _ _) ?_
    | refine Loc.bind (loc_runtimePanic _) ?_
    | refine Loc.bind (loc_asBool _) ?_
    | refine Loc.bind (loc_followBlind _ _ _) ?_
    | refine Loc.bind (loc_forInArray (fun _ _ => ?_) _ _) ?_
    | refine Loc.bind (loc_forInRange (fun _ _ => ?_) _ _) ?_
    | refine Loc.bind (Q' := fun _ => True) ?_ ?_
    | (intro _ _; skip)
    | (extract_lets -underBinder +onlyGivenNames j; refine jpcut (j := j) ?_ ?_; intro u; subst j; dsimp -zeta only; rotate_left; intro hj; clear_value j)
    | (extract_lets -underBinder +onlyGivenNames j; refine jpcut0 (j := j) ?_ ?_; subst j; rotate_left; intro hj; clear_value j)
    | (extract_lets -underBinder +onlyGivenNames j; clear_value j)
    | split
    | (dsimp only; skip)))

theorem loc_v {S : Sets} {s : Sem Value} (h : Loc P B (fun _ => True) s) : Loc P B (NextOk S) (do pure (Next.value (← s))) := Loc.bind h fun _ _ => Loc.pure trivial
theorem loc_u {S : Sets} {s : Sem Unit} (h : Loc P B (fun _ => True) s) : Loc P B (NextOk S) (do s; pure Next.skip) := Loc.bind h fun _ _ => Loc.pure trivial

/-- What is asked of the functions. -/
structure Ready (P : Program) (S : Sets) (B : Nat → Prop) : Prop where
  tidy : Tidy P
  low : ∀ k, B k → P.globals.size ≤ k
  body : ∀ f, S.F f = true → ∃ fn, P.funcs[f]? = some fn ∧ fn.body.isNone = false ∧ (fn.name == "runtime.NumGoroutine") = false
  ext : ∀ f args, S.X f = true → Loc P B (NextOk S) (callFunc f args)
  bare : S.U = true → ∀ k, ¬ B k

theorem loc_callFunc {S : Sets} (hR : Ready P S B) {f : FuncId} (hf : S.F f = true) (args : Array Value) (ha : ∀ t ∈ S.D f, args.size ≤ t) : Loc P B (NextOk S) (callFunc f args) := by
  obtain ⟨fn, h1, h2, h3⟩ := hR.body f hf
  unfold callFunc
  refine Loc.bind Loc.program fun p hp => ?_
  subst hp
  rw [h1]
  simp only [h2, h3]
  exact Loc.pure ⟨hf, ha⟩

theorem loc_execOp {S : Sets} {fn : FuncId} (hR : Ready P S B) {ρ : Operand → Value} (hρ : ∀ t ∈ S.D fn, FnOk S (ρ (.tmp t))) (hfun : ∀ f, ρ (.func f) = .func (.func f) #[] #[]) (_hconst : ∀ v, ρ (.const v) = v) {o : Oper}
    (ho : okOp P S fn o.op = true) : Loc P B (NextOk S) (execOp ρ o) := by
  unfold execOp
  dsimp only
  split
  case h_1 => exact Loc.pure trivial
  case h_2 => exact Loc.pure trivial
  case h_3 => exact Loc.bind (loc_asBool _) fun _ _ => Loc.pure trivial
  case h_4 => exact loc_v (loc_alloc _ _ _)
  case h_5 => exact loc_v (loc_box _ _)
  case h_6 => exact loc_v (loc_build _ _)
  case h_7 => exact loc_v (loc_buildSlice _ _ _)
  case h_8 => exact loc_v (loc_loadAt _ _)
  case h_9 => exact loc_u (loc_storeAt _ _ _)
  all_goals (rename_i hop; rw [hop] at ho)
  all_goals first
    | (cases ho; done)
    | exact loc_v (Loc.bind (loc_eqGuard _ _ _ _ _ _) fun _ _ => loc_binOp hR.tidy hR.low _ _ _ _)
    | exact loc_v (loc_unary _ _)
    | exact loc_v (loc_makeInterface _ _)
    | exact loc_v (Loc.pure trivial)
    | exact loc_v (loc_makeSlice _ _ _)
    | exact loc_v (loc_sliceAt _ _ _ _ _)
    | exact loc_v (loc_fieldAt _ _ _)
    | exact loc_v (loc_field _ _ _)
    | exact loc_v (loc_indexAt _ _ _)
    | exact loc_v (loc_index _ _ _)
    | exact loc_v (loc_range _ _)
    | exact loc_v (loc_next _ _ _)
    | exact loc_v (loc_typeAssert _ _ _ _)
    | exact loc_v (loc_extract _ _)
    | skip
  case h_12 =>
    split
    · exact loc_runtimePanic _
    · exact loc_runtimePanic _
    · exact loc_runtimePanic _
    · split
      · exact loc_runtimePanic _
      · refine Loc.bind Loc.program fun p _ => Loc.bind (loc_nilAhead _ _ _ _) fun _ _ => ?_
        split
        · exact Loc.bind (Q' := fun _ => True) (loc_unsupported _) fun _ _ => Loc.pure trivial
        · exact Loc.pure trivial
      · exact Loc.pure trivial
    · exact Loc.pure trivial
  case h_15 =>
    simp only [okOp] at ho
    rcases Bool.or_eq_true _ _ ▸ ho with ho | ho
    · exact loc_v (loc_convertU (hR.bare ho) _ _ _)
    rw [Bool.and_eq_true] at ho
    have nu : ∀ t, notUnsafe P t = true → P.underlying t ≠ some .unsafePointer := by
      intro t h e
      simp [notUnsafe, e] at h
    exact loc_v (loc_convert (nu _ ho.1) (nu _ ho.2) _)
  case h_37 =>
    rename_i c
    unfold resolve
    simp only [okOp] at ho
    obtain ⟨callee, args, tys⟩ := c
    simp only at ho ⊢
    cases callee with
    | builtin b =>
      simp only [pure_bind]
      cases b <;> first
        | (cases ho; done)
        | exact loc_v (loc_append _ _ _)
        | exact loc_v (loc_len _ _ _)
        | exact loc_v (loc_min _ _ _)
        | exact loc_v (loc_unsafeString _ _ _)
        | exact loc_v (loc_unsafeSliceData (hR.bare ho) _ _ _)
    | invoke r n => cases ho
    | value f =>
      have main : ∀ v, FnOk S v → Loc P B (NextOk S) (do let d ← Deferred.ofValue v (args.map ρ); invoke d.target d.args) := by
        intro v hv
        cases v with
        | func fn first cap =>
          cases fn with
          | func f =>
            simp only [Deferred.ofValue, pure_bind]
            exact loc_callFunc hR hv.1 _ (by rw [hv.2]; intro t ht; cases ht)
          | _ => exact hv.elim
        | nilFunc =>
          simp only [Deferred.ofValue, pure_bind]
          unfold invoke
          exact loc_runtimePanic _
        | _ => exact Loc.bind (Q' := fun _ => False) (loc_stuck _) fun _ h => h.elim
      cases f with
      | tmp t => exact main _ (hρ t (by simpa using ho))
      | func f =>
        show Loc P B (NextOk S) (do let d ← Deferred.ofValue (ρ (.func f)) (args.map ρ); invoke d.target d.args)
        rw [hfun]
        simp only [Deferred.ofValue, pure_bind]
        rcases Bool.or_eq_true _ _ ▸ ho with ho | ho
        · simp only [Bool.and_eq_true, List.all_eq_true, decide_eq_true_eq] at ho
          exact loc_callFunc hR ho.1 _ (fun t ht => by simpa using ho.2 t ht)
        · exact hR.ext f _ ho
      | const v => cases ho
      | global g => cases ho
  case h_40 => exact loc_v (loc_panic _)
end
end Go.Co
