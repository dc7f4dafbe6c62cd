/-
  THE PROGRAM's FUNCTIONS AS THE COMPANY's THEORY WANTS THEM.
-/
import Derived.Test.YtbjkljmhhpoooaaDoorSender
namespace Go.Co

theorem reckon_named {info : TypeId → Option TypeInfo} {d : TypeDesc} {i : TypeInfo} (h : Made.reckon info d = some i) (n : String) (u : TypeId) : i.desc ≠ .named n u := by
  have hw : ∀ {d s z b c}, (Made.word d s z b c).desc = d := fun {d s z b c} => rfl
  intro he
  unfold Made.reckon at h
  cases d with
  | pointer e =>
    simp only [Option.bind_eq_bind, Option.bind_eq_some_iff] at h
    obtain ⟨a, ha, h⟩ := h
    split at h
    · cases h
    · split at h
      · cases h
      · obtain ⟨s, _, h⟩ := Option.bind_eq_some_iff.1 h
        cases h; cases he
    · obtain ⟨s, _, h⟩ := Option.bind_eq_some_iff.1 h
      cases h; cases he
  | slice e =>
    obtain ⟨a, _, h⟩ := Option.bind_eq_some_iff.1 h
    obtain ⟨s, _, h⟩ := Option.bind_eq_some_iff.1 h
    cases h; cases he
  | map k e =>
    obtain ⟨a, _, h⟩ := Option.bind_eq_some_iff.1 h
    obtain ⟨s, _, h⟩ := Option.bind_eq_some_iff.1 h
    obtain ⟨a', _, h⟩ := Option.bind_eq_some_iff.1 h
    obtain ⟨s', _, h⟩ := Option.bind_eq_some_iff.1 h
    cases h; cases he
  | chan dir e =>
    obtain ⟨a, _, h⟩ := Option.bind_eq_some_iff.1 h
    obtain ⟨s, _, h⟩ := Option.bind_eq_some_iff.1 h
    cases h; cases he
  | func ps rs v =>
    obtain ⟨a, _, h⟩ := Option.bind_eq_some_iff.1 h
    cases h; cases he
  | array n e =>
    obtain ⟨a, _, h⟩ := Option.bind_eq_some_iff.1 h
    obtain ⟨s, _, h⟩ := Option.bind_eq_some_iff.1 h
    cases h; cases he
  | struct fs =>
    change Made.reckonStruct info fs = some i at h
    unfold Made.reckonStruct at h
    obtain ⟨r, _, h⟩ := Option.bind_eq_some_iff.1 h
    dsimp only at h
    split at h <;> (cases h; cases he)
  | _ => cases h

/-- No type of the tables bears that name. -/
def noCopyB (T : Array TypeInfo) : Bool := T.all fun i => match i.desc with | .named n _ => n != "sync.copyChecker" | _ => true

theorem tidy_of {P : Program} (h : noCopyB P.types = true) : Tidy P := by
  refine ⟨fun t i hi u he => ?_⟩
  have hall : ∀ (t : TypeId) (i : TypeInfo), P.types[t]? = some i → i.desc ≠ .named "sync.copyChecker" u := by
    intro t i hi he
    unfold noCopyB at h
    rw [Array.all_eq_true_iff_forall_mem] at h
    have := h i (Array.mem_of_getElem? hi)
    rw [he] at this
    simp at this
  unfold Tables.info? at hi
  split at hi
  · exact hall _ _ hi he
  · unfold Made.depth at hi
    unfold Made.infoAt at hi
    split at hi
    · exact hall _ _ hi he
    · obtain ⟨d, _, hd⟩ := Option.bind_eq_some_iff.1 hi
      exact reckon_named hd _ _ he

/-- The sets out of lists. -/
def mkSets (U : Bool) (F X : List Nat) (D : List (Nat × List Nat)) : Sets := { F := fun f => F.contains f, X := fun f => X.contains f, D := fun f => (D.lookup f).getD [], U := U }

noncomputable def okFn (P : Program) (S : Sets) (f : FuncId) : Bool := match P.funcs[f]? with
  | some fn => match fn.body with
    | some c => okCode P S f c && !(fn.name == "runtime.NumGoroutine")
    | none => false
  | none => false

theorem okFn_spec {P : Program} {S : Sets} {f : FuncId} (h : okFn P S f = true) : ∃ fn c, P.funcs[f]? = some fn ∧ fn.body = some c ∧ okCode P S f c = true ∧ (fn.name == "runtime.NumGoroutine") = false := by
  unfold okFn at h
  cases h1 : P.funcs[f]? with
  | none => rw [h1] at h; cases h
  | some fn =>
    rw [h1] at h
    simp only at h
    cases h2 : fn.body with
    | none => rw [h2] at h; cases h
    | some c =>
      rw [h2] at h
      simp only [Bool.and_eq_true, Bool.not_eq_true'] at h
      exact ⟨fn, c, rfl, h2, h.1, h.2⟩

theorem ready_of {P : Program} {U : Bool} {F X : List Nat} {D : List (Nat × List Nat)} {B : Nat → Prop} (h1 : noCopyB P.types = true) (h2 : ∀ k, B k → P.globals.size ≤ k) (h3 : (F.all (okFn P (mkSets U F X D))) = true)
    (h5 : U = true → ∀ k, ¬ B k) (h4 : ∀ f args, X.contains f = true → Loc P B (NextOk (mkSets U F X D)) (callFunc f args)) : Ready P (mkSets U F X D) B := by
  refine ⟨tidy_of h1, h2, fun f hf => ?_, h4, h5⟩
  rw [List.all_eq_true] at h3
  obtain ⟨fn, c, e1, e2, _, e3⟩ := okFn_spec (h3 f (by simpa [mkSets] using hf))
  exact ⟨fn, e1, by rw [e2]; rfl, e3⟩

theorem codes_of {P : Program} {U : Bool} {F X : List Nat} {D : List (Nat × List Nat)} (h3 : (F.all (okFn P (mkSets U F X D))) = true) (h1 : P.follows .staticDataAhead = true) (h2 : (P.funcs.all fun f => !((f.body.map readies).any fun l => !l.isEmpty)) = true) : Codes P (mkSets U F X D) := by
  refine ⟨fun f hf => ?_, h1, fun g => ?_⟩
  · rw [List.all_eq_true] at h3
    obtain ⟨fn, c, e1, e2, e3, _⟩ := okFn_spec (h3 f (by simpa [mkSets] using hf))
    exact ⟨fn, c, e1, e2, e3⟩
  · unfold Program.stepOf
    rw [Array.findIdx?_eq_none_iff]
    intro f hf
    rw [Array.all_eq_true_iff_forall_mem] at h2
    have := h2 f hf
    cases hb : f.body.map readies with
    | none => rfl
    | some l =>
      rw [hb] at this
      cases l with
      | nil => rfl
      | cons a l => simp at this

section
variable {P : Program} {B : Nat → Prop} {S : Sets}

theorem loc_extern {f : FuncId} {fn : Func} {e : Array Value → Sem Value} (h1 : P.funcs[f]? = some fn) (h2 : fn.body.isNone = true) (h3 : (fn.name == "runtime.NumGoroutine") = false) (h4 : Extern.findNext fn = none) (h5 : Extern.find fn = some e) (he : ∀ args, Loc P B (fun _ => True) (e args)) (args : Array Value) :
    Loc P B (NextOk S) (callFunc f args) := by
  unfold callFunc
  refine Loc.bind Loc.program fun p hp => ?_
  subst hp
  rw [h1]
  simp only [h2, h3, h4, h5, Bool.false_eq_true, if_false, if_true]
  exact Loc.bind (Loc.mark trivial) fun _ _ => Loc.bind (he args) fun _ _ => Loc.pure trivial

theorem loc_bytesLoad : ∀ (n : Nat) (a : Addr) (acc : ByteArray), Loc P B (fun _ => True) (Extern.Bytes.loadBytes a n acc)
  | 0, _, _ => Loc.pure trivial
  | n + 1, a, acc => by
    unfold Extern.Bytes.loadBytes
    refine Loc.bind (Loc.load _) fun v _ => ?_
    split
    · exact loc_bytesLoad n _ _
    · exact loc_stuck _
theorem loc_bytesOf (v : Value) : Loc P B (fun _ => True) (Extern.Bytes.bytesOf v) := by
  unfold Extern.Bytes.bytesOf
  split
  · exact Loc.pure trivial
  · exact Loc.pure trivial
  · exact loc_bytesLoad _ _ _
  · exact loc_stuck _

theorem loc_asByte (v : Value) : Loc P B (fun _ => True) (Extern.Bytes.asByte v) := by
  unfold Extern.Bytes.asByte
  split
  · exact Loc.pure trivial
  · exact loc_stuck _
theorem loc_indexByte (args : Array Value) : Loc P B (fun _ => True) (Extern.BytealgIndexByte.indexByte args) := by
  have main : ∀ x y, Loc P B (fun _ => True) (Extern.BytealgIndexByte.indexByte #[x, y]) := by
    intro x y
    unfold Extern.BytealgIndexByte.indexByte
    refine Loc.bind (loc_bytesOf x) fun b _ => Loc.bind (loc_asByte y) fun c _ => ?_
    split
    · exact Loc.pure trivial
    · exact Loc.pure trivial
  obtain ⟨l⟩ := args
  rcases l with _ | ⟨x, _ | ⟨y, _ | ⟨z, l⟩⟩⟩
  · exact loc_stuck _
  · exact loc_stuck _
  · exact main x y
  · exact loc_stuck _
theorem loc_count (args : Array Value) : Loc P B (fun _ => True) (Extern.BytealgCount.count args) := by
  have main : ∀ x y, Loc P B (fun _ => True) (Extern.BytealgCount.count #[x, y]) := by
    intro x y
    unfold Extern.BytealgCount.count
    exact Loc.bind (loc_bytesOf x) fun b _ => Loc.bind (loc_asByte y) fun c _ => Loc.pure trivial
  obtain ⟨l⟩ := args
  rcases l with _ | ⟨x, _ | ⟨y, _ | ⟨z, l⟩⟩⟩
  · exact loc_stuck _
  · exact loc_stuck _
  · exact main x y
  · exact loc_stuck _
theorem loc_maxLen : Loc P B (fun _ => True) Extern.BytealgIndex.maxLen := by
  unfold Extern.BytealgIndex.maxLen globalAddr
  rw [bind_assoc]
  refine Loc.bind Loc.program fun p _ => ?_
  split
  · exact Loc.bind (Loc.pure (Q := fun _ => True) trivial) fun _ _ => Loc.bind (Loc.load _) fun _ _ => loc_asInt _
  · exact Loc.bind (Q' := fun _ => False) (loc_stuck _) fun _ h => h.elim
theorem loc_indexS (args : Array Value) : Loc P B (fun _ => True) (Extern.BytealgIndex.index args) := by
  have main : ∀ x y, Loc P B (fun _ => True) (Extern.BytealgIndex.index #[x, y]) := by
    intro x y
    unfold Extern.BytealgIndex.index
    refine Loc.bind (loc_bytesOf x) fun b _ => Loc.bind (loc_bytesOf y) fun c _ => Loc.bind loc_maxLen fun m _ => ?_
    dsimp only
    split
    · exact Loc.bind (Q' := fun _ => False) (loc_unsupported _) fun _ h => h.elim
    · split
      · exact Loc.bind (Q' := fun _ => False) (loc_unsupported _) fun _ h => h.elim
      · split
        · exact Loc.pure trivial
        · exact Loc.pure trivial
  obtain ⟨l⟩ := args
  rcases l with _ | ⟨x, _ | ⟨y, _ | ⟨z, l⟩⟩⟩
  · exact loc_stuck _
  · exact loc_stuck _
  · exact main x y
  · exact loc_stuck _
end
end Go.Co
