/-
  A LONE WALK THAT COMES TO ITS END ON WHATEVER TAPE COMES TO IT WHATEVER THE ANSWERS ARE, ONE BY ONE (a bar).
-/
import Derived.Test.YtbjkljmhhpoooaaDoorCoH
import Derived.Control

/-
  ONE STEP OF A GOROUTINE WHOSE FRAMES HOLD ADMITTED CODE ALONE: what it does in the walled world, above a made-up caller, it does in the true world, above whatever stands below it.
-/
namespace Go.Co

def okOper (P : Program) (S : Sets) (fn : FuncId) (o : Oper) : Bool :=
  okOp P S fn o.op && match o.dst with
    | some d => !(S.D fn).contains d || (match o.op with
      | .makeFunc (.func f) _ _ => S.F f && (S.D f).isEmpty
      | .move (.tmp t) | .assign (.tmp t) => (S.D fn).contains t
      | _ => false)
    | none => true

def okCode (P : Program) (S : Sets) (fn : FuncId) : Code → Bool
  | .skip | .exit _ | .label _ | .goto _ | .ret | .refuse _ => true
  | .region _ ops _ => ops.all (okOper P S fn)
  | .seq a b | .cond _ a b => okCode P S fn a && okCode P S fn b
  | .block _ c | .loop c | .scope c => okCode P S fn c
  | .rangeFunc .. => false

def okItem (P : Program) (S : Sets) (fn : FuncId) : Item → Bool
  | .code c | .inLoop c | .inScope c => okCode P S fn c
  | .inBlock _ => true
  | .inRegion ops _ => ops.all (okOper P S fn)
  | _ => false

structure FrOk (P : Program) (S : Sets) (fr : Frame) : Prop where
  todo : ∀ i ∈ fr.todo, okItem P S fr.fn i = true
  defers : fr.defers = []
  round : fr.roundOf = none
  slots : ∀ t ∈ S.D fr.fn, FnOk S (fr.tmps.getD t undef)

/-- A caller: it stands at an operation whose result is no function to be called. -/
def Wait (S : Sets) (fr : Frame) : Prop := ∃ ops i rest kk, fr.todo = .inRegion ops (i :: rest) :: kk ∧ ∀ o, ops[i]? = some o → ∀ d, o.dst = some d → ¬ d ∈ S.D fr.fn

structure Fit (P : Program) (S : Sets) (fr : Frame) (L : List Frame) : Prop where
  top : FrOk P S fr
  callers : ∀ c ∈ L, FrOk P S c ∧ Wait S c ∧ c.mode = .run
  kinds : ∀ f ∈ (fr :: L).dropLast, f.kind = .normal

structure Codes (P : Program) (S : Sets) : Prop where
  body : ∀ f, S.F f = true → ∃ fn c, P.funcs[f]? = some fn ∧ fn.body = some c ∧ okCode P S f c = true
  ahead : P.follows .staticDataAhead = true
  steps : ∀ g, P.stepOf g = none

/-- What stands behind the base's own code. -/
def ek (k : List Item) : List Frame → List Item
  | [] => k
  | _ :: _ => []

def top (k : List Item) (fr : Frame) (L : List Frame) : Frame := { fr with todo := fr.todo ++ ek k L }

def below (k : List Item) (cs : List Frame) : List Frame → List Frame
  | [] => cs
  | c :: l => top k c l :: below k cs l

def vg (c0 : Frame) (fr : Frame) (L : List Frame) : Goroutine := { frame := fr, callers := L ++ [c0], status := .running, dying := none }
def rg (k : List Item) (cs : List Frame) (fr : Frame) (L : List Frame) : Goroutine := { frame := top k fr L, callers := below k cs L, status := .running, dying := none }

theorem eval_top (k : List Item) (fr : Frame) (L : List Frame) : (top k fr L).eval = fr.eval := by
  funext x; cases x <;> rfl

/-- What a step may list, as the trace keeps it. -/
def Kept (B : Nat → Prop) (e : Event) : Prop := Fine B e ∧ ∀ f, e.loc ≠ .mark (.extern f)

theorem seen_sub (P : Program) (fn : FuncId) (es : Array Event) : ∀ e ∈ Go.seen P fn es, e ∈ es := by
  intro e he
  unfold Go.seen at he
  simp only at he
  rw [← Array.foldl_toList] at he
  have main : ∀ (l : List Event) (q : Bool) (kept : Array Event), e ∈ (l.foldl (fun (x : Bool × Array Event) e => match e.loc with
      | .mark (.extern f) => ((P.funcs[f]?).any (·.norace), x.2)
      | _ => (x.1, if x.1 && !e.sync then x.2 else x.2.push e)) (q, kept)).2 → e ∈ kept ∨ e ∈ l := by
    intro l
    induction l with
    | nil => intro q kept h; exact .inl h
    | cons a l ih =>
      intro q kept h
      rw [List.foldl_cons] at h
      rcases ih _ _ h with h1 | h1
      · split at h1
        · exact .inl h1
        · split at h1
          · exact .inl h1
          · rcases Array.mem_push.1 h1 with h2 | rfl
            · exact .inl h2
            · exact .inr (by simp)
      · exact .inr (List.mem_cons_of_mem _ h1)
  rcases main _ _ _ he with h | h
  · simp at h
  · simpa using h

theorem seen_ext (P : Program) (fn : FuncId) (es : Array Event) : ∀ e ∈ Go.seen P fn es, ∀ f, e.loc ≠ .mark (.extern f) := by
  intro e he
  unfold Go.seen at he
  simp only at he
  rw [← Array.foldl_toList] at he
  have main : ∀ (l : List Event) (q : Bool) (kept : Array Event), (∀ x ∈ kept, ∀ f, x.loc ≠ .mark (.extern f)) → e ∈ (l.foldl (fun (x : Bool × Array Event) e => match e.loc with
      | .mark (.extern f) => ((P.funcs[f]?).any (·.norace), x.2)
      | _ => (x.1, if x.1 && !e.sync then x.2 else x.2.push e)) (q, kept)).2 → ∀ f, e.loc ≠ .mark (.extern f) := by
    intro l
    induction l with
    | nil => intro q kept hk h; exact hk e h
    | cons a l ih =>
      intro q kept hk h
      rw [List.foldl_cons] at h
      split at h
      · exact ih _ _ hk h
      · rename_i hne
        refine ih _ _ ?_ h
        intro x hx
        split at hx
        · exact hk x hx
        · rcases Array.mem_push.1 hx with h2 | rfl
          · exact hk x h2
          · exact fun f hf => hne f hf
  exact main _ _ _ (by simp) he

section
variable {P : Program} {S : Sets} {B : Nat → Prop}

theorem FrOk.with_todo {fr : Frame} (h : FrOk P S fr) {t : List Item} (ht : ∀ i ∈ t, okItem P S fr.fn i = true) : FrOk P S { fr with todo := t } := ⟨ht, h.defers, h.round, h.slots⟩
theorem FrOk.with_mode {fr : Frame} (h : FrOk P S fr) (m : FrameMode) : FrOk P S { fr with mode := m } := ⟨h.todo, h.defers, h.round, h.slots⟩
theorem FrOk.raise {fr : Frame} (h : FrOk P S fr) (vs : List PanicEntry) : FrOk P S (fr.raise vs) := by
  unfold Frame.raise
  split <;> exact h.with_mode _

theorem raise_top (k : List Item) (fr : Frame) (L : List Frame) (vs : List PanicEntry) : (top k fr L).raise vs = top k (fr.raise vs) L := by
  unfold Frame.raise top
  cases hm : fr.mode <;> simp

theorem raise_kind (fr : Frame) (vs : List PanicEntry) : (fr.raise vs).kind = fr.kind := by unfold Frame.raise; split <;> rfl

theorem getD_set (a : Array Value) (d t : Nat) (x : Value) : (a.setIfInBounds d x).getD t undef = a.getD t undef ∨ (t = d ∧ (a.setIfInBounds d x).getD t undef = x) := by
  by_cases e : d = t
  · subst e
    by_cases h : d < a.size
    · right
      refine ⟨rfl, ?_⟩
      simp [Array.getD_eq_getD_getElem?, h]
    · left
      simp [Array.getD_eq_getD_getElem?, h]
  · left
    simp [Array.getD_eq_getD_getElem?, Array.getElem?_setIfInBounds_ne e]

theorem finish_top {fr : Frame} {ops : Array Oper} {i : Nat} {rest : List Nat} {kk : List Item} (h : fr.todo = .inRegion ops (i :: rest) :: kk) (k : List Item) (L : List Frame) (x : Value) : (top k fr L).finish x = top k (fr.finish x) L := by
  unfold Frame.finish top
  simp only [h, List.cons_append]

theorem finish_ok {fr : Frame} (hf : FrOk P S fr) {ops : Array Oper} {i : Nat} {rest : List Nat} {kk : List Item} (h : fr.todo = .inRegion ops (i :: rest) :: kk) {x : Value}
    (hx : ∀ o, ops[i]? = some o → ∀ d, o.dst = some d → d ∈ S.D fr.fn → FnOk S x) : FrOk P S (fr.finish x) := by
  have e : fr.finish x = { fr with tmps := match (ops[i]?).bind (·.dst) with | some d => fr.tmps.setIfInBounds d x | none => fr.tmps, todo := .inRegion ops rest :: kk } := by
    unfold Frame.finish
    simp only [h]
    cases (ops[i]?).bind (·.dst) <;> rfl
  rw [e]
  have ht := hf.todo
  rw [h] at ht
  refine ⟨fun j hj => ?_, hf.defers, hf.round, fun t htD => ?_⟩
  · rcases List.mem_cons.1 hj with rfl | hj
    · exact show okItem P S fr.fn (.inRegion ops (i :: rest)) = true from ht _ (List.mem_cons_self ..)
    · exact ht _ (List.mem_cons_of_mem _ hj)
  · cases ho : ops[i]? with
    | none => exact hf.slots t htD
    | some o =>
      cases hd : o.dst with
      | none => simp only [hd, Option.bind_some]; exact hf.slots t htD
      | some d =>
        simp only [hd, Option.bind_some]
        rcases getD_set fr.tmps d t x with h' | ⟨rfl, h'⟩
        · rw [h']; exact hf.slots t htD
        · rw [h']; exact hx o ho t hd htD

theorem enter_ok (hC : Codes P S) {f : FuncId} (hf : S.F f = true) {args : Array Value} (ha : ∀ t ∈ S.D f, args.size ≤ t) : FrOk P S (Frame.enter P f args .normal) := by
  obtain ⟨fn, c, h1, h2, h3⟩ := hC.body f hf
  refine ⟨fun i hi => ?_, rfl, rfl, fun t ht => ?_⟩
  · have e : (Frame.enter P f args .normal).todo = [.code c] := by simp [Frame.enter, h1, h2]
    rw [e] at hi
    simp only [List.mem_singleton] at hi
    subst hi
    exact h3
  · have e : (Frame.enter P f args .normal).tmps = args ++ Array.replicate (fn.ntmps - args.size) undef := by simp [Frame.enter, h1]
    rw [e]
    have h4 := ha t ht
    have : (args ++ Array.replicate (fn.ntmps - args.size) undef).getD t undef = undef := by
      rw [Array.getD_eq_getD_getElem?, Array.getElem?_append_right h4, Array.getElem?_replicate]
      split <;> rfl
    rw [this]
    exact trivial

theorem dst_value {fr : Frame} (hf : FrOk P S fr) {o : Oper} (ho : okOper P S fr.fn o = true) {d : Tmp} (hd : o.dst = some d) (hD : d ∈ S.D fr.fn) : ∃ x, execOp fr.eval o = pure (.value x) ∧ FnOk S x := by
  unfold okOper at ho
  rw [hd] at ho
  simp only [Bool.and_eq_true, Bool.or_eq_true, Bool.not_eq_true', List.contains_eq_mem, decide_eq_false_iff_not] at ho
  obtain ⟨_, ho⟩ := ho
  rcases ho with ho | ho
  · exact absurd hD ho
  · split at ho
    · rename_i f first cap hop
      simp only [Bool.and_eq_true, List.isEmpty_iff] at ho
      exact ⟨.func (.func f) (first.map fr.eval) (cap.map fr.eval), by unfold execOp; rw [hop]; rfl, ho⟩
    · rename_i t hop
      exact ⟨fr.eval (.tmp t), by unfold execOp; rw [hop], hf.slots t (by simpa using ho)⟩
    · rename_i t hop
      exact ⟨fr.eval (.tmp t), by unfold execOp; rw [hop], hf.slots t (by simpa using ho)⟩
    · cases ho

/-- What is said of one step. -/
def Sim (P : Program) (S : Sets) (B : Nat → Prop) (k : List Item) (cs : List Frame) (c0 : Frame) (fr : Frame) (L : List Frame) (v : World) : Prop :=
  (∃ o w es, stepG P true (vg c0 fr L) v = .ended o w es) ∨
  ∃ fr' L' v' es, stepG P true (vg c0 fr L) v = .go (vg c0 fr' L') v' es ∧ Fit P S fr' L' ∧ After B v v' ∧ (∀ e ∈ es, Kept B e) ∧
    ∀ main w, Veil B w v → Agree w v (v'.drawn - v.drawn) → ∃ w', stepG P main (rg k cs fr L) w = .go (rg k cs fr' L') w' es ∧ Kin B w w' v v'

/-- A silent step. -/
theorem Sim.still {k : List Item} {cs : List Frame} {c0 : Frame} {fr fr' : Frame} {L L' : List Frame} {v : World} (hm : Masked B v) (h1 : stepG P true (vg c0 fr L) v = .go (vg c0 fr' L') v #[]) (hf : Fit P S fr' L')
    (h2 : ∀ main w, stepG P main (rg k cs fr L) w = .go (rg k cs fr' L') w #[]) : Sim P S B k cs c0 fr L v :=
  .inr ⟨fr', L', v, #[], h1, hf, .refl hm, by simp, fun main w hv _ => ⟨w, h2 main w, .refl hv⟩⟩

theorem early_ended (hC : Codes P S) (fr : Frame) (cs : List Frame) (d : Option Dying) (g : Nat) (w : World) : ∃ o w' es, early P fr cs d g w = .ended o w' es := by
  unfold early
  simp only [hC.ahead, hC.steps]
  exact ⟨_, _, _, rfl⟩

/-- An operation's computation: what the step makes of it. -/
theorem apply_ended (hC : Codes P S) {fr : Frame} {cs : List Frame} {s : Sem Next} {v : World} (h : Lost (s.runT P v #[]).1) : ∃ o w es, stepG.apply P true fr cs none s v = .ended o w es := by
  unfold stepG.apply
  rcases hr : s.runT P v #[] with ⟨r, es1⟩
  rw [hr] at h
  cases r with
  | ok a w => exact h.elim
  | halt x w =>
    cases x with
    | stuck m => exact ⟨_, _, _, rfl⟩
    | unsupported u =>
      cases u with
      | initOrder g =>
        obtain ⟨o, w', es, he⟩ := early_ended hC fr cs none g w
        simp only [if_true]
        rw [he]
        exact ⟨_, _, _, rfl⟩
      | _ => exact ⟨_, _, _, rfl⟩
    | _ => exact h.elim

def evs (P : Program) (fr : Frame) (es : Array Event) : Array Event := Go.seen P fr.fn (if fr.kind == .early then #[] else es)

theorem evs_fine {fr : Frame} {es : Array Event} (h : ∀ e ∈ es, e ∈ (#[] : Array Event) ∨ Fine B e) : ∀ e ∈ evs P fr es, Kept B e := by
  intro e he
  refine ⟨?_, seen_ext P fr.fn _ e he⟩
  have := seen_sub P fr.fn _ e he
  split at this
  · simp at this
  · rcases h e this with h | h
    · simp at h
    · exact h

theorem apply_value {fr : Frame} {cs : List Frame} {s : Sem Next} {v v' : World} {es : Array Event} {x : Value} (h : s.runT P v #[] = (.ok (.value x) v', es)) :
    stepG.apply P true fr cs none s v = .go { frame := fr.finish x, callers := cs, status := .running, dying := none } v' (evs P fr es) := by
  unfold stepG.apply
  rw [h]
  simp [GStep.after, evs]
theorem apply_skip {fr : Frame} {cs : List Frame} {s : Sem Next} {v v' : World} {es : Array Event} (h : s.runT P v #[] = (.ok .skip v', es)) :
    stepG.apply P true fr cs none s v = .go { frame := fr.finish undef, callers := cs, status := .running, dying := none } v' (evs P fr es) := by
  unfold stepG.apply
  rw [h]
  simp [GStep.after, evs]
theorem apply_enter {fr : Frame} {cs : List Frame} {s : Sem Next} {v v' : World} {es : Array Event} {f : FuncId} {args : Array Value} (hn : ∃ ops is kk, fr.todo = .inRegion ops is :: kk) (h : s.runT P v #[] = (.ok (.enter f args) v', es)) :
    stepG.apply P true fr cs none s v = .go { frame := Frame.enter P f args .normal, callers := fr :: cs, status := .running, dying := none } v' (evs P fr es) := by
  obtain ⟨ops, is, kk, hn⟩ := hn
  unfold stepG.apply
  rw [h, hn]
  simp [GStep.after, evs]
theorem apply_panic {fr : Frame} {cs : List Frame} {s : Sem Next} {v v' : World} {es : Array Event} {x : Value} (h : s.runT P v #[] = (.halt (.panic x) v', es)) :
    stepG.apply P true fr cs none s v = .go { frame := fr.raise [{ v := x, recovered := false }], callers := cs, status := .running, dying := none } v' (evs P fr es) := by
  unfold stepG.apply
  rw [h]
  simp [GStep.after, evs]

end
end Go.Co

/-
  EVERY STEP BUT THE LAST.
-/
namespace Go.Co

section
variable {P : Program} {S : Sets} {B : Nat → Prop} {k : List Item} {cs : List Frame} {c0 : Frame}

theorem Fit.top' {fr fr' : Frame} {L : List Frame} (h : Fit P S fr L) (h' : FrOk P S fr') (hk : fr'.kind = fr.kind) : Fit P S fr' L := by
  refine ⟨h', h.callers, ?_⟩
  cases L with
  | nil => intro f hf; simp at hf
  | cons c l =>
    intro f hf
    have h3 := h.kinds
    simp only [List.dropLast_cons_of_ne_nil (List.cons_ne_nil _ _), List.mem_cons] at hf h3
    rcases hf with rfl | hf
    · rw [hk]; exact h3 _ (.inl rfl)
    · exact h3 _ (.inr hf)

theorem finish_kind {fr : Frame} {ops : Array Oper} {i : Nat} {rest : List Nat} {kk : List Item} (h : fr.todo = .inRegion ops (i :: rest) :: kk) (x : Value) : (fr.finish x).kind = fr.kind := by
  unfold Frame.finish; simp only [h]

theorem evs_top (fr : Frame) (L : List Frame) (es : Array Event) : evs P (top k fr L) es = evs P fr es := rfl

theorem sim_oper (hR : Ready P S B) (hC : Codes P S) {fr : Frame} {L : List Frame} {v : World} (hf : Fit P S fr L) (hm : Masked B v) (hmode : fr.mode = .run) {ops : Array Oper} {i : Nat} {rest : List Nat} {kk : List Item}
    (ht : fr.todo = .inRegion ops (i :: rest) :: kk) {o : Oper} (ho : ops[i]? = some o) (hw : Region.wanted o (yielded ops fr.tmps) = true) : Sim P S B k cs c0 fr L v := by
  have e1 : stepG P true (vg c0 fr L) v = stepG.apply P true fr (L ++ [c0]) none (execOp fr.eval o) v := by
    obtain ⟨fn, tmps, todo, defers, mode, kind, rd⟩ := fr
    simp only at hmode ht hw
    subst hmode ht
    have hrd : rd = none := hf.top.round
    subst hrd
    simp [vg, stepG, stepG.exec, stepG.oper, Frame.oper?, ho, hw]
  have e2 : ∀ main w, stepG P main (rg k cs fr L) w = stepG.apply P true (top k fr L) (below k cs L) none (execOp fr.eval o) w := by
    intro main w
    have he := eval_top k fr L
    obtain ⟨fn, tmps, todo, defers, mode, kind, rd⟩ := fr
    simp only at hmode ht hw
    subst hmode ht
    have hrd : rd = none := hf.top.round
    subst hrd
    simp only [top] at he
    simp [rg, top, stepG, stepG.exec, stepG.oper, Frame.oper?, ho, hw]
    rfl
  have hok : okOper P S fr.fn o = true := by
    have := hf.top.todo _ (by rw [ht]; exact List.mem_cons_self ..)
    simp only [okItem, Array.all_eq_true_iff_forall_mem] at this
    exact this o (Array.mem_of_getElem? ho)
  have hop : okOp P S fr.fn o.op = true := by
    unfold okOper at hok
    exact (Bool.and_eq_true _ _ ▸ hok).1
  have hl := (loc_execOp hR (ρ := fr.eval) (fn := fr.fn) (o := o) (fun t ht => hf.top.slots t ht) (fun _ => rfl) (fun _ => rfl) hop).out v #[] hm
  rcases hl with hl | ⟨hleaf, haft, hev, hreal⟩
  · obtain ⟨o', w', es', h⟩ := apply_ended (fr := fr) (cs := L ++ [c0]) hC hl
    exact .inl ⟨o', w', es', e1.trans h⟩
  · rcases hr : (execOp fr.eval o).runT P v #[] with ⟨r, es⟩
    rw [hr] at hleaf haft hev hreal
    have hdst : ∀ x, (∃ w', r = .ok (.value x) w') → ∀ o', ops[i]? = some o' → ∀ d, o'.dst = some d → d ∈ S.D fr.fn → FnOk S x := by
      rintro x ⟨w', rfl⟩ o' ho' d hd hD
      rw [ho] at ho'
      cases ho'
      obtain ⟨y, hy, hyo⟩ := dst_value hf.top hok hd hD
      rw [hy] at hr
      have : x = y := by
        have := congrArg Prod.fst hr
        cases this
        rfl
      rw [this]; exact hyo
    have hnod : (∀ x w', r ≠ .ok (.value x) w') → ∀ o', ops[i]? = some o' → ∀ d, o'.dst = some d → ¬ d ∈ S.D fr.fn := by
      intro hne o' ho' d hd hD
      rw [ho] at ho'
      cases ho'
      obtain ⟨y, hy, hyo⟩ := dst_value hf.top hok hd hD
      rw [hy] at hr
      have := congrArg Prod.fst hr
      exact hne y v this.symm
    cases r with
    | halt x v' =>
      cases x with
      | panic y =>
        refine .inr ⟨_, L, v', _, e1.trans (apply_panic hr), hf.top' (hf.top.raise _) (raise_kind _ _), haft, evs_fine hev, fun main w hv hag => ?_⟩
        obtain ⟨w1, h1, h2⟩ := hreal w hv hag
        refine ⟨w1, ?_, h2⟩
        rw [e2, apply_panic h1, raise_top]
        rfl
      | stuck m =>
        obtain ⟨o', w', es', h⟩ := apply_ended (fr := fr) (cs := L ++ [c0]) (s := execOp fr.eval o) (v := v) hC (by rw [hr]; trivial)
        exact .inl ⟨o', w', es', e1.trans h⟩
      | unsupported u =>
        obtain ⟨o', w', es', h⟩ := apply_ended (fr := fr) (cs := L ++ [c0]) (s := execOp fr.eval o) (v := v) hC (by rw [hr]; trivial)
        exact .inl ⟨o', w', es', e1.trans h⟩
      | _ => exact hleaf.elim
    | ok n v' =>
      cases n with
      | value x =>
        refine .inr ⟨_, L, v', _, e1.trans (apply_value hr), hf.top' (finish_ok hf.top ht (hdst x ⟨_, rfl⟩)) (finish_kind ht _), haft, evs_fine hev, fun main w hv hag => ?_⟩
        obtain ⟨w1, h1, h2⟩ := hreal w hv hag
        refine ⟨w1, ?_, h2⟩
        rw [e2, apply_value h1, finish_top ht]
        rfl
      | skip =>
        refine .inr ⟨_, L, v', _, e1.trans (apply_skip hr), hf.top' (finish_ok hf.top ht (fun _ _ _ _ _ => trivial)) (finish_kind ht _), haft, evs_fine hev, fun main w hv hag => ?_⟩
        obtain ⟨w1, h1, h2⟩ := hreal w hv hag
        refine ⟨w1, ?_, h2⟩
        rw [e2, apply_skip h1, finish_top ht]
        rfl
      | enter f args =>
        refine .inr ⟨_, fr :: L, v', _, e1.trans (apply_enter ⟨_, _, _, ht⟩ hr), ⟨enter_ok hC hleaf.1 hleaf.2, ?_, ?_⟩, haft, evs_fine hev, fun main w hv hag => ?_⟩
        · intro c hc
          rcases List.mem_cons.1 hc with rfl | hc
          · exact ⟨hf.top, ⟨ops, i, rest, kk, ht, hnod (by intro x w'; simp)⟩, hmode⟩
          · exact hf.callers c hc
        · intro g hg
          simp only [List.dropLast_cons_of_ne_nil (List.cons_ne_nil _ _), List.mem_cons] at hg
          rcases hg with rfl | hg
          · rfl
          · exact hf.kinds g hg
        · obtain ⟨w1, h1, h2⟩ := hreal w hv hag
          refine ⟨w1, ?_, h2⟩
          rw [e2, apply_enter ⟨ops, i :: rest, kk ++ ek k L, by simp [top, ht]⟩ h1]
          simp [rg, top, below, ek, evs]
      | _ => exact hleaf.elim

end
end Go.Co

/-
  THE STEPS OF CONTROL; THE WAY OUT OF A FUNCTION; TOGETHER: EVERY STEP.
-/
namespace Go.Co

section
variable {P : Program} {S : Sets} {B : Nat → Prop} {k : List Item} {cs : List Frame} {c0 : Frame}

theorem exitTo_append {id : Nat} {l r : List Item} (h : exitTo id l = some r) (k : List Item) : exitTo id (l ++ k) = some (r ++ k) := by
  induction l with
  | nil => cases h
  | cons x l ih =>
    cases x with
    | inBlock id' =>
      simp only [List.cons_append, exitTo] at h ⊢
      split at h
      · cases h; rename_i e; rw [if_pos e]
      · rename_i e; rw [if_neg e]; exact ih h
    | _ => simp only [List.cons_append, exitTo] at h ⊢; exact ih h

theorem exitTo_sub {id : Nat} {l r : List Item} (h : exitTo id l = some r) : ∀ x ∈ r, x ∈ l := by
  induction l with
  | nil => cases h
  | cons y l ih =>
    intro x hx
    cases y with
    | inBlock id' =>
      simp only [exitTo] at h
      split at h
      · cases h; exact List.mem_cons_of_mem _ hx
      · exact List.mem_cons_of_mem _ (ih h x hx)
    | _ => simp only [exitTo] at h; exact List.mem_cons_of_mem _ (ih h x hx)

theorem gotoIn_append {id : Nat} {l r : List Item} (h : gotoIn id l = some r) (k : List Item) : gotoIn id (l ++ k) = some (r ++ k) := by
  induction l with
  | nil => cases h
  | cons x l ih =>
    cases x with
    | inScope body =>
      simp only [List.cons_append, gotoIn] at h ⊢
      cases e : findLabel body id with
      | some rest => rw [e] at h; cases h; rfl
      | none => rw [e] at h; exact ih h
    | _ => simp only [List.cons_append, gotoIn] at h ⊢; exact ih h

theorem findLabel_ok {fn : FuncId} {l : Nat} : ∀ {c r : Code}, findLabel c l = some r → okCode P S fn c = true → okCode P S fn r = true
  | .seq a b, r, h, ho => by
    simp only [okCode, Bool.and_eq_true] at ho
    simp only [findLabel] at h
    split at h
    · rename_i rest e
      cases h
      simp only [okCode, Bool.and_eq_true]
      exact ⟨findLabel_ok e ho.1, ho.2⟩
    · exact findLabel_ok h ho.2
  | .label l', r, h, _ => by
    simp only [findLabel] at h
    split at h
    · cases h; rfl
    · cases h
  | .skip, _, h, _ | .region .., _, h, _ | .cond .., _, h, _ | .block .., _, h, _ | .loop _, _, h, _ | .rangeFunc .., _, h, _ | .exit _, _, h, _ | .scope _, _, h, _ | .goto _, _, h, _ | .ret, _, h, _ | .refuse _, _, h, _ => by
    simp [findLabel] at h

theorem gotoIn_ok {fn : FuncId} {l : Nat} {is r : List Item} (h : gotoIn l is = some r) (ho : ∀ i ∈ is, okItem P S fn i = true) : ∀ i ∈ r, okItem P S fn i = true := by
  induction is with
  | nil => cases h
  | cons y is ih =>
    have h2 : ∀ i ∈ is, okItem P S fn i = true := fun i hi => ho i (List.mem_cons_of_mem _ hi)
    have h1 := ho y (List.mem_cons_self ..)
    cases y with
    | inScope body =>
      simp only [gotoIn] at h
      split at h
      · rename_i rest e
        cases h
        intro i hi
        rcases List.mem_cons.1 hi with rfl | hi
        · exact findLabel_ok e h1
        · rcases List.mem_cons.1 hi with rfl | hi
          · exact h1
          · exact h2 i hi
      · exact ih h h2
    | _ => simp only [gotoIn] at h; exact ih h h2

/-- A step of control: the items turn, nothing else. -/
theorem sim_to {fr : Frame} {L : List Frame} {v : World} (hf : Fit P S fr L) (hm : Masked B v) {t : List Item} (ht : ∀ i ∈ t, okItem P S fr.fn i = true)
    (h1 : stepG P true (vg c0 fr L) v = .go (vg c0 { fr with todo := t } L) v #[])
    (h2 : ∀ main w, stepG P main (rg k cs fr L) w = .go { frame := { fr with todo := t ++ ek k L }, callers := below k cs L, status := .running, dying := none } w #[]) : Sim P S B k cs c0 fr L v :=
  Sim.still hm h1 (hf.top' (hf.top.with_todo ht) rfl) h2

theorem sim_run (hR : Ready P S B) (hC : Codes P S) {fr : Frame} {L : List Frame} {v : World} (hf : Fit P S fr L) (hm : Masked B v) (hmode : fr.mode = .run) (hlive : fr.todo ≠ [] ∨ ek k L = []) : Sim P S B k cs c0 fr L v := by
  have hrd := hf.top.round
  have htd := hf.top.todo
  cases htodo : fr.todo with
  | nil =>
    have hek : ek k L = [] := by
      rcases hlive with h | h
      · exact absurd htodo h
      · exact h
    refine Sim.still (fr' := { fr with mode := .returning }) (L' := L) hm ?_ (hf.top' (hf.top.with_mode _) rfl) fun main w => ?_
    · obtain ⟨fn, tmps, todo, defers, mode, kind, rd⟩ := fr
      simp only at hmode htodo hrd
      subst hmode htodo hrd
      simp [vg, stepG, stepG.exec]
    · obtain ⟨fn, tmps, todo, defers, mode, kind, rd⟩ := fr
      simp only at hmode htodo hrd
      subst hmode htodo hrd
      simp [rg, top, hek, stepG, stepG.exec]
  | cons x kk =>
    rw [htodo] at htd
    have hx := htd x (List.mem_cons_self ..)
    have hkk : ∀ i ∈ kk, okItem P S fr.fn i = true := fun i hi => htd i (List.mem_cons_of_mem _ hi)
    have two : ∀ (a : Item) (l : List Item), okItem P S fr.fn a = true → (∀ i ∈ l, okItem P S fr.fn i = true) → ∀ i ∈ a :: l, okItem P S fr.fn i = true := fun a l h1 h2 i hi => by
      rcases List.mem_cons.1 hi with rfl | hi
      · exact h1
      · exact h2 i hi
    have hfn : ∀ (t : List Item), (∀ i ∈ t, okItem P S fr.fn i = true) → (∀ main w (cs' : List Frame) (tail : List Item), stepG P main { frame := { fr with todo := fr.todo ++ tail }, callers := cs', status := .running, dying := none } w = .go { frame := { fr with todo := t ++ tail }, callers := cs', status := .running, dying := none } w #[]) → Sim P S B k cs c0 fr L v := by
      intro t ht hstep
      refine sim_to hf hm ht ?_ fun main w => hstep main w _ _
      have := hstep true v (L ++ [c0]) []
      rw [List.append_nil, List.append_nil] at this
      exact this
    cases x with
    | inBlock id => exact hfn kk hkk fun main w cs' tail => by simp [htodo, hmode, stepG, stepG.exec]
    | inScope c => exact hfn kk hkk fun main w cs' tail => by simp [htodo, hmode, stepG, stepG.exec]
    | inLoop c => exact hfn (.code c :: .inLoop c :: kk) (two _ _ hx (two _ _ hx hkk)) fun main w cs' tail => by simp [htodo, hmode, stepG, stepG.exec]
    | inRangeFunc l => cases hx
    | endRangeFunc l => cases hx
    | beginRound => cases hx
    | call => cases hx
    | extern => cases hx
    | inRegion ops is =>
      cases is with
      | nil => exact hfn kk hkk fun main w cs' tail => by simp [htodo, hmode, stepG, stepG.exec]
      | cons i rest =>
        by_cases hwant : ((ops[i]?).map (Region.wanted · (yielded ops fr.tmps))).getD false = true
        · cases ho : ops[i]? with
          | none => rw [ho] at hwant; cases hwant
          | some o =>
            rw [ho] at hwant
            exact sim_oper hR hC hf hm hmode htodo ho hwant
        · refine Sim.still (fr' := fr.finish undef) (L' := L) hm ?_ (hf.top' (finish_ok hf.top htodo (fun _ _ _ _ _ => trivial)) (finish_kind htodo _)) fun main w => ?_
          · obtain ⟨fn, tmps, todo, defers, mode, kind, rd⟩ := fr
            simp only at hmode htodo hrd hwant
            subst hmode htodo hrd
            simp [vg, stepG, stepG.exec, hwant]
          · rw [show rg k cs (fr.finish undef) L = { frame := (top k fr L).finish undef, callers := below k cs L, status := .running, dying := none } by rw [finish_top htodo]; rfl]
            obtain ⟨fn, tmps, todo, defers, mode, kind, rd⟩ := fr
            simp only at hmode htodo hrd hwant
            subst hmode htodo hrd
            simp [rg, top, stepG, stepG.exec, hwant]
    | code c =>
      cases c with
      | skip => exact hfn kk hkk fun main w cs' tail => by simp [htodo, hmode, stepG, stepG.exec]
      | label l => exact hfn kk hkk fun main w cs' tail => by simp [htodo, hmode, stepG, stepG.exec]
      | seq a b =>
        simp only [okItem, okCode, Bool.and_eq_true] at hx
        exact hfn (.code a :: .code b :: kk) (two _ _ hx.1 (two _ _ hx.2 hkk)) fun main w cs' tail => by simp [htodo, hmode, stepG, stepG.exec]
      | block id c => exact hfn (.code c :: .inBlock id :: kk) (two _ _ hx (two _ _ rfl hkk)) fun main w cs' tail => by simp [htodo, hmode, stepG, stepG.exec]
      | loop c => exact hfn (.code c :: .inLoop c :: kk) (two _ _ hx (two _ _ hx hkk)) fun main w cs' tail => by simp [htodo, hmode, stepG, stepG.exec]
      | scope c => exact hfn (.code c :: .inScope c :: kk) (two _ _ hx (two _ _ hx hkk)) fun main w cs' tail => by simp [htodo, hmode, stepG, stepG.exec]
      | rangeFunc => cases hx
      | refuse why =>
        refine .inl ?_
        obtain ⟨fn, tmps, todo, defers, mode, kind, rd⟩ := fr
        simp only at hmode htodo hrd
        subst hmode htodo hrd
        exact ⟨_, _, _, by simp [vg, stepG, stepG.exec]; exact ⟨rfl, rfl, rfl⟩⟩
      | cond x a b =>
        simp only [okItem, okCode, Bool.and_eq_true] at hx
        cases hb : fr.eval x with
        | bool t =>
          have he : ∀ tail, ({ fr with todo := fr.todo ++ tail } : Frame).eval x = .bool t := by intro tail; rw [← hb]; cases x <;> rfl
          refine hfn (.code (if t then a else b) :: kk) (two _ _ (by cases t <;> simp [okItem, hx]) hkk) fun main w cs' tail => ?_
          have := he tail
          rw [htodo] at this
          simp only [hmode, htodo, stepG, stepG.exec, List.cons_append] at this ⊢
          simp only [this]
        | _ =>
          refine .inl ?_
          obtain ⟨fn, tmps, todo, defers, mode, kind, rd⟩ := fr
          simp only at hmode htodo hrd
          subst hmode htodo hrd
          simp only [vg, stepG, stepG.exec, hb]
          exact ⟨_, _, _, rfl⟩
      | exit id =>
        cases he : exitTo id kk with
        | none =>
          refine .inl ?_
          obtain ⟨fn, tmps, todo, defers, mode, kind, rd⟩ := fr
          simp only at hmode htodo hrd
          subst hmode htodo hrd
          simp only [vg, stepG, stepG.exec, he, Option.elim]
          exact ⟨_, _, _, rfl⟩
        | some r =>
          exact hfn r (fun i hi => hkk i (exitTo_sub he i hi)) fun main w cs' tail => by simp [htodo, hmode, stepG, stepG.exec, exitTo_append he]
      | goto l =>
        cases he : gotoIn l kk with
        | none =>
          refine .inl ?_
          obtain ⟨fn, tmps, todo, defers, mode, kind, rd⟩ := fr
          simp only at hmode htodo hrd
          subst hmode htodo hrd
          simp only [vg, stepG, stepG.exec, he, Option.elim]
          exact ⟨_, _, _, rfl⟩
        | some r =>
          exact hfn r (gotoIn_ok he hkk) fun main w cs' tail => by simp [htodo, hmode, stepG, stepG.exec, gotoIn_append he]
      | ret =>
        refine Sim.still (fr' := { fr with mode := .returning }) (L' := L) hm ?_ (hf.top' (hf.top.with_mode _) rfl) fun main w => ?_
        · obtain ⟨fn, tmps, todo, defers, mode, kind, rd⟩ := fr
          simp only at hmode htodo hrd
          subst hmode htodo hrd
          simp [vg, stepG, stepG.exec]
        · obtain ⟨fn, tmps, todo, defers, mode, kind, rd⟩ := fr
          simp only at hmode htodo hrd
          subst hmode htodo hrd
          simp [rg, top, stepG, stepG.exec]
      | region id ops draw =>
        cases draw with
        | false => exact hfn (.inRegion ops (List.range ops.size) :: kk) (two _ _ hx hkk) fun main w cs' tail => by simp [htodo, hmode, stepG, stepG.exec]
        | true =>
          let sched := fun (w : World) => Region.schedule (P.follows .mixedOrders) ops (w.tape w.drawn (.order fr.fn id))
          have step : ∀ main (w : World) (cs' : List Frame) (tail : List Item), stepG P main { frame := { fr with todo := fr.todo ++ tail }, callers := cs', status := .running, dying := none } w =
              .go { frame := { fr with todo := (.inRegion ops (sched w) :: kk) ++ tail }, callers := cs', status := .running, dying := none } { w with drawn := w.drawn + 1 } #[] := by
            intro main w cs' tail
            simp [htodo, hmode, stepG, stepG.exec, choose, Sem.run, Question.forced, Question.cut, sched]
          refine .inr ⟨{ fr with todo := .inRegion ops (sched v) :: kk }, L, { v with drawn := v.drawn + 1 }, #[], ?_, hf.top' (hf.top.with_todo (two _ _ hx hkk)) rfl, ⟨rfl, Nat.le_succ _, hm, Nat.le_refl _⟩, by simp, fun main w hv hag => ⟨{ w with drawn := w.drawn + 1 }, ?_, hv.at rfl rfl rfl rfl rfl rfl, rfl, by simp, fun _ _ => rfl⟩⟩
          · have := step true v (L ++ [c0]) []
            rw [List.append_nil, List.append_nil] at this
            exact this
          · have h0 := hag 0 (by simp)
            simp only [Nat.add_zero] at h0
            have := step main w (below k cs L) (ek k L)
            have hs : sched w = sched v := by simp only [sched, h0]
            rw [hs] at this
            exact this

end
end Go.Co

/-
  THE WAY OUT OF A FUNCTION; EVERY STEP BUT THE BASE's LAST.
-/
namespace Go.Co

section
variable {P : Program} {S : Sets} {B : Nat → Prop} {k : List Item} {cs : List Frame} {c0 : Frame}

theorem loc_results (fn : Func) (tmps : Array Value) : Loc P B (fun _ => True) (results fn tmps) := by
  unfold results
  refine Loc.bind (loc_mapM (fun a => ?_) _) fun _ _ => Loc.pure trivial
  split
  · exact Loc.pure trivial
  · exact Loc.bind (loc_asAddr _) fun _ _ => loc_loadVar _ _

theorem Fit.pop {fr c : Frame} {l : List Frame} (h : Fit P S fr (c :: l)) {c' : Frame} (hc : FrOk P S c') (hk : c'.kind = c.kind) : Fit P S c' l := by
  refine Fit.top' (fr := c) ⟨(h.callers c (List.mem_cons_self ..)).1, fun d hd => h.callers d (List.mem_cons_of_mem _ hd), fun f hf => ?_⟩ hc hk
  exact h.kinds f (by rw [List.dropLast_cons_of_ne_nil (List.cons_ne_nil _ _)]; exact List.mem_cons_of_mem _ hf)

theorem Fit.kind {fr c : Frame} {l : List Frame} (h : Fit P S fr (c :: l)) : fr.kind = .normal := h.kinds fr (by rw [List.dropLast_cons_of_ne_nil (List.cons_ne_nil _ _)]; exact List.mem_cons_self ..)

theorem wait_finish {c : Frame} (hc : FrOk P S c) (hw : Wait S c) (x : Value) : FrOk P S (c.finish x) ∧ (c.finish x).kind = c.kind ∧ ∀ (k : List Item) (L : List Frame), (top k c L).finish x = top k (c.finish x) L := by
  obtain ⟨ops, i, rest, kk, ht, hd⟩ := hw
  exact ⟨finish_ok hc ht fun o ho d h1 h2 => absurd h2 (hd o ho d h1), finish_kind ht x, fun k L => finish_top ht k L x⟩

theorem sim_unwind {fr c : Frame} {l : List Frame} {v : World} (hf : Fit P S fr (c :: l)) (hm : Masked B v) (hmode : fr.mode ≠ .run) : Sim P S B k cs c0 fr (c :: l) v := by
  have hrd := hf.top.round
  have hdf := hf.top.defers
  have hkd := hf.kind
  obtain ⟨hcok, hcw, hcm⟩ := hf.callers c (List.mem_cons_self ..)
  cases hmo : fr.mode with
  | run => exact absurd hmo hmode
  | panicking chain =>
    have hca : fr.catches P = false := by
      unfold Frame.catches
      cases ht : fr.todo with
      | nil => split <;> first | (rename_i h; cases h; done) | rfl
      | cons x kk =>
        cases x with
        | call d wr r s =>
          have := hf.top.todo (.call d wr r s) (by rw [ht]; exact List.mem_cons_self ..)
          cases this
        | _ => split <;> first | (rename_i h; cases h; done) | rfl
    have hca2 : (top k fr (c :: l)).catches P = false := by
      rw [← hca]
      unfold Frame.catches top ek
      simp
    refine Sim.still (fr' := c.raise chain) (L' := l) hm ?_ (hf.pop (hcok.raise _) (raise_kind _ _)) fun main w => ?_
    · simp [vg, stepG, hmo, unwind, hdf, hca]
    · have e : (top k fr (c :: l)).mode = .panicking chain := hmo
      have e2 : (top k fr (c :: l)).defers = [] := hdf
      simp [rg, stepG, e, unwind, e2, hca2, below, raise_top]
  | returning =>
    have doR : ∀ main (x : Value) (w : World), doReturn P main (top k fr (c :: l)) (below k cs (c :: l)) none x w = .go (rg k cs (c.finish x) l) w #[] := by
      intro main x w
      have e3 : (top k fr (c :: l)).kind = .normal := hkd
      simp [doReturn, below, e3, rg, (wait_finish hcok hcw x).2.2]
    have doV : ∀ (x : Value) (w : World), doReturn P true fr (c :: l ++ [c0]) none x w = .go (vg c0 (c.finish x) l) w #[] := by
      intro x w
      simp [doReturn, hkd, vg]
    cases hfn : P.funcs[fr.fn]? with
    | none =>
      refine Sim.still (fr' := c.finish (fr.tmps.getD 0 undef)) (L' := l) hm ?_ (hf.pop (wait_finish hcok hcw _).1 (wait_finish hcok hcw _).2.1) fun main w => ?_
      · rw [← doV]
        simp [vg, stepG, hmo, unwind, hdf, hfn]
      · rw [← doR main]
        have e : (top k fr (c :: l)).mode = .returning := hmo
        have e2 : (top k fr (c :: l)).defers = [] := hdf
        have e4 : P.funcs[(top k fr (c :: l)).fn]? = none := hfn
        simp [rg, stepG, e, unwind, e2, e4]
        rfl
    | some fn =>
      have e1 : stepG P true (vg c0 fr (c :: l)) v = GStep.after (Go.seen P fr.fn ((results fn fr.tmps).runT P v #[]).2) (match ((results fn fr.tmps).runT P v #[]).1 with
          | .ok x w => doReturn P true fr (c :: l ++ [c0]) none x w
          | .halt (.stuck s) w => .ended (.stuck s (fr.pos P)) w
          | .halt _ w => .ended (.stuck "return: the result variables cannot be read" (fr.pos P)) w) := by
        simp [vg, stepG, hmo, unwind, hdf, hfn]
        rfl
      have e2 : ∀ main w, stepG P main (rg k cs fr (c :: l)) w = GStep.after (Go.seen P fr.fn ((results fn fr.tmps).runT P w #[]).2) (match ((results fn fr.tmps).runT P w #[]).1 with
          | .ok x w => doReturn P main (top k fr (c :: l)) (below k cs (c :: l)) none x w
          | .halt (.stuck s) w => .ended (.stuck s ((top k fr (c :: l)).pos P)) w
          | .halt _ w => .ended (.stuck "return: the result variables cannot be read" ((top k fr (c :: l)).pos P)) w) := by
        intro main w
        have e : (top k fr (c :: l)).mode = .returning := hmo
        have e2 : (top k fr (c :: l)).defers = [] := hdf
        have e4 : P.funcs[(top k fr (c :: l)).fn]? = some fn := hfn
        simp [rg, stepG, e, unwind, e2, e4]
        rfl
      have hl := (loc_results (P := P) (B := B) fn fr.tmps).out v #[] hm
      rcases hr : (results fn fr.tmps).runT P v #[] with ⟨r, es⟩
      rw [hr] at e1 hl
      cases r with
      | halt h w' =>
        refine .inl ?_
        rw [e1]
        cases h <;> exact ⟨_, _, _, rfl⟩
      | ok x v' =>
        rcases hl with hl | ⟨_, haft, hev, hreal⟩
        · exact hl.elim
        · refine .inr ⟨c.finish x, l, v', Go.seen P fr.fn es, ?_, hf.pop (wait_finish hcok hcw _).1 (wait_finish hcok hcw _).2.1, haft, fun e he => ?_, fun main w hv hag => ?_⟩
          · rw [e1]
            simp only [doV, GStep.after, Array.append_empty]
          · refine ⟨?_, seen_ext P fr.fn es e he⟩
            rcases hev e (seen_sub P fr.fn es e he) with h | h
            · simp at h
            · exact h
          · obtain ⟨w1, h1, h2⟩ := hreal w hv hag
            refine ⟨w1, ?_, h2⟩
            rw [e2, h1]
            simp only [Result.put', doR, GStep.after, Array.append_empty]

/-- EVERY STEP BUT THE BASE's LAST. -/
theorem sim_step (hR : Ready P S B) (hC : Codes P S) {fr : Frame} {L : List Frame} {v : World} (hf : Fit P S fr L) (hm : Masked B v) (hlive : (fr.mode = .run ∧ (fr.todo ≠ [] ∨ ek k L = [])) ∨ L ≠ []) : Sim P S B k cs c0 fr L v := by
  by_cases hmode : fr.mode = .run
  · refine sim_run hR hC hf hm hmode ?_
    rcases hlive with h | h
    · exact h.2
    · cases L with
      | nil => exact absurd rfl h
      | cons c l => exact .inr rfl
  · cases L with
    | nil =>
      rcases hlive with h | h
      · exact absurd h.1 hmode
      · exact absurd rfl h
    | cons c l => exact sim_unwind hf hm hmode

end
end Go.Co

/-
  A LONE WALK THAT COMES TO ITS END ON WHATEVER TAPE COMES TO IT WHATEVER THE ANSWERS ARE, ONE BY ONE (a bar).
-/
namespace Go.Co

def _root_.Go.World.on (w : World) (t : Nat → Question → Nat) (d : Nat) : World := { w with tape := t, drawn := d }

/-- The made-up caller: whatever comes back to it, or falls through it, ends the run. -/
def c0 : Frame := { fn := 0, tmps := #[], todo := [.code (.refuse "")], defers := [{ target := .nil, args := #[] }], mode := .run, kind := .normal }

/-- The base has come to the end of its code ('body': it is a function's whole body: it has come to its return). -/
def Final (body : Bool) (fr : Frame) (L : List Frame) : Prop := L = [] ∧ (fr.mode ≠ .run ∨ (body = false ∧ fr.todo = []))

/-- The end that is asked for. -/
def Endp (body : Bool) (fr : Frame) : Prop := (body = false ∧ fr.mode = .run ∧ fr.todo = []) ∨ (body = true ∧ fr.mode = .returning)

theorem Endp.final {body : Bool} {fr : Frame} (h : Endp body fr) : Final body fr [] := by
  rcases h with ⟨h1, _, h3⟩ | ⟨_, h2⟩
  · exact ⟨rfl, .inr ⟨h1, h3⟩⟩
  · exact ⟨rfl, .inl (by rw [h2]; simp)⟩

/-- Whatever the tape answers, step by step, it comes to an end of which 'Fin' holds. -/
inductive Bar (P : Program) (body : Bool) (Fin : Frame → World → Prop) : Frame → List Frame → World → Prop
  | fin {fr : Frame} {L : List Frame} {v : World} (hf : Final body fr L) (h : Fin fr v) : Bar P body Fin fr L v
  | step {fr : Frame} {L : List Frame} {v : World} (hf : ¬ Final body fr L) (h : ∀ t d o w es, stepG P true (vg c0 fr L) (v.on t d) ≠ .ended o w es)
      (hn : ∀ t d fr' L' v' es, stepG P true (vg c0 fr L) (v.on t d) = .go (vg c0 fr' L') v' es → Bar P body Fin fr' L' v') : Bar P body Fin fr L v

/-! ### pieces of tape laid one behind the other -/

def sums (cnt : Nat → Nat) : Nat → Nat
  | 0 => 0
  | n + 1 => sums cnt n + cnt n

theorem sums_le {cnt : Nat → Nat} {n m : Nat} (h : n ≤ m) : sums cnt n ≤ sums cnt m := by
  induction m with
  | zero => rw [Nat.le_zero.1 h]; exact Nat.le_refl _
  | succ m ih =>
    rcases Nat.lt_or_ge n (m + 1) with h' | h'
    · exact Nat.le_trans (ih (by omega)) (Nat.le_add_right _ _)
    · rw [show n = m + 1 by omega]; exact Nat.le_refl _

theorem splice {α : Type} [Inhabited α] (cnt : Nat → Nat) (f : Nat → Nat → α) : ∃ T : Nat → α, ∀ n j, j < cnt n → T (sums cnt n + j) = f n j := by
  classical
  refine ⟨fun i => if h : ∃ p : Nat × Nat, p.2 < cnt p.1 ∧ i = sums cnt p.1 + p.2 then f (Classical.choose h).1 (Classical.choose h).2 else default, fun n j hj => ?_⟩
  have h : ∃ p : Nat × Nat, p.2 < cnt p.1 ∧ sums cnt n + j = sums cnt p.1 + p.2 := ⟨(n, j), hj, rfl⟩
  simp only [dif_pos h]
  obtain ⟨h1, h2⟩ := Classical.choose_spec h
  have key : ∀ a b x y, x < cnt a → y < cnt b → sums cnt a + x = sums cnt b + y → ¬ a < b := by
    intro a b x y hx hy he hab
    have := sums_le (cnt := cnt) (show a + 1 ≤ b by omega)
    simp only [sums] at this
    omega
  have e1 : (Classical.choose h).1 = n := by
    have k1 := key _ _ _ _ h1 hj h2.symm
    have k2 := key _ _ _ _ hj h1 h2
    omega
  have e2 : (Classical.choose h).2 = j := by rw [e1] at h2; omega
  rw [e1, e2]

/-- .. with a tail. -/
theorem splice_tail {α : Type} [Inhabited α] (n : Nat) (cnt : Nat → Nat) (f : Nat → Nat → α) (g : Nat → α) : ∃ T : Nat → α, (∀ m j, m < n → j < cnt m → T (sums cnt m + j) = f m j) ∧ ∀ j, T (sums cnt n + j) = g j := by
  obtain ⟨T, hT⟩ := splice (fun m => if m < n then cnt m else 1) (fun m j => if m < n then f m j else g (m - n))
  have e1 : ∀ m, m ≤ n → sums (fun m => if m < n then cnt m else 1) m = sums cnt m := by
    intro m
    induction m with
    | zero => intro _; rfl
    | succ m ih =>
      intro h
      simp only [sums]
      rw [ih (by omega), if_pos (by omega)]
  have e2 : ∀ j, sums (fun m => if m < n then cnt m else 1) (n + j) = sums cnt n + j := by
    intro j
    induction j with
    | zero => exact e1 n (Nat.le_refl _)
    | succ j ih =>
      show sums _ (n + j + 1) = _
      simp only [sums]
      rw [ih, if_neg (by omega)]
      omega
  refine ⟨T, fun m j hm hj => ?_, fun j => ?_⟩
  · have := hT m j (by simp only [if_pos hm]; exact hj)
    rw [e1 m (by omega), if_pos hm] at this
    exact this
  · have := hT (n + j) 0 (by simp only [if_neg (show ¬ n + j < n by omega)]; omega)
    rw [e2 j, if_neg (by omega), Nat.add_zero] at this
    rw [this]
    congr 1
    omega

/-! ### the steps of the walled machine -/

theorem vg_lone (fr : Frame) (L : List Frame) (v : World) : lone fr (L ++ [c0]) v = { world := v, gs := #[vg c0 fr L], rest := { timers := #[], alone := none, slice := none } } := rfl

theorem vg_inj {c fr fr' : Frame} {L L' : List Frame} (h : vg c fr L = vg c fr' L') : fr = fr' ∧ L = L' := by
  have h1 := congrArg Goroutine.frame h
  have h2 := congrArg Goroutine.callers h
  exact ⟨h1, List.append_cancel_right h2⟩

section
variable {P : Program} {S : Sets} {B : Nat → Prop}

theorem rg_vg (fr : Frame) (L : List Frame) : rg [] [c0] fr L = vg c0 fr L := by
  have h1 : ∀ (fr : Frame) (L : List Frame), top [] fr L = fr := by
    intro fr L
    unfold top
    cases L <;> simp [ek]
  have h2 : ∀ (L : List Frame), below [] [c0] L = L ++ [c0] := by
    intro L
    induction L with
    | nil => rfl
    | cons c l ih => simp [below, h1, ih]
  simp [rg, vg, h1, h2]

theorem veil_on {v : World} (hm : Masked B v) (t : Nat → Question → Nat) (d : Nat) : Veil B (v.on t d) v :=
  ⟨rfl, fun _ _ => rfl, hm, fun k hk c e f h => (by rw [show (v.on t d).heap = v.heap from rfl, hm k hk] at h; cases h), rfl, rfl⟩

theorem masked_on {v : World} (hm : Masked B v) (t : Nat → Question → Nat) (d : Nat) : Masked B (v.on t d) := hm

/-- What a step does on one tape it does on another that answers alike as far as it draws. -/
theorem step_local (hR : Ready P S B) (hC : Codes P S) {body : Bool} {fr fr' : Frame} {L L' : List Frame} {v v' : World} {es : Array Event} (hf : Fit P S fr L) (hm : Masked B v) (hnf : ¬ Final body fr L)
    {t : Nat → Question → Nat} {d : Nat} (h : stepG P true (vg c0 fr L) (v.on t d) = .go (vg c0 fr' L') v' es) :
    Fit P S fr' L' ∧ Masked B v' ∧ v'.tape = t ∧ d ≤ v'.drawn ∧ ∀ T D, (∀ j, j < v'.drawn - d → T (D + j) = t (d + j)) → stepG P true (vg c0 fr L) (v.on T D) = .go (vg c0 fr' L') (v'.on T (D + (v'.drawn - d))) es := by
  have hlive : (fr.mode = .run ∧ (fr.todo ≠ [] ∨ ek [] L = [])) ∨ L ≠ [] := by
    by_cases hL : L = []
    · left
      by_cases hm : fr.mode = .run
      · exact ⟨hm, .inr (by cases L <;> rfl)⟩
      · exact absurd ⟨hL, .inl hm⟩ hnf
    · exact .inr hL
  rcases sim_step (k := []) (cs := [c0]) (c0 := c0) hR hC hf (masked_on hm t d) hlive with ⟨o, w, es', he⟩ | ⟨fr2, L2, v2, es2, he, hf2, haft, _, hreal⟩
  · rw [he] at h; cases h
  · rw [he] at h
    have hv : fr2 = fr' ∧ L2 = L' ∧ v2 = v' ∧ es2 = es := by
      obtain ⟨h1, h2, h3⟩ := GStep.go.inj h
      obtain ⟨h4, h5⟩ := vg_inj h1
      exact ⟨h4, h5, h2, h3⟩
    obtain ⟨rfl, rfl, rfl, rfl⟩ := hv
    refine ⟨hf2, haft.mask, haft.tape, haft.drawn, fun T D hT => ?_⟩
    obtain ⟨w', h1, h2⟩ := hreal true (v.on T D) (veil_on (v := v.on t d) (masked_on hm t d) T D) (fun j hj => hT j hj)
    rw [rg_vg, rg_vg] at h1
    rw [h1]
    have e : w' = v2.on T (D + (v2.drawn - d)) := by
      have hheap : w'.heap = v2.heap := by
        apply Array.ext_getElem?
        intro i
        by_cases hb : B i
        · rw [h2.keep i hb, h2.veil.mask i hb]
          exact hm i hb
        · exact h2.veil.same i hb
      have ht : w'.tape = T := h2.tape
      have hd : w'.drawn = D + (v2.drawn - d) := h2.drawn
      have ho : w'.os = v2.os := h2.veil.os
      have hout : w'.output = v2.output := h2.veil.output
      obtain ⟨wh, wt, wd, wo, wu⟩ := w'
      simp only at hheap ht hd ho hout
      subst hheap ht hd ho hout
      rfl
    rw [e]

theorem step_lone_of {fr fr' : Frame} {cs cs' : List Frame} {w w' : World} {es : Array Event} (h : stepG P true { frame := fr, callers := cs, status := .running, dying := none } w = .go { frame := fr', callers := cs', status := .running, dying := none } w' es) :
    step P (lone fr cs w) = .next (lone fr' cs' w') := step_lone_go (by rw [h]; rfl)
theorem step_lone_end {fr : Frame} {cs : List Frame} {w w' : World} {o : Outcome} {es : Array Event} (h : stepG P true { frame := fr, callers := cs, status := .running, dying := none } w = .ended o w' es) :
    step P (lone fr cs w) = .ended o w' := step_lone_ended (by rw [h]; rfl)

theorem c0_step (w : World) : ∃ o w', step P (lone c0 [] w) = .ended o w' :=
  ⟨_, _, step_lone_end (by simp [c0, stepG, stepG.exec]; exact ⟨rfl, rfl, rfl⟩)⟩

theorem c0_panic (ch : List PanicEntry) (w : World) : ∃ o w', step P (lone (c0.raise ch) [] w) = .ended o w' :=
  ⟨_, _, step_lone_end (by simp [c0, Frame.raise, stepG, unwind, callDeferred]; exact ⟨rfl, rfl, rfl⟩)⟩

theorem runN_ended {m : Machine} {o : Outcome} {w : World} (h : step P m = .ended o w) (j : Nat) : runN P (j + 1) m = .ended o w := by simp [runN, h]

theorem final_returning {fr : Frame} (hok : FrOk P S fr) (hmo : fr.mode = .returning) (v : World) (j : Nat) (fr' : Frame) (v' : World) : runN P (j + 1) (lone fr [c0] v) ≠ .next (lone fr' [c0] v') := by
  have hdf := hok.defers
  have hnext : (∃ o w, step P (lone fr [c0] v) = .ended o w) ∨ ∃ w, step P (lone fr [c0] v) = .next (lone c0 [] w) := by
    have doR : ∀ (x : Value) (w : World), doReturn P true fr [c0] none x w = .go { frame := c0, callers := [], status := .running, dying := none } w #[] := by
      intro x w
      unfold doReturn
      cases fr.kind <;> rfl
    cases hfn : P.funcs[fr.fn]? with
    | none => exact .inr ⟨v, step_lone_of (by simp [stepG, hmo, unwind, hdf, hfn, doR]; rfl)⟩
    | some fn =>
      have e1 : stepG P true { frame := fr, callers := [c0], status := .running, dying := none } v = GStep.after (Go.seen P fr.fn ((results fn fr.tmps).runT P v #[]).2) (match ((results fn fr.tmps).runT P v #[]).1 with
          | .ok x w => doReturn P true fr [c0] none x w
          | .halt (.stuck s) w => .ended (.stuck s (fr.pos P)) w
          | .halt _ w => .ended (.stuck "return: the result variables cannot be read" (fr.pos P)) w) := by
        simp [stepG, hmo, unwind, hdf, hfn]
        rfl
      rcases hr : (results fn fr.tmps).runT P v #[] with ⟨r, es⟩
      rw [hr] at e1
      cases r with
      | ok x w =>
        simp only [doR, GStep.after] at e1
        exact .inr ⟨w, step_lone_of e1⟩
      | halt h w => cases h <;> exact .inl ⟨_, _, step_lone_end e1⟩
  intro h
  rcases hnext with ⟨o, w, he⟩ | ⟨w, he⟩
  · rw [runN_ended he] at h; cases h
  · simp only [runN, he] at h
    cases j with
    | zero =>
      simp only [runN] at h
      have := congrArg (fun s => match s with | Stepped.next m => m.gs[0]?.map (fun g : Goroutine => g.callers.length) | _ => none) h
      simp [lone] at this
    | succ j =>
      obtain ⟨o, w2, h2⟩ := c0_step (P := P) w
      rw [runN_ended h2] at h
      cases h

theorem final_stuck {body : Bool} {fr : Frame} (hok : FrOk P S fr) (hfin : Final body fr []) (v : World) (j : Nat) (fr' : Frame) (v' : World) (h : runN P (j + 1) (lone fr [c0] v) = .next (lone fr' [c0] v')) : ¬ Endp body fr' := by
  have hdf := hok.defers
  have hrd := hok.round
  cases hmo : fr.mode with
  | returning => exact absurd h (final_returning hok hmo v j fr' v')
  | panicking ch =>
    have hca : fr.catches P = false := by
      unfold Frame.catches
      cases ht : fr.todo with
      | nil => split <;> first | (rename_i h; cases h; done) | rfl
      | cons x kk =>
        cases x with
        | call d wr r s =>
          have := hok.todo (.call d wr r s) (by rw [ht]; exact List.mem_cons_self ..)
          cases this
        | _ => split <;> first | (rename_i h; cases h; done) | rfl
    have hs : step P (lone fr [c0] v) = .next (lone (c0.raise ch) [] v) := step_lone_of (by simp [stepG, hmo, unwind, hdf, hca]; rfl)
    simp only [runN, hs] at h
    cases j with
    | zero =>
      simp only [runN] at h
      have := congrArg (fun s => match s with | Stepped.next m => m.gs[0]?.map (fun g : Goroutine => g.callers.length) | _ => none) h
      simp [lone] at this
    | succ j =>
      obtain ⟨o, w2, h2⟩ := c0_panic (P := P) ch v
      rw [runN_ended h2] at h
      cases h
  | run =>
    obtain ⟨hbody, htd⟩ : body = false ∧ fr.todo = [] := by
      rcases hfin.2 with h' | h'
      · exact absurd hmo h'
      · exact h'
    suffices hne : fr'.mode ≠ .run by
      rintro (⟨_, h2, _⟩ | ⟨h1, _⟩)
      · exact hne h2
      · rw [hbody] at h1; cases h1
    have hs : step P (lone fr [c0] v) = .next (lone { fr with mode := .returning } [c0] v) := step_lone_of (by
      obtain ⟨fn, tmps, todo, defers, mode, kind, rd⟩ := fr
      simp only at hmo htd hrd
      subst hmo htd hrd
      simp [stepG, stepG.exec]
      rfl)
    simp only [runN, hs] at h
    cases j with
    | zero =>
      simp only [runN] at h
      have := congrArg (fun s => match s with | Stepped.next m => m.gs[0]?.map (fun g : Goroutine => g.frame.mode) | _ => none) h
      simp [lone] at this
      rw [← this]
      simp
    | succ j => exact absurd h (final_returning (hok.with_mode _) rfl v j fr' v')

end
end Go.Co
