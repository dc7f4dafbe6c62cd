/-
  WHAT A FEW MORE OPERATIONS COME TO, FOR WALKS BY HAND IN COMPANY: a variable, a channel, a go statement, a receive, a call of a function, its return.
-/
import Derived.Test.YtbjkljmhhpoooaaDoorCoY
import Derived.Conc.Own2
import Derived.Conc.Own3
namespace Go.Co
open Go.Conc

section
variable {P : Program}
theorem runT_typeInfo {t : TypeId} {i : TypeInfo} (h : P.info? t = some i) (w : World) (es : Array Event) : (typeInfo t).runT P w es = (.ok i w, es) := by
  unfold typeInfo
  rw [runT_bind_eq]
  show (match P.info? t with | some d => (Pure.pure d : Sem TypeInfo) | none => _).runT P w es = _
  rw [h]
  rfl
theorem runT_zeroValue {t : TypeId} {z : Value} (h : (P.info? t).bind (·.zero) = some z) (w : World) (es : Array Event) : (zeroValue t).runT P w es = (.ok z w, es) := by
  obtain ⟨i, hi, hz⟩ := Option.bind_eq_some_iff.1 h
  unfold zeroValue
  rw [runT_bind_ok (runT_typeInfo hi w es)]
  rw [hz]
  rfl

theorem exec_alloc {t : TypeId} {z : Value} (h : (P.info? t).bind (·.zero) = some z) {ρ : Operand → Value} {o : Oper} (ho : o.op = .alloc t) (w : World) (es : Array Event) :
    (execOp ρ o).runT P w es = (.ok (.value (.pointer (some ⟨w.heap.size, 0, none⟩))) (w.alloc (.cells z.cells t)), es) := by
  unfold execOp
  simp only [ho]
  unfold Instr.alloc
  rw [bind_assoc, runT_bind_ok (runT_zeroValue h w es)]
  rfl

theorem exec_makeChan {t e : TypeId} {dir : ChanDir} {i : TypeInfo} (h : P.underlying t = some (.chan dir e)) (hi : P.info? e = some i) {ρ : Operand → Value} {o : Oper} {x : Operand} (ho : o.op = .makeChan t x) (hx : ρ x = .int .i64 0) (w : World) (es : Array Event) :
    (execOp ρ o).runT P w es = (.ok (.value (.chan (some w.heap.size))) (w.alloc (.chan 0 #[] false 0 0 false)), es) := by
  unfold execOp
  simp only [ho, hx]
  unfold Instr.makeChan
  have h1 : (asInt (.int .i64 0) : Sem Int) = pure 0 := rfl
  have h2 : ¬ ((0 : Int) < 0 ∨ (0 : Int) > IntKind.i64.max ∨ (i.bytes : Int) * 0 > 2 ^ 48 - 112) := by
    rw [Int.mul_zero]
    decide
  rw [h1]
  simp only [pure_bind, bind_assoc]
  rw [runT_bind_ok (runT_underlying h w es)]
  simp only [bind_assoc]
  rw [runT_bind_ok (runT_typeInfo hi w es)]
  rw [if_neg h2]
  rfl

theorem run_of {α : Type} {s : Sem α} {w w' : World} {r : α} (h : ∀ es, s.runT P w es = (.ok r w', es)) : s.run P w = .ok r w' ∧ s.events P w #[] = #[] := by
  have := h #[]
  rw [Sem.runT_eq] at this
  injection this with h1 h2
  exact ⟨h1, h2⟩
theorem listed_nil {fn : FuncId} {a : Act} {o : Oper} {w : World} (h : (execOp a.eval o).events P w #[] = #[]) : listed P fn a o w = #[] := by
  unfold listed
  rw [h]
  simp [seen]

variable {main : Bool} {b : Frame} {a : Act} {k : List Item} {cs : List Frame} {ops : Array Oper} {i : Nat} {rest : List Nat} {o : Oper}

/-- At a go statement. -/
theorem step_spawn {f : FuncId} {as : Array Operand} {ats : Array TypeId} (ho : ops[i]? = some o) (hw : Region.wanted o (yielded ops a.tmps) = true) (hk : b.kind ≠ .early) (hop : o.op = .go { callee := .value (.func f), args := as, argTypes := ats }) (hd : o.dst = none) {args : Array Value} (ha : as.map a.eval = args) (w : World) :
    stepG P main (G (b.at a (.inRegion ops (i :: rest) :: k)) cs) w = .spawn (G (b.at a (.inRegion ops rest :: k)) cs) (Conc.born P { target := .fn (.func f) #[], args := args }) w #[] := by
  subst ha
  have h : ∀ es, (execOp a.eval o).runT P w es = (.ok (.spawn { target := .fn (.func f) #[], args := as.map a.eval }) w, es) := by
    intro es
    unfold execOp
    simp only [hop, resolve, Act.eval, Deferred.ofValue, pure_bind, Array.empty_append]
    rfl
  obtain ⟨h1, h2⟩ := run_of h
  rw [stepG_spawn ho hw hk h1 rfl, listed_nil h2, hd]
  rfl

/-- At a receive. -/
theorem step_recv {t e : TypeId} {dir : ChanDir} {z : Value} {x : Operand} {c : Nat} (ho : ops[i]? = some o) (hw : Region.wanted o (yielded ops a.tmps) = true) (hk : b.kind ≠ .early) (hop : o.op = .recv t x true) (ht : P.underlying t = some (.chan dir e)) (hz : (P.info? e).bind (·.zero) = some z)
    (hx : a.eval x = .chan (some c)) (w : World) :
    stepG P main (G (b.at a (.inRegion ops (i :: rest) :: k)) cs) w = .comm (G (b.at a (.inRegion ops (i :: rest) :: k)) cs) #[rcase c z] true (.recv true) w #[] := by
  have h : ∀ es, (execOp a.eval o).runT P w es = (.ok (.comm #[rcase c z] true (.recv true)) w, es) := by
    intro es
    unfold execOp
    simp only [hop, hx]
    rw [runT_bind_ok (runT_underlying ht w es)]
    simp only
    rw [runT_bind_ok (runT_zeroValue hz w es)]
    rfl
  obtain ⟨h1, h2⟩ := run_of h
  rw [stepG_comm ho hw hk h1, listed_nil h2]

/-- A call of a Go function. -/
theorem step_enter {f : FuncId} {fn : Func} {c : Code} {as : Array Operand} {ats : Array TypeId} (ho : ops[i]? = some o) (hw : Region.wanted o (yielded ops a.tmps) = true) (hk : b.kind ≠ .early) (hop : o.op = .call { callee := .value (.func f), args := as, argTypes := ats })
    (hf : P.funcs[f]? = some fn) (hb : fn.body = some c) (hn : (fn.name == "runtime.NumGoroutine") = false) (w : World) :
    stepG P main (G (b.at a (.inRegion ops (i :: rest) :: k)) cs) w = .go (G ((base f).at { tmps := as.map a.eval ++ Array.replicate (fn.ntmps - (as.map a.eval).size) undef, defers := [] } [.code c]) (b.at a (.inRegion ops (i :: rest) :: k) :: cs)) w #[] := by
  have h : ∀ es, (execOp a.eval o).runT P w es = (.ok (.enter f (as.map a.eval)) w, es) := by
    intro es
    unfold execOp
    simp only [hop, resolve, Act.eval, Deferred.ofValue, pure_bind, Array.empty_append]
    show (callFunc f _).runT P w es = _
    unfold callFunc
    rw [runT_bind_ok (x := program) (a := P) (w1 := w) (es1 := es) rfl]
    simp only [hf, hb, hn]
    rfl
  obtain ⟨h1, h2⟩ := run_of h
  rw [stepG_enter ho hw hk h1, listed_nil h2, enter_at _ hf hb]

theorem way_enter {R : World → World → Prop} {D : World → World → Array Event → Prop} {Stop : Goroutine → World → Prop} (hm : Mild R D) {w : World} {f : FuncId} {fn : Func} {c : Code} {as : Array Operand} {ats : Array TypeId} (args : Array Value) (ho : ops[i]? = some o) (hw : Region.wanted o (yielded ops a.tmps) = true) (hk : b.kind ≠ .early)
    (hop : o.op = .call { callee := .value (.func f), args := as, argTypes := ats }) (hf : P.funcs[f]? = some fn) (hb : fn.body = some c) (hn : (fn.name == "runtime.NumGoroutine") = false) (ha : as.map a.eval = args)
    (h : Way P main R D Stop (G ((base f).at { tmps := args ++ Array.replicate (fn.ntmps - args.size) undef, defers := [] } [.code c]) (b.at a (.inRegion ops (i :: rest) :: k) :: cs)) w) :
    Way P main R D Stop (G (b.at a (.inRegion ops (i :: rest) :: k)) cs) w := by
  subst ha
  exact way_silent hm rfl (fun w => step_enter ho hw hk hop hf hb hn w) h

theorem mildR (B : Nat → Prop) : Mild (Rely B) (Guar B) := ⟨fun _ _ _ h k => h.trans k, fun _ => ⟨fun _ _ => rfl, rfl, Nat.le_refl _, fun e he => by simp at he⟩⟩
theorem masked_none (w : World) : Masked None' w := fun _ h => h.elim

theorem step_leave {fn : Func} {todo : List Item} {c : Frame} {v : Value} (hn : b.kind = .normal) (hd : a.defers = []) (hf : P.funcs[b.fn]? = some fn) {w : World} (hr : (results fn a.tmps).run P w = .ok v w) :
    ∃ es, stepG P main (G { b.at a todo with mode := .returning } (c :: cs)) w = .go (G (c.finish v) cs) w es ∧ ∀ e ∈ es, Kept None' e := by
  refine ⟨seen P b.fn ((results fn a.tmps).events P w #[]), ?_, ?_⟩
  · simp [G, stepG, unwind, doReturn, Frame.at, hn, hd, hf, hr, GStep.after]
  · rcases (loc_results (P := P) (B := None') fn a.tmps).out w #[] (masked_none w) with h | ⟨_, _, h, _⟩
    · rw [Sem.runT_eq, hr] at h
      exact h.elim
    · rw [Sem.runT_eq] at h
      exact evs_fine (P := P) (fr := { b with kind := .normal }) h

/-- A return to a caller. -/
theorem way_leave {Stop : Goroutine → World → Prop} {fn : Func} {todo : List Item} {c : Frame} (v : Value) (hn : b.kind = .normal) (hd : a.defers = []) (hf : P.funcs[b.fn]? = some fn) {w : World} (hr : ∀ w1, Rely None' w w1 → (results fn a.tmps).run P w1 = .ok v w1)
    (h : Way P main (Rely None') (Guar None') Stop (G (c.finish v) cs) w) : Way P main (Rely None') (Guar None') Stop (G { b.at a todo with mode := .returning } (c :: cs)) w :=
  Way.one rfl fun w1 h1 => by
    obtain ⟨es, e1, e2⟩ := step_leave (main := main) (cs := cs) (todo := todo) (c := c) hn hd hf (hr w1 h1)
    exact ⟨_, w1, es, e1, ⟨fun _ _ => rfl, rfl, Nat.le_refl _, e2⟩, h.rely (fun _ _ _ h k => h.trans k) h1⟩

/-- The main goroutine's last step. -/
theorem at_end {Post : Value → World → Prop} {fn : Func} {todo : List Item} {v : Value} (hn : b.kind = .normal) (hd : a.defers = []) (hf : P.funcs[b.fn]? = some fn) (hi : P.inits.idxOf? b.fn = none) {w : World} (hr : (results fn a.tmps).run P w = .ok v w) (hp : Post v w) :
    AtEnd' P Post (G { b.at a todo with mode := .returning } []) w := by
  refine ⟨rfl, v, seen P b.fn ((results fn a.tmps).events P w #[]), ?_, fun e he => ?_, hp⟩
  · simp [G, stepG, unwind, doReturn, Frame.at, hn, hd, hf, hr, hi, GStep.after]
  · have hk : ∀ e ∈ seen P b.fn ((results fn a.tmps).events P w #[]), Kept None' e := by
      rcases (loc_results (P := P) (B := None') fn a.tmps).out w #[] (masked_none w) with h | ⟨_, _, h, _⟩
      · rw [Sem.runT_eq, hr] at h
        exact h.elim
      · rw [Sem.runT_eq] at h
        exact evs_fine (P := P) (fr := { b with kind := .normal }) h
    exact (hk e he).quiet
end
end Go.Co
