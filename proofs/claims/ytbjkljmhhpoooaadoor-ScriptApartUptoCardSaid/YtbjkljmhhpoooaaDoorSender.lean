/-
  script.lines IN COMPANY: it sends the lines of its text, one by one, and closes the channel.
-/
import Derived.Test.YtbjkljmhhpoooaaDoorCoY
import Derived.Laws.RangeAny
import Derived.Conc.EventLaws
import Derived.Conc.PipeGen
import Derived.Test.YtbjkljmhhpoooaaDoorChecked
namespace Go.Proofs.YtbjkljmhhpoooaaDoor
open Go.Conc Go.Co Go.Proofs

/-- What is left behind the last line's end. -/
def tailS (s : ByteArray) (f : Nat) : List Value := if f < s.size then [.string (s.extract f s.size)] else []
/-- What is sent from place p on, the line having begun at f. -/
def outS (s : ByteArray) : Nat → Nat → Nat → List Value
  | 0, _, f => tailS s f
  | n + 1, p, f => if p < s.size then (if (Utf8.decode s p).1 = 10 then .string (s.extract f p) :: outS s n (p + (Utf8.decode s p).2) (p + 1) else outS s n (p + (Utf8.decode s p).2) f) else tailS s f

def bS : Frame := { (default : Frame) with fn := 35, kind := .deferred }
noncomputable def bodyS : Code := Tryd.f35.body.getD .skip
noncomputable def loopS : Code := match bodyS with | .seq _ (.seq _ (.seq (.seq _ (.block _ (.loop c))) _)) => c | _ => .skip
noncomputable def restS : Code := match bodyS with | .seq _ (.seq _ (.seq _ r)) => r | _ => .skip
noncomputable def botS : Frame := { (default : Frame) with fn := Tryd.prog.funcs.size, defers := [], mode := .panicking [goexitEntry] }
def closeS (c : Nat) : Deferred := { target := .builtin .close #[93] 0 #[false], args := #[.chan (some c)] }

theorem undS : Tryd.prog.underlying 9 = some .string := by kernel_rfl
theorem loudS : (Tryd.prog.funcs[bS.fn]?).any (·.norace) = false := by kernel_rfl

/-- The loop's head: the line began at f. -/
def HeadS (s : ByteArray) (b c f : Nat) (g : Goroutine) : Prop :=
  ∃ T : Array Value, g = G (bS.at ⟨T, [closeS c]⟩ [.code loopS, .inLoop loopS, .inBlock 0, .code restS]) [botS] ∧ T.size = 31 ∧ T[0]? = some (.string s) ∧ T[1]? = some (.chan (some c)) ∧ T[4]? = some (.int .i64 f) ∧ T[9]? = some (.pointer (some ⟨b, 0, none⟩))

theorem array31 (T : Array Value) (h : T.size = 31) : ∃ v0 v1 v2 v3 v4 v5 v6 v7 v8 v9 v10 v11 v12 v13 v14 v15 v16 v17 v18 v19 v20 v21 v22 v23 v24 v25 v26 v27 v28 v29 v30 : Value,
    T = #[v0, v1, v2, v3, v4, v5, v6, v7, v8, v9, v10, v11, v12, v13, v14, v15, v16, v17, v18, v19, v20, v21, v22, v23, v24, v25, v26, v27, v28, v29, v30] := by
  obtain ⟨l⟩ := T
  simp only [List.size_toArray] at h
  match l, h with
  | [v0, v1, v2, v3, v4, v5, v6, v7, v8, v9, v10, v11, v12, v13, v14, v15, v16, v17, v18, v19, v20, v21, v22, v23, v24, v25, v26, v27, v28, v29, v30], _ => exact ⟨v0, v1, v2, v3, v4, v5, v6, v7, v8, v9, v10, v11, v12, v13, v14, v15, v16, v17, v18, v19, v20, v21, v22, v23, v24, v25, v26, v27, v28, v29, v30, rfl⟩

theorem mildS (b : Nat) : Mild (RBb b) (DBb b) := ⟨pair1 (N := 0) (c := b + 1) (k := 0) |>.trB, fun w => ⟨by simp, .inl rfl⟩⟩

/-- 'next' at a text's iterator, whose block is the goroutine's own. -/
theorem exec_next {P : Program} {ρ : Operand → Value} {o : Oper} {x : Operand} (ho : o.op = .next x true) {b : Nat} (hx : ρ x = .pointer (some ⟨b, 0, none⟩)) {s : ByteArray} {p : Nat} {w : World} (hb : w.heap[b]? = some (.stringIter s p)) :
    (p < s.size → (execOp ρ o).runT P w #[] = (.ok (.value (.tuple #[.bool true, goInt p, .int .i32 (Utf8.decode s p).1])) { w with heap := w.heap.setIfInBounds b (.stringIter s (p + (Utf8.decode s p).2)) }, #[⟨.obj b, false, false⟩, ⟨.obj b, true, false⟩])) ∧
    (¬ p < s.size → (execOp ρ o).runT P w #[] = (.ok (.value (.tuple #[.bool false])) w, #[⟨.obj b, false, false⟩])) := by
  constructor
  · intro hp
    unfold execOp
    simp only [ho, hx, Instr.next, getObj, setObj, Bind.bind, Pure.pure, Sem.bind, Sem.runT, hb, if_pos hp]
    rfl
  · intro hp
    unfold execOp
    simp only [ho, hx, Instr.next, getObj, Bind.bind, Pure.pure, Sem.bind, Sem.runT, hb, if_neg hp]
    rfl

theorem seenS (es : Array Event) (h : ∀ e ∈ es, ∀ f, e.loc ≠ .mark (.extern f)) : Go.seen Tryd.prog bS.fn es = es := seen_eq loudS h

/-- Where the sender stops next. -/
def StopS (b c : Nat) : List Value → Goroutine → World → Prop
  | [] => Close0 Tryd.prog c
  | v :: vs => fun g w => Send0 Tryd.prog c v g w ∧ Sends Tryd.prog b c vs (Conc.served (core g) undef) w

theorem sends_way (b c : Nat) (vs : List Value) (g : Goroutine) (w : World) : Sends Tryd.prog b c vs g w = Co.Way Tryd.prog false (RBb b) (DBb b) (StopS b c vs) g w := by cases vs <;> rfl

theorem send_step {P : Program} {main : Bool} {b : Frame} {a : Act} {k : List Item} {cs : List Frame} {ops : Array Oper} {i : Nat} {rest : List Nat} {o : Oper} {c : Nat} {x y : Operand} {v : Value} (ho : ops[i]? = some o) (hw : Region.wanted o (yielded ops a.tmps) = true)
    (hk : b.kind ≠ .early) (hop : o.op = .send x y) (hx : a.eval x = .chan (some c)) (hy : a.eval y = v) (w : World) :
    stepG P main (G (b.at a (.inRegion ops (i :: rest) :: k)) cs) w = .comm (G (b.at a (.inRegion ops (i :: rest) :: k)) cs) #[scase c v (.tuple #[])] true .send w #[] := by
  rw [stepG_comm (cases := #[scase c v (.tuple #[])]) (blocking := true) (shape := .send) (w' := w) ho hw hk (by simp [execOp, hop, hx, hy, scase])]
  have he : (execOp a.eval o).events P w #[] = #[] := by
    unfold execOp
    simp only [hop]
    rfl
  unfold listed
  rw [he]
  simp [seen]

/-- At a send. -/
theorem at_send {b c : Nat} {fr : Frame} {a : Act} {k : List Item} {cs : List Frame} {ops : Array Oper} {i : Nat} {rest : List Nat} {o : Oper} {x y : Operand} {v : Value} {vs : List Value} {w : World} (ho : ops[i]? = some o) (hw : Region.wanted o (yielded ops a.tmps) = true)
    (hk : fr.kind ≠ .early) (hop : o.op = .send x y) (hx : a.eval x = .chan (some c)) (hy : a.eval y = v) (hn : ∀ w1, RBb b w w1 → Sends Tryd.prog b c vs (G (fr.at (a.put o.dst undef) (.inRegion ops rest :: k)) cs) w1) :
    Co.Way Tryd.prog false (RBb b) (DBb b) (StopS b c (v :: vs)) (G (fr.at a (.inRegion ops (i :: rest) :: k)) cs) w := by
  refine Co.Way.stop fun w1 h1 => ⟨⟨rfl, _, send_step ho hw hk hop hx hy w1⟩, ?_⟩
  rw [core_G, served_G, ho]
  exact hn w1 h1

theorem quitsS (T : Array Value) (todo : List Item) : QuitsIn Tryd.prog 2 { frame := { bS.at ⟨T, []⟩ todo with mode := .returning }, callers := [botS], status := .running, dying := none } := by
  refine .inr ⟨rfl, G botS [], fun w => ?_, ?_⟩
  · simp [G, stepG, unwind, doReturn, results, Frame.at, bS, botS, Tryd.func35, Tryd.f35, Go.seen, GStep.after, goexitEntry]
  refine .inr ⟨rfl, { G botS [] with status := .finished }, fun w => ?_, rfl⟩
  simp [G, stepG, unwind, botS, goexitEntry, Frame.catches]
  rfl

/-- It closes, and leaves. -/
theorem at_close {b c : Nat} {T : Array Value} {todo : List Item} {w : World} :
    Co.Way Tryd.prog false (RBb b) (DBb b) (StopS b c []) { frame := { bS.at ⟨T, [closeS c]⟩ todo with mode := .returning }, callers := [botS], status := .running, dying := none } w := by
  refine Co.Way.stop fun w1 h1 => ⟨rfl, by rfl, { frame := { bS.at ⟨T, []⟩ todo with mode := .returning }, callers := [botS], status := .running, dying := none }, 2, quitsS T todo, fun s r tm hc => ?_⟩
  have hrun : (invoke (closeS c).target (closeS c).args).runT Tryd.prog w1 #[] = (.ok (.value (.tuple #[])) (w1.shut c s r tm), #[⟨.obj c, false, true⟩, ⟨.obj c, true, true⟩]) := by
    show (Builtin.close_ #[93] 0 #[.chan (some c)] >>= fun v => Pure.pure (Next.value v)).runT Tryd.prog w1 #[] = _
    rw [close_some]
    simp only [getObj, setObj, Bind.bind, Pure.pure, Sem.bind, Sem.runT, hc, Bool.false_eq_true, if_false]
    rfl
  have hseen : Go.seen Tryd.prog 35 #[⟨.obj c, false, true⟩, ⟨.obj c, true, true⟩] = #[⟨.obj c, false, true⟩, ⟨.obj c, true, true⟩] := seen_eq (fn := 35) loudS (by intro e he f; simp at he; rcases he with rfl | rfl <;> simp)
  have e : stepG Tryd.prog false { frame := { bS.at ⟨T, [closeS c]⟩ todo with mode := .returning }, callers := [botS], status := .running, dying := none } w1 =
      callDeferred Tryd.prog { bS.at ⟨T, []⟩ todo with mode := .returning } [botS] none (closeS c) w1 := by
    simp [stepG, unwind, Frame.at, closeS]
  rw [e]
  unfold callDeferred
  rw [hrun]
  simp only [closeS, Frame.at, bS, hseen, GStep.after]
  rfl


/-- From the loop's end: the last line, if it has no end; then the close. -/
theorem tail_way {s : ByteArray} {b c f : Nat} {T : Array Value} (hsz : T.size = 31) (h0 : T[0]? = some (.string s)) (h1 : T[1]? = some (.chan (some c))) (h4 : T[4]? = some (.int .i64 f)) {w : World} :
    Sends Tryd.prog b c (tailS s f) (G (bS.at ⟨T, [closeS c]⟩ [.code restS]) [botS]) w := by
  obtain ⟨v0, v1, v2, v3, v4, v5, v6, v7, v8, v9, v10, v11, v12, v13, v14, v15, v16, v17, v18, v19, v20, v21, v22, v23, v24, v25, v26, v27, v28, v29, v30, rfl⟩ := array31 T hsz
  simp only [List.getElem?_toArray, List.getElem?_cons_zero, List.getElem?_cons_succ, Option.some.injEq] at h0 h1 h4
  subst h0 h1 h4
  by_cases hf : f < s.size
  · rw [show tailS s f = [.string (s.extract f s.size)] from if_pos hf, sends_way]
    simp only [restS, bodyS, Tryd.f35, Option.getD_some]
    refine way_silent (mildS b) rfl (fun _ => stepG_seq) ?_
    refine way_silent (mildS b) rfl (fun _ => stepG_region) ?_
    refine way_pure' (mildS b) ⟨#[.string s, .chan (some c), v2, v3, .int .i64 f, v5, v6, v7, v8, v9, v10, v11, v12, v13, v14, v15, v16, v17, v18, v19, v20, v21, v22, .int .i64 f, v24, v25, v26, v27, v28, v29, v30], [closeS c]⟩ rfl rfl (by decide) (fun _ _ => rfl) rfl ?_
    refine way_pure' (mildS b) ⟨#[.string s, .chan (some c), v2, v3, .int .i64 f, v5, v6, v7, v8, v9, v10, v11, v12, v13, v14, v15, v16, v17, v18, v19, v20, v21, v22, .int .i64 f, .string s, v25, v26, v27, v28, v29, v30], [closeS c]⟩ rfl rfl (by decide) (fun _ _ => rfl) rfl ?_
    refine way_pure' (mildS b) ⟨#[.string s, .chan (some c), v2, v3, .int .i64 f, v5, v6, v7, v8, v9, v10, v11, v12, v13, v14, v15, v16, v17, v18, v19, v20, v21, v22, .int .i64 f, .string s, goInt s.size, v26, v27, v28, v29, v30], [closeS c]⟩ rfl rfl (by decide) (fun w es => exec_len (s := s) undS rfl rfl w es) rfl ?_
    refine way_pure' (mildS b) ⟨#[.string s, .chan (some c), v2, v3, .int .i64 f, v5, v6, v7, v8, v9, v10, v11, v12, v13, v14, v15, v16, v17, v18, v19, v20, v21, v22, .int .i64 f, .string s, goInt s.size, .bool true, v27, v28, v29, v30], [closeS c]⟩ rfl rfl (by decide) (fun w es => by
      have hd : decide ((f : Int) < (s.size : Int)) = true := by simp [hf]
      show (Result.ok (Next.value (.bool (decide ((f : Int) < (s.size : Int))))) w, es) = _
      rw [hd]) rfl ?_
    refine way_silent (mildS b) rfl (fun _ => stepG_region_end) ?_
    refine way_silent (mildS b) rfl (fun _ => stepG_cond (t := true) rfl) ?_
    refine way_silent (mildS b) rfl (fun _ => stepG_region) ?_
    refine way_pure' (mildS b) ⟨#[.string s, .chan (some c), v2, v3, .int .i64 f, v5, v6, v7, v8, v9, v10, v11, v12, v13, v14, v15, v16, v17, v18, v19, v20, v21, v22, .int .i64 f, .string s, goInt s.size, .bool true, .chan (some c), v28, v29, v30], [closeS c]⟩ rfl rfl (by decide) (fun _ _ => rfl) rfl ?_
    refine way_pure' (mildS b) ⟨#[.string s, .chan (some c), v2, v3, .int .i64 f, v5, v6, v7, v8, v9, v10, v11, v12, v13, v14, v15, v16, v17, v18, v19, v20, v21, v22, .int .i64 f, .string s, goInt s.size, .bool true, .chan (some c), .string s, v29, v30], [closeS c]⟩ rfl rfl (by decide) (fun _ _ => rfl) rfl ?_
    refine way_pure' (mildS b) ⟨#[.string s, .chan (some c), v2, v3, .int .i64 f, v5, v6, v7, v8, v9, v10, v11, v12, v13, v14, v15, v16, v17, v18, v19, v20, v21, v22, .int .i64 f, .string s, goInt s.size, .bool true, .chan (some c), .string s, .int .i64 f, v30], [closeS c]⟩ rfl rfl (by decide) (fun _ _ => rfl) rfl ?_
    refine way_pure' (mildS b) ⟨#[.string s, .chan (some c), v2, v3, .int .i64 f, v5, v6, v7, v8, v9, v10, v11, v12, v13, v14, v15, v16, v17, v18, v19, v20, v21, v22, .int .i64 f, .string s, goInt s.size, .bool true, .chan (some c), .string s, .int .i64 f, .string (s.extract f s.size)], [closeS c]⟩ rfl rfl (by decide) (fun w es => exec_slice1 (s := s) (l := f) undS rfl rfl rfl (by omega) w es) rfl ?_
    refine at_send rfl rfl (by decide) rfl rfl rfl fun w1 _ => ?_
    rw [sends_way]
    refine way_silent (mildS b) rfl (fun _ => stepG_region_end) ?_
    refine way_silent (mildS b) rfl (fun _ => stepG_end) ?_
    exact at_close
  · rw [show tailS s f = [] from if_neg hf, sends_way]
    simp only [restS, bodyS, Tryd.f35, Option.getD_some]
    refine way_silent (mildS b) rfl (fun _ => stepG_seq) ?_
    refine way_silent (mildS b) rfl (fun _ => stepG_region) ?_
    refine way_pure' (mildS b) ⟨#[.string s, .chan (some c), v2, v3, .int .i64 f, v5, v6, v7, v8, v9, v10, v11, v12, v13, v14, v15, v16, v17, v18, v19, v20, v21, v22, .int .i64 f, v24, v25, v26, v27, v28, v29, v30], [closeS c]⟩ rfl rfl (by decide) (fun _ _ => rfl) rfl ?_
    refine way_pure' (mildS b) ⟨#[.string s, .chan (some c), v2, v3, .int .i64 f, v5, v6, v7, v8, v9, v10, v11, v12, v13, v14, v15, v16, v17, v18, v19, v20, v21, v22, .int .i64 f, .string s, v25, v26, v27, v28, v29, v30], [closeS c]⟩ rfl rfl (by decide) (fun _ _ => rfl) rfl ?_
    refine way_pure' (mildS b) ⟨#[.string s, .chan (some c), v2, v3, .int .i64 f, v5, v6, v7, v8, v9, v10, v11, v12, v13, v14, v15, v16, v17, v18, v19, v20, v21, v22, .int .i64 f, .string s, goInt s.size, v26, v27, v28, v29, v30], [closeS c]⟩ rfl rfl (by decide) (fun w es => exec_len (s := s) undS rfl rfl w es) rfl ?_
    refine way_pure' (mildS b) ⟨#[.string s, .chan (some c), v2, v3, .int .i64 f, v5, v6, v7, v8, v9, v10, v11, v12, v13, v14, v15, v16, v17, v18, v19, v20, v21, v22, .int .i64 f, .string s, goInt s.size, .bool false, v27, v28, v29, v30], [closeS c]⟩ rfl rfl (by decide) (fun w es => by
      have hd : decide ((f : Int) < (s.size : Int)) = false := by simp [hf]
      show (Result.ok (Next.value (.bool (decide ((f : Int) < (s.size : Int))))) w, es) = _
      rw [hd]) rfl ?_
    refine way_silent (mildS b) rfl (fun _ => stepG_region_end) ?_
    refine way_silent (mildS b) rfl (fun _ => stepG_cond (t := false) rfl) ?_
    refine way_silent (mildS b) rfl (fun _ => stepG_skip) ?_
    refine way_silent (mildS b) rfl (fun _ => stepG_end) ?_
    exact at_close

theorem headEnd {s : ByteArray} {b c p f : Nat} (hp : ¬ p < s.size) {g : Goroutine} {w : World} (hg : HeadS s b c f g) (hb : w.heap[b]? = some (.stringIter s p)) : Sends Tryd.prog b c (tailS s f) g w := by
  obtain ⟨T, rfl, hsz, h0, h1, h4, h9⟩ := hg
  obtain ⟨v0, v1, v2, v3, v4, v5, v6, v7, v8, v9, v10, v11, v12, v13, v14, v15, v16, v17, v18, v19, v20, v21, v22, v23, v24, v25, v26, v27, v28, v29, v30, rfl⟩ := array31 T hsz
  simp only [List.getElem?_toArray, List.getElem?_cons_zero, List.getElem?_cons_succ, Option.some.injEq] at h0 h1 h4 h9
  subst h0 h1 h4 h9
  rw [sends_way]
  refine way_silent (mildS b) rfl (fun _ => stepG_seq) ?_
  refine way_silent (mildS b) rfl (fun _ => stepG_region) ?_
  refine way_value' (.tuple #[.bool false]) ⟨#[.string s, .chan (some c), v2, v3, .int .i64 f, v5, v6, v7, v8, .pointer (some ⟨b, 0, none⟩), .tuple #[.bool false], v11, v12, v13, v14, v15, v16, v17, v18, v19, v20, v21, v22, v23, v24, v25, v26, v27, v28, v29, v30], [closeS c]⟩ rfl rfl (by decide) rfl fun w1 hr => ⟨w1, _, (exec_next (x := .tmp 9) (s := s) (p := p) rfl rfl (hr.2.trans hb)).2 hp, ⟨fun e he => ?_, .inl rfl⟩, ?_⟩
  · rw [seenS _ (by intro e he f; simp at he; subst he; simp)] at he
    simp at he
    subst he
    exact ⟨fun m hm => (by cases hm), rfl⟩
  refine way_pure' (mildS b) ⟨#[.string s, .chan (some c), v2, v3, .int .i64 f, v5, v6, v7, v8, .pointer (some ⟨b, 0, none⟩), .tuple #[.bool false], .bool false, v12, v13, v14, v15, v16, v17, v18, v19, v20, v21, v22, v23, v24, v25, v26, v27, v28, v29, v30], [closeS c]⟩ rfl rfl (by decide) (fun _ _ => rfl) rfl ?_
  refine way_silent (mildS b) rfl (fun _ => stepG_region_end) ?_
  refine way_silent (mildS b) rfl (fun _ => stepG_seq) ?_
  refine way_silent (mildS b) rfl (fun _ => stepG_cond (t := false) rfl) ?_
  refine way_silent (mildS b) rfl (fun _ => stepG_exit rfl) ?_
  rw [← sends_way]
  exact tail_way rfl rfl rfl rfl

theorem code10 {s : ByteArray} {p : Nat} (hp : p < s.size) (h : (Utf8.decode s p).1 = 10) : (Utf8.decode s p).2 = 1 := by
  rcases Nat.lt_or_ge (s[p]'hp).toNat 128 with h1 | h1
  · rw [decode_ascii s p hp h1]
  · have := (decode_high s p hp h1).1
    omega
theorem width1 {s : ByteArray} {p : Nat} (hp : p < s.size) : 1 ≤ (Utf8.decode s p).2 := by
  rcases Nat.lt_or_ge (s[p]'hp).toNat 128 with h1 | h1
  · rw [decode_ascii s p hp h1]; exact Nat.le_refl _
  · exact (decode_high s p hp h1).2

/-- From the loop's head: all that is still to be sent. -/
theorem headAll {s : ByteArray} {b c : Nat} (hs : s.size ≤ 1099511627) : ∀ (n p f : Nat), f ≤ p → s.size ≤ p + n → ∀ (g : Goroutine) (w : World), HeadS s b c f g → w.heap[b]? = some (.stringIter s p) → Sends Tryd.prog b c (outS s n p f) g w := by
  intro n
  induction n with
  | zero => exact fun p f _ hn g w hg hb => headEnd (by omega) hg hb
  | succ n ih =>
    intro p f hfp hn g w hg hb
    by_cases hp : p < s.size
    case neg =>
      rw [outS, if_neg hp]
      exact headEnd hp hg hb
    rw [outS, if_pos hp]
    obtain ⟨T, rfl, hsz, h0, h1, h4, h9⟩ := hg
    obtain ⟨v0, v1, v2, v3, v4, v5, v6, v7, v8, v9, v10, v11, v12, v13, v14, v15, v16, v17, v18, v19, v20, v21, v22, v23, v24, v25, v26, v27, v28, v29, v30, rfl⟩ := array31 T hsz
    simp only [List.getElem?_toArray, List.getElem?_cons_zero, List.getElem?_cons_succ, Option.some.injEq] at h0 h1 h4 h9
    subst h0 h1 h4 h9
    by_cases h10 : (Utf8.decode s p).1 = 10
    · rw [if_pos h10, sends_way]
      refine way_silent (mildS b) rfl (fun _ => stepG_seq) ?_
      refine way_silent (mildS b) rfl (fun _ => stepG_region) ?_
      refine way_value' (.tuple #[.bool true, goInt p, .int .i32 (Utf8.decode s p).1]) ⟨#[.string s, .chan (some c), v2, v3, .int .i64 f, v5, v6, v7, v8, .pointer (some ⟨b, 0, none⟩), .tuple #[.bool true, goInt p, .int .i32 (Utf8.decode s p).1], v11, v12, v13, v14, v15, v16, v17, v18, v19, v20, v21, v22, v23, v24, v25, v26, v27, v28, v29, v30], [closeS c]⟩ rfl rfl (by decide) rfl fun w1 hr => ⟨_, _, (exec_next (x := .tmp 9) (s := s) (p := p) rfl rfl (hr.2.trans hb)).1 hp, ⟨fun e he => ?_, .inr ⟨s, p + (Utf8.decode s p).2, rfl⟩⟩, ?_⟩
      · rw [seenS _ (by intro e he f; simp at he; rcases he with rfl | rfl <;> simp)] at he
        simp at he
        rcases he with rfl | rfl <;> exact ⟨fun m hm => (by cases hm), rfl⟩
      have hb2 : ({ w1 with heap := w1.heap.setIfInBounds b (.stringIter s (p + (Utf8.decode s p).2)) } : World).heap[b]? = some (.stringIter s (p + (Utf8.decode s p).2)) := set_iter ⟨s, p, hr.2.trans hb⟩ _ _
      generalize ({ w1 with heap := w1.heap.setIfInBounds b (.stringIter s (p + (Utf8.decode s p).2)) } : World) = w2 at hb2 ⊢
      refine way_pure' (mildS b) ⟨#[.string s, .chan (some c), v2, v3, .int .i64 f, v5, v6, v7, v8, .pointer (some ⟨b, 0, none⟩), .tuple #[.bool true, goInt p, .int .i32 (Utf8.decode s p).1], .bool true, v12, v13, v14, v15, v16, v17, v18, v19, v20, v21, v22, v23, v24, v25, v26, v27, v28, v29, v30], [closeS c]⟩ rfl rfl (by decide) (fun _ _ => rfl) rfl ?_
      refine way_silent (mildS b) rfl (fun _ => stepG_region_end) ?_
      refine way_silent (mildS b) rfl (fun _ => stepG_seq) ?_
      refine way_silent (mildS b) rfl (fun _ => stepG_cond (t := true) rfl) ?_
      refine way_silent (mildS b) rfl (fun _ => stepG_skip) ?_
      refine way_silent (mildS b) rfl (fun _ => stepG_block) ?_
      refine way_silent (mildS b) rfl (fun _ => stepG_seq) ?_
      refine way_silent (mildS b) rfl (fun _ => stepG_region) ?_
      refine way_pure' (mildS b) ⟨#[.string s, .chan (some c), v2, v3, .int .i64 f, v5, v6, v7, v8, .pointer (some ⟨b, 0, none⟩), .tuple #[.bool true, goInt p, .int .i32 (Utf8.decode s p).1], .bool true, .int .i64 p, v13, v14, v15, v16, v17, v18, v19, v20, v21, v22, v23, v24, v25, v26, v27, v28, v29, v30], [closeS c]⟩ rfl rfl (by decide) (fun _ _ => rfl) rfl ?_
      refine way_pure' (mildS b) ⟨#[.string s, .chan (some c), v2, v3, .int .i64 f, v5, v6, v7, v8, .pointer (some ⟨b, 0, none⟩), .tuple #[.bool true, goInt p, .int .i32 (Utf8.decode s p).1], .bool true, .int .i64 p, .int .i32 (Utf8.decode s p).1, v14, v15, v16, v17, v18, v19, v20, v21, v22, v23, v24, v25, v26, v27, v28, v29, v30], [closeS c]⟩ rfl rfl (by decide) (fun _ _ => rfl) rfl ?_
      refine way_pure' (mildS b) ⟨#[.string s, .chan (some c), v2, v3, .int .i64 f, .int .i64 p, v6, v7, v8, .pointer (some ⟨b, 0, none⟩), .tuple #[.bool true, goInt p, .int .i32 (Utf8.decode s p).1], .bool true, .int .i64 p, .int .i32 (Utf8.decode s p).1, v14, v15, v16, v17, v18, v19, v20, v21, v22, v23, v24, v25, v26, v27, v28, v29, v30], [closeS c]⟩ rfl rfl (by decide) (fun _ _ => rfl) rfl ?_
      refine way_pure' (mildS b) ⟨#[.string s, .chan (some c), v2, v3, .int .i64 f, .int .i64 p, .int .i32 (Utf8.decode s p).1, v7, v8, .pointer (some ⟨b, 0, none⟩), .tuple #[.bool true, goInt p, .int .i32 (Utf8.decode s p).1], .bool true, .int .i64 p, .int .i32 (Utf8.decode s p).1, v14, v15, v16, v17, v18, v19, v20, v21, v22, v23, v24, v25, v26, v27, v28, v29, v30], [closeS c]⟩ rfl rfl (by decide) (fun _ _ => rfl) rfl ?_
      refine way_silent (mildS b) rfl (fun _ => stepG_region_end) ?_
      refine way_silent (mildS b) rfl (fun _ => stepG_seq) ?_
      refine way_silent (mildS b) rfl (fun _ => stepG_region) ?_
      refine way_pure' (mildS b) ⟨#[.string s, .chan (some c), v2, v3, .int .i64 f, .int .i64 p, .int .i32 (Utf8.decode s p).1, v7, v8, .pointer (some ⟨b, 0, none⟩), .tuple #[.bool true, goInt p, .int .i32 (Utf8.decode s p).1], .bool true, .int .i64 p, .int .i32 (Utf8.decode s p).1, .int .i32 (Utf8.decode s p).1, v15, v16, v17, v18, v19, v20, v21, v22, v23, v24, v25, v26, v27, v28, v29, v30], [closeS c]⟩ rfl rfl (by decide) (fun _ _ => rfl) rfl ?_
      refine way_pure' (mildS b) ⟨#[.string s, .chan (some c), v2, v3, .int .i64 f, .int .i64 p, .int .i32 (Utf8.decode s p).1, v7, v8, .pointer (some ⟨b, 0, none⟩), .tuple #[.bool true, goInt p, .int .i32 (Utf8.decode s p).1], .bool true, .int .i64 p, .int .i32 (Utf8.decode s p).1, .int .i32 (Utf8.decode s p).1, .bool true, v16, v17, v18, v19, v20, v21, v22, v23, v24, v25, v26, v27, v28, v29, v30], [closeS c]⟩ rfl rfl (by decide) (fun w es => by
        have hd : (((Utf8.decode s p).1 : Int) == 10) = true := by simp; omega
        show (Result.ok (Next.value (.bool (((Utf8.decode s p).1 : Int) == 10))) w, es) = _
        rw [hd]) rfl ?_
      refine way_silent (mildS b) rfl (fun _ => stepG_region_end) ?_
      refine way_silent (mildS b) rfl (fun _ => stepG_cond (t := true) rfl) ?_
      refine way_silent (mildS b) rfl (fun _ => stepG_seq) ?_
      refine way_silent (mildS b) rfl (fun _ => stepG_region) ?_
      refine way_pure' (mildS b) ⟨#[.string s, .chan (some c), v2, v3, .int .i64 f, .int .i64 p, .int .i32 (Utf8.decode s p).1, v7, v8, .pointer (some ⟨b, 0, none⟩), .tuple #[.bool true, goInt p, .int .i32 (Utf8.decode s p).1], .bool true, .int .i64 p, .int .i32 (Utf8.decode s p).1, .int .i32 (Utf8.decode s p).1, .bool true, .chan (some c), v17, v18, v19, v20, v21, v22, v23, v24, v25, v26, v27, v28, v29, v30], [closeS c]⟩ rfl rfl (by decide) (fun _ _ => rfl) rfl ?_
      refine way_pure' (mildS b) ⟨#[.string s, .chan (some c), v2, v3, .int .i64 f, .int .i64 p, .int .i32 (Utf8.decode s p).1, v7, v8, .pointer (some ⟨b, 0, none⟩), .tuple #[.bool true, goInt p, .int .i32 (Utf8.decode s p).1], .bool true, .int .i64 p, .int .i32 (Utf8.decode s p).1, .int .i32 (Utf8.decode s p).1, .bool true, .chan (some c), .string s, v18, v19, v20, v21, v22, v23, v24, v25, v26, v27, v28, v29, v30], [closeS c]⟩ rfl rfl (by decide) (fun _ _ => rfl) rfl ?_
      refine way_pure' (mildS b) ⟨#[.string s, .chan (some c), v2, v3, .int .i64 f, .int .i64 p, .int .i32 (Utf8.decode s p).1, v7, v8, .pointer (some ⟨b, 0, none⟩), .tuple #[.bool true, goInt p, .int .i32 (Utf8.decode s p).1], .bool true, .int .i64 p, .int .i32 (Utf8.decode s p).1, .int .i32 (Utf8.decode s p).1, .bool true, .chan (some c), .string s, .int .i64 f, v19, v20, v21, v22, v23, v24, v25, v26, v27, v28, v29, v30], [closeS c]⟩ rfl rfl (by decide) (fun _ _ => rfl) rfl ?_
      refine way_pure' (mildS b) ⟨#[.string s, .chan (some c), v2, v3, .int .i64 f, .int .i64 p, .int .i32 (Utf8.decode s p).1, v7, v8, .pointer (some ⟨b, 0, none⟩), .tuple #[.bool true, goInt p, .int .i32 (Utf8.decode s p).1], .bool true, .int .i64 p, .int .i32 (Utf8.decode s p).1, .int .i32 (Utf8.decode s p).1, .bool true, .chan (some c), .string s, .int .i64 f, .int .i64 p, v20, v21, v22, v23, v24, v25, v26, v27, v28, v29, v30], [closeS c]⟩ rfl rfl (by decide) (fun _ _ => rfl) rfl ?_
      refine way_pure' (mildS b) ⟨#[.string s, .chan (some c), v2, v3, .int .i64 f, .int .i64 p, .int .i32 (Utf8.decode s p).1, v7, v8, .pointer (some ⟨b, 0, none⟩), .tuple #[.bool true, goInt p, .int .i32 (Utf8.decode s p).1], .bool true, .int .i64 p, .int .i32 (Utf8.decode s p).1, .int .i32 (Utf8.decode s p).1, .bool true, .chan (some c), .string s, .int .i64 f, .int .i64 p, .string (s.extract f p), v21, v22, v23, v24, v25, v26, v27, v28, v29, v30], [closeS c]⟩ rfl rfl (by decide) (fun w es => exec_slice2 (s := s) (l := f) (u := p) undS rfl rfl rfl rfl hfp (by omega) w es) rfl ?_
      refine at_send rfl rfl (by decide) rfl rfl rfl fun w3 hr3 => ?_
      have hb3 := hr3.2.trans hb2
      rw [sends_way]
      refine way_silent (mildS b) rfl (fun _ => stepG_region_end) ?_
      refine way_silent (mildS b) rfl (fun _ => stepG_region) ?_
      refine way_pure' (mildS b) ⟨#[.string s, .chan (some c), v2, v3, .int .i64 f, .int .i64 p, .int .i32 (Utf8.decode s p).1, v7, v8, .pointer (some ⟨b, 0, none⟩), .tuple #[.bool true, goInt p, .int .i32 (Utf8.decode s p).1], .bool true, .int .i64 p, .int .i32 (Utf8.decode s p).1, .int .i32 (Utf8.decode s p).1, .bool true, .chan (some c), .string s, .int .i64 f, .int .i64 p, .string (s.extract f p), .int .i64 p, v22, v23, v24, v25, v26, v27, v28, v29, v30], [closeS c]⟩ rfl rfl (by decide) (fun _ _ => rfl) rfl ?_
      refine way_pure' (mildS b) ⟨#[.string s, .chan (some c), v2, v3, .int .i64 f, .int .i64 p, .int .i32 (Utf8.decode s p).1, v7, v8, .pointer (some ⟨b, 0, none⟩), .tuple #[.bool true, goInt p, .int .i32 (Utf8.decode s p).1], .bool true, .int .i64 p, .int .i32 (Utf8.decode s p).1, .int .i32 (Utf8.decode s p).1, .bool true, .chan (some c), .string s, .int .i64 f, .int .i64 p, .string (s.extract f p), .int .i64 p, .int .i64 ((p + 1 : Nat) : Int), v23, v24, v25, v26, v27, v28, v29, v30], [closeS c]⟩ rfl rfl (by decide) (fun w es => by
        have hd : IntKind.i64.wrap ((p : Int) + 1) = ((p + 1 : Nat) : Int) := by rw [IntKind.wrap]; simp [IntKind.bits, IntKind.signed]; omega
        show (Result.ok (Next.value (.int .i64 (IntKind.i64.wrap ((p : Int) + 1)))) w, es) = _
        rw [hd]) rfl ?_
      refine way_pure' (mildS b) ⟨#[.string s, .chan (some c), v2, v3, .int .i64 ((p + 1 : Nat) : Int), .int .i64 p, .int .i32 (Utf8.decode s p).1, v7, v8, .pointer (some ⟨b, 0, none⟩), .tuple #[.bool true, goInt p, .int .i32 (Utf8.decode s p).1], .bool true, .int .i64 p, .int .i32 (Utf8.decode s p).1, .int .i32 (Utf8.decode s p).1, .bool true, .chan (some c), .string s, .int .i64 f, .int .i64 p, .string (s.extract f p), .int .i64 p, .int .i64 ((p + 1 : Nat) : Int), v23, v24, v25, v26, v27, v28, v29, v30], [closeS c]⟩ rfl rfl (by decide) (fun _ _ => rfl) rfl ?_
      refine way_silent (mildS b) rfl (fun _ => stepG_region_end) ?_
      refine way_silent (mildS b) rfl (fun _ => stepG_inBlock) ?_
      refine way_silent (mildS b) rfl (fun _ => stepG_inLoop) ?_
      rw [← sends_way]
      exact ih _ _ (by have := code10 hp h10; omega) (by have := width1 hp; omega) _ _ ⟨_, rfl, rfl, rfl, rfl, rfl, rfl⟩ hb3
    · rw [if_neg h10, sends_way]
      refine way_silent (mildS b) rfl (fun _ => stepG_seq) ?_
      refine way_silent (mildS b) rfl (fun _ => stepG_region) ?_
      refine way_value' (.tuple #[.bool true, goInt p, .int .i32 (Utf8.decode s p).1]) ⟨#[.string s, .chan (some c), v2, v3, .int .i64 f, v5, v6, v7, v8, .pointer (some ⟨b, 0, none⟩), .tuple #[.bool true, goInt p, .int .i32 (Utf8.decode s p).1], v11, v12, v13, v14, v15, v16, v17, v18, v19, v20, v21, v22, v23, v24, v25, v26, v27, v28, v29, v30], [closeS c]⟩ rfl rfl (by decide) rfl fun w1 hr => ⟨_, _, (exec_next (x := .tmp 9) (s := s) (p := p) rfl rfl (hr.2.trans hb)).1 hp, ⟨fun e he => ?_, .inr ⟨s, p + (Utf8.decode s p).2, rfl⟩⟩, ?_⟩
      · rw [seenS _ (by intro e he f; simp at he; rcases he with rfl | rfl <;> simp)] at he
        simp at he
        rcases he with rfl | rfl <;> exact ⟨fun m hm => (by cases hm), rfl⟩
      have hb2 : ({ w1 with heap := w1.heap.setIfInBounds b (.stringIter s (p + (Utf8.decode s p).2)) } : World).heap[b]? = some (.stringIter s (p + (Utf8.decode s p).2)) := set_iter ⟨s, p, hr.2.trans hb⟩ _ _
      generalize ({ w1 with heap := w1.heap.setIfInBounds b (.stringIter s (p + (Utf8.decode s p).2)) } : World) = w2 at hb2 ⊢
      refine way_pure' (mildS b) ⟨#[.string s, .chan (some c), v2, v3, .int .i64 f, v5, v6, v7, v8, .pointer (some ⟨b, 0, none⟩), .tuple #[.bool true, goInt p, .int .i32 (Utf8.decode s p).1], .bool true, v12, v13, v14, v15, v16, v17, v18, v19, v20, v21, v22, v23, v24, v25, v26, v27, v28, v29, v30], [closeS c]⟩ rfl rfl (by decide) (fun _ _ => rfl) rfl ?_
      refine way_silent (mildS b) rfl (fun _ => stepG_region_end) ?_
      refine way_silent (mildS b) rfl (fun _ => stepG_seq) ?_
      refine way_silent (mildS b) rfl (fun _ => stepG_cond (t := true) rfl) ?_
      refine way_silent (mildS b) rfl (fun _ => stepG_skip) ?_
      refine way_silent (mildS b) rfl (fun _ => stepG_block) ?_
      refine way_silent (mildS b) rfl (fun _ => stepG_seq) ?_
      refine way_silent (mildS b) rfl (fun _ => stepG_region) ?_
      refine way_pure' (mildS b) ⟨#[.string s, .chan (some c), v2, v3, .int .i64 f, v5, v6, v7, v8, .pointer (some ⟨b, 0, none⟩), .tuple #[.bool true, goInt p, .int .i32 (Utf8.decode s p).1], .bool true, .int .i64 p, v13, v14, v15, v16, v17, v18, v19, v20, v21, v22, v23, v24, v25, v26, v27, v28, v29, v30], [closeS c]⟩ rfl rfl (by decide) (fun _ _ => rfl) rfl ?_
      refine way_pure' (mildS b) ⟨#[.string s, .chan (some c), v2, v3, .int .i64 f, v5, v6, v7, v8, .pointer (some ⟨b, 0, none⟩), .tuple #[.bool true, goInt p, .int .i32 (Utf8.decode s p).1], .bool true, .int .i64 p, .int .i32 (Utf8.decode s p).1, v14, v15, v16, v17, v18, v19, v20, v21, v22, v23, v24, v25, v26, v27, v28, v29, v30], [closeS c]⟩ rfl rfl (by decide) (fun _ _ => rfl) rfl ?_
      refine way_pure' (mildS b) ⟨#[.string s, .chan (some c), v2, v3, .int .i64 f, .int .i64 p, v6, v7, v8, .pointer (some ⟨b, 0, none⟩), .tuple #[.bool true, goInt p, .int .i32 (Utf8.decode s p).1], .bool true, .int .i64 p, .int .i32 (Utf8.decode s p).1, v14, v15, v16, v17, v18, v19, v20, v21, v22, v23, v24, v25, v26, v27, v28, v29, v30], [closeS c]⟩ rfl rfl (by decide) (fun _ _ => rfl) rfl ?_
      refine way_pure' (mildS b) ⟨#[.string s, .chan (some c), v2, v3, .int .i64 f, .int .i64 p, .int .i32 (Utf8.decode s p).1, v7, v8, .pointer (some ⟨b, 0, none⟩), .tuple #[.bool true, goInt p, .int .i32 (Utf8.decode s p).1], .bool true, .int .i64 p, .int .i32 (Utf8.decode s p).1, v14, v15, v16, v17, v18, v19, v20, v21, v22, v23, v24, v25, v26, v27, v28, v29, v30], [closeS c]⟩ rfl rfl (by decide) (fun _ _ => rfl) rfl ?_
      refine way_silent (mildS b) rfl (fun _ => stepG_region_end) ?_
      refine way_silent (mildS b) rfl (fun _ => stepG_seq) ?_
      refine way_silent (mildS b) rfl (fun _ => stepG_region) ?_
      refine way_pure' (mildS b) ⟨#[.string s, .chan (some c), v2, v3, .int .i64 f, .int .i64 p, .int .i32 (Utf8.decode s p).1, v7, v8, .pointer (some ⟨b, 0, none⟩), .tuple #[.bool true, goInt p, .int .i32 (Utf8.decode s p).1], .bool true, .int .i64 p, .int .i32 (Utf8.decode s p).1, .int .i32 (Utf8.decode s p).1, v15, v16, v17, v18, v19, v20, v21, v22, v23, v24, v25, v26, v27, v28, v29, v30], [closeS c]⟩ rfl rfl (by decide) (fun _ _ => rfl) rfl ?_
      refine way_pure' (mildS b) ⟨#[.string s, .chan (some c), v2, v3, .int .i64 f, .int .i64 p, .int .i32 (Utf8.decode s p).1, v7, v8, .pointer (some ⟨b, 0, none⟩), .tuple #[.bool true, goInt p, .int .i32 (Utf8.decode s p).1], .bool true, .int .i64 p, .int .i32 (Utf8.decode s p).1, .int .i32 (Utf8.decode s p).1, .bool false, v16, v17, v18, v19, v20, v21, v22, v23, v24, v25, v26, v27, v28, v29, v30], [closeS c]⟩ rfl rfl (by decide) (fun w es => by
        have hd : (((Utf8.decode s p).1 : Int) == 10) = false := by simp; omega
        show (Result.ok (Next.value (.bool (((Utf8.decode s p).1 : Int) == 10))) w, es) = _
        rw [hd]) rfl ?_
      refine way_silent (mildS b) rfl (fun _ => stepG_region_end) ?_
      refine way_silent (mildS b) rfl (fun _ => stepG_cond (t := false) rfl) ?_
      refine way_silent (mildS b) rfl (fun _ => stepG_skip) ?_
      refine way_silent (mildS b) rfl (fun _ => stepG_inBlock) ?_
      refine way_silent (mildS b) rfl (fun _ => stepG_inLoop) ?_
      rw [← sends_way]
      exact ih _ _ (by omega) (by have := width1 hp; omega) _ _ ⟨_, rfl, rfl, rfl, rfl, rfl, rfl⟩ hb2

/-- The goroutine that a go statement on script.lines makes. -/
noncomputable def bornS (s : ByteArray) (c : Nat) : Goroutine :=
  { frame := { (default : Frame) with fn := Tryd.prog.funcs.size, defers := [{ target := .fn (.func 35) #[], args := #[.string s, .chan (some c)] }], mode := .panicking [goexitEntry] }, callers := [], status := .running, dying := none }

theorem mildN (N : Nat) : Mild (RBN N) DB0 := ⟨pair0 (c := 0) (k := 0) |>.trB, fun _ => ⟨rfl, .inl rfl⟩⟩

theorem exec_range {P : Program} {t : TypeId} (h : P.underlying t = some .string) {ρ : Operand → Value} {o : Oper} {x : Operand} (ho : o.op = .range t x) {s : ByteArray} (hx : ρ x = .string s) (w : World) (es : Array Event) :
    (execOp ρ o).runT P w es = (.ok (.value (.pointer (some ⟨w.heap.size, 0, none⟩))) { w with heap := w.heap.push (.stringIter s 0) }, es) := by
  unfold execOp
  simp only [ho, hx]
  unfold Instr.range
  rw [bind_assoc, runT_bind_ok (runT_underlying h w es)]
  rfl

/-- ████ script.lines: from its birth to its iterator. ████ -/
theorem born_way {s : ByteArray} {c N : Nat} (hs : s.size ≤ 1099511627) {w : World} (hN : N ≤ w.heap.size) : Co.Way Tryd.prog false (RBN N) DB0 (Made Tryd.prog N c (outS s s.size 0 0)) (bornS s c) w := by
  have e0 : ∀ w, stepG Tryd.prog false (bornS s c) w = .go (G (bS.at ⟨#[.string s, .chan (some c), undef, undef, undef, undef, undef, undef, undef, undef, undef, undef, undef, undef, undef, undef, undef, undef, undef, undef, undef, undef, undef, undef, undef, undef, undef, undef, undef, undef, undef], []⟩ [.code bodyS]) [botS]) w #[] := by
    intro w
    have e1 : stepG Tryd.prog false (bornS s c) w = callDeferred Tryd.prog botS [] none { target := .fn (.func 35) #[], args := #[.string s, .chan (some c)] } w := by
      simp [bornS, stepG, unwind, botS]
    have hrun : (invoke (.fn (.func 35) #[]) #[.string s, .chan (some c)]).runT Tryd.prog w #[] = (.ok (.enter 35 #[.string s, .chan (some c)]) w, #[]) := by
      have : (callFunc 35 #[.string s, .chan (some c)]).runT Tryd.prog w #[] = (.ok (.enter 35 #[.string s, .chan (some c)]) w, #[]) := by
        unfold callFunc
        rw [runT_bind_ok (x := program) (a := Tryd.prog) (w1 := w) (es1 := #[]) rfl]
        rw [Tryd.func35]
        simp [Tryd.f35]
      exact this
    rw [e1]
    unfold callDeferred
    rw [hrun]
    simp [botS, GStep.after, Go.seen, G, Frame.at, Frame.enter, bS, bodyS, Tryd.func35, Tryd.f35]
  refine way_silent (mildN N) rfl e0 ?_
  refine way_silent (mildN N) rfl (fun _ => stepG_seq) ?_
  refine way_silent (mildN N) rfl (fun _ => stepG_region) ?_
  refine way_pure' (mildN N) ⟨#[.string s, .chan (some c), undef, undef, undef, undef, undef, .chan (some c), undef, undef, undef, undef, undef, undef, undef, undef, undef, undef, undef, undef, undef, undef, undef, undef, undef, undef, undef, undef, undef, undef, undef], []⟩ rfl rfl (by decide) (fun _ _ => rfl) rfl ?_
  refine way_defer' (mildN N) (d := closeS c) ⟨#[.string s, .chan (some c), undef, undef, undef, undef, undef, .chan (some c), undef, undef, undef, undef, undef, undef, undef, undef, undef, undef, undef, undef, undef, undef, undef, undef, undef, undef, undef, undef, undef, undef, undef], [closeS c]⟩ rfl rfl (fun w es => by simp [execOp, resolve, closeS, Act.eval]) rfl ?_
  refine way_silent (mildN N) rfl (fun _ => stepG_region_end) ?_
  refine way_silent (mildN N) rfl (fun _ => stepG_seq) ?_
  refine way_silent (mildN N) rfl (fun _ => stepG_region) ?_
  refine way_pure' (mildN N) ⟨#[.string s, .chan (some c), undef, undef, .int .i64 0, undef, undef, .chan (some c), undef, undef, undef, undef, undef, undef, undef, undef, undef, undef, undef, undef, undef, undef, undef, undef, undef, undef, undef, undef, undef, undef, undef], [closeS c]⟩ rfl rfl (by decide) (fun _ _ => rfl) rfl ?_
  refine way_silent (mildN N) rfl (fun _ => stepG_region_end) ?_
  refine way_silent (mildN N) rfl (fun _ => stepG_seq) ?_
  refine way_silent (mildN N) rfl (fun _ => stepG_seq) ?_
  refine way_silent (mildN N) rfl (fun _ => stepG_region) ?_
  refine way_pure' (mildN N) ⟨#[.string s, .chan (some c), undef, undef, .int .i64 0, undef, undef, .chan (some c), .string s, undef, undef, undef, undef, undef, undef, undef, undef, undef, undef, undef, undef, undef, undef, undef, undef, undef, undef, undef, undef, undef, undef], [closeS c]⟩ rfl rfl (by decide) (fun _ _ => rfl) rfl ?_
  refine way_value rfl rfl (by decide) fun w1 hr => ⟨_, _, _, exec_range (s := s) undS rfl rfl w1 #[], ⟨rfl, .inr ⟨s, rfl⟩⟩, ?_⟩
  have hNb : N ≤ w1.heap.size := Nat.le_trans hN hr.1
  have hb2 : ({ w1 with heap := w1.heap.push (.stringIter s 0) } : World).heap[w1.heap.size]? = some (.stringIter s 0) := by simp
  generalize ({ w1 with heap := w1.heap.push (.stringIter s 0) } : World) = w2 at hb2 ⊢
  generalize w1.heap.size = b at hNb hb2 ⊢
  refine way_silent (mildN N) rfl (fun _ => stepG_region_end) ?_
  refine way_silent (mildN N) rfl (fun _ => stepG_block) ?_
  refine way_silent (mildN N) rfl (fun _ => stepG_loop) ?_
  refine Co.Way.stop fun w3 hr3 => ⟨b, hNb, ⟨s, 0, (hr3.2 b hNb ⟨s, 0, hb2⟩).trans hb2⟩, ?_⟩
  exact headAll hs s.size 0 0 (Nat.le_refl _) (by omega) _ _ ⟨_, rfl, rfl, rfl, rfl, rfl, rfl⟩ ((hr3.2 b hNb ⟨s, 0, hb2⟩).trans hb2)

end Go.Proofs.YtbjkljmhhpoooaaDoor
