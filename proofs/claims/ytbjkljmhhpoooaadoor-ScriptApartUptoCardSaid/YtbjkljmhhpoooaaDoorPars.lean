/-
  script.Parse IN COMPANY: it starts the goroutine that sends the lines, receives them, and returns the plan; the sender leaves.
-/
import Derived.Test.YtbjkljmhhpoooaaDoorRest
import Derived.Test.YtbjkljmhhpoooaaDoorOps
import Derived.Test.YtbjkljmhhpoooaaDoorRdyS
namespace Go.Proofs.YtbjkljmhhpoooaaDoor
open Go.Conc Go.Co Go.Proofs Go.RowKit
set_option linter.unusedVariables false

/-- What is kept from one world to a later one: all blocks below n. -/
structure Abv (n : Nat) (w w' : World) : Prop where
  os : w'.os = w.os
  output : w'.output = w.output
  size : w.heap.size ≤ w'.heap.size
  block : ∀ k, k < n → w'.heap[k]? = w.heap[k]?
theorem Abv.refl (n : Nat) (w : World) : Abv n w w := ⟨rfl, rfl, Nat.le_refl _, fun _ _ => rfl⟩
theorem Abv.trans {n : Nat} {a b c : World} (h : Abv n a b) (k : Abv n b c) : Abv n a c := ⟨k.os.trans h.os, k.output.trans h.output, Nat.le_trans h.size k.size, fun i hi => (k.block i hi).trans (h.block i hi)⟩
theorem Abv.of_below {n : Nat} {w w' : World} (h : Below n w w') : Abv n w w' := ⟨h.os, h.output, h.size, h.block⟩
theorem Abv.mono {n m : Nat} {w w' : World} (h : Abv n w w') (hm : m ≤ n) : Abv m w w' := ⟨h.os, h.output, h.size, fun k hk => h.block k (by omega)⟩
theorem Abv.push {n : Nat} {w0 w : World} (h : Abv n w0 w) (hn : n ≤ w.heap.size) (o : Obj) : Abv n w0 (w.alloc o) :=
  ⟨h.os, h.output, Nat.le_trans h.size (by simp), fun k hk => (by rw [Below.heap_alloc w o k (by omega)]; exact h.block k hk)⟩
theorem Abv.rely {n : Nat} {w0 w w1 : World} {B : Nat → Prop} (h : Abv n w0 w) (hr : Rely B w w1) (hB : ∀ k, B k → n ≤ k) : Abv n w0 w1 :=
  ⟨hr.os.trans h.os, hr.output.trans h.output, by rw [hr.size]; exact h.size, fun k hk => (hr.same k fun hb => by have := hB k hb; omega).trans (h.block k hk)⟩
theorem rely_get {w w1 : World} (hr : Rely None' w w1) (k : Nat) : w1.heap[k]? = w.heap[k]? := hr.same k fun h => h
theorem verbs_abv {V o cap : Nat} {F : Nat → Option Addr} {C : Nat → Nat} {w0 w : World} (h : VerbsAt V o cap F C w0) (ha : Abv w0.heap.size w0 w) : VerbsAt V o cap F C w := by
  have hb : Below w0.heap.size w0 (w.on w0.tape w0.drawn) := ⟨ha.os, rfl, ha.output, ha.size, ha.block⟩
  have h' := h.below hb
  exact ⟨h'.g, h'.word, h'.form, h'.ints, h'.least, h'.most⟩
theorem cell_abv {w0 w : World} {a : Addr} {v : Value} (h : w0.cell? a = some v) (ha : Abv w0.heap.size w0 w) : w.cell? a = some v := by
  rw [World.cell?_of_block (w := w0) (ha.block _ (World.block_lt_of_cell? w0 a h))]
  exact h

/-! ### the code -/
noncomputable def ops8P : Array Oper := match loopP with | .seq (.region _ ops _) _ => ops | _ => #[]
noncomputable def behindP : Code := match loopP with | .seq _ c => c | _ => .skip
noncomputable def kkP : List Item := [.code behindP, .inLoop loopP, .inBlock 0, .code restP]
noncomputable abbrev S1 : Sets := mkSets false F1 X1 D1

theorem planZ : (Tryd.prog.info? 31).bind (·.zero) = some (.agg #[.int .i64 0, .slice none 0 0]) := by kernel_rfl
theorem chanU : Tryd.prog.underlying 71 = some (.chan .both 9) := by kernel_rfl
theorem strInfo : (Tryd.prog.info? 9).isSome = true := by kernel_rfl
theorem strZ : (Tryd.prog.info? 9).bind (·.zero) = some (.string ByteArray.empty) := by kernel_rfl
theorem round_ok : okCode Tryd.prog S1 15 roundP = true := by kernel_rfl
theorem rest_brought : S1.D 15 = [] := by kernel_rfl

/-- The goroutine in Parse. -/
noncomputable abbrev GP (T : Array Value) (k : List Item) (cs : List Frame) : Goroutine := G ((base 15).at ⟨T, []⟩ k) cs

theorem PTmps.put18 {T : Array Value} {res p c : Nat} {st : PS} (h : PTmps T res p c st) (v : Value) : PTmps (T.setIfInBounds 18 v) res p c st ∧ (T.setIfInBounds 18 v)[18]? = some v := by
  refine ⟨⟨by simpa using h.size, ?_, ?_, ?_, ?_, ?_⟩, ?_⟩
  · rw [Array.getElem?_setIfInBounds_ne (by decide)]; exact h.t2
  · rw [Array.getElem?_setIfInBounds_ne (by decide)]; exact h.t5
  · rw [Array.getElem?_setIfInBounds_ne (by decide)]; exact h.t6
  · rw [Array.getElem?_setIfInBounds_ne (by decide)]; exact h.t7
  · rw [Array.getElem?_setIfInBounds_ne (by decide)]; exact h.t17
  · rw [Array.getElem?_setIfInBounds_self_of_lt (by rw [h.size]; decide)]

theorem served_recv (T : Array Value) (cs : List Frame) (v : Value) : Conc.served (core (GP T (.inRegion ops8P [0, 1] :: kkP) cs)) v = GP (T.setIfInBounds 18 v) (.inRegion ops8P [1] :: kkP) cs := by
  rw [core_G, served_G]
  rfl

/-- Behind the closed channel. -/
def FinP (w0 : World) (cs : List Frame) (st : PS) (g : Goroutine) (w : World) : Prop :=
  ∃ T p c sv, g = GP T (.inRegion ops8P [1] :: kkP) cs ∧ PTmps T w0.heap.size p c st ∧ T[18]? = some (.tuple #[.string ByteArray.empty, .bool false]) ∧ PMem w w0.heap.size w0.heap.size p st sv ∧ Abv w0.heap.size w0 w

theorem array51 (T : Array Value) (h : T.size = 51) : ∃ x0 x1 x2 x3 x4 x5 x6 x7 x8 x9 x10 x11 x12 x13 x14 x15 x16 x17 x18 x19 x20 x21 x22 x23 x24 x25 x26 x27 x28 x29 x30 x31 x32 x33 x34 x35 x36 x37 x38 x39 x40 x41 x42 x43 x44 x45 x46 x47 x48 x49 x50 : Value,
    T = #[x0, x1, x2, x3, x4, x5, x6, x7, x8, x9, x10, x11, x12, x13, x14, x15, x16, x17, x18, x19, x20, x21, x22, x23, x24, x25, x26, x27, x28, x29, x30, x31, x32, x33, x34, x35, x36, x37, x38, x39, x40, x41, x42, x43, x44, x45, x46, x47, x48, x49, x50] := by
  obtain ⟨l⟩ := T
  simp only [List.size_toArray] at h
  match l, h with
  | x0 :: x1 :: x2 :: x3 :: x4 :: x5 :: x6 :: x7 :: x8 :: x9 :: x10 :: x11 :: x12 :: x13 :: x14 :: x15 :: x16 :: x17 :: x18 :: x19 :: x20 :: x21 :: x22 :: x23 :: x24 :: x25 :: x26 :: x27 :: x28 :: x29 :: x30 :: x31 :: x32 :: x33 :: x34 :: x35 :: x36 :: x37 :: x38 :: x39 :: x40 :: x41 :: x42 :: x43 :: x44 :: x45 :: x46 :: x47 :: x48 :: x49 :: x50 :: [], _ => exact ⟨x0, x1, x2, x3, x4, x5, x6, x7, x8, x9, x10, x11, x12, x13, x14, x15, x16, x17, x18, x19, x20, x21, x22, x23, x24, x25, x26, x27, x28, x29, x30, x31, x32, x33, x34, x35, x36, x37, x38, x39, x40, x41, x42, x43, x44, x45, x46, x47, x48, x49, x50, rfl⟩

theorem pmem_same {w w' : World} {lo res p : Nat} {st : PS} {v : Value} (h : PMem w lo res p st v) (hk : ∀ (k : Nat) (cs : Array Value) (t : TypeId), w.heap[k]? = some (.cells cs t (0, 0)) → w'.heap[k]? = w.heap[k]?) : PMem w' lo res p st v :=
  ⟨(hk _ _ _ h.hres).trans h.hres, (hk _ _ _ h.var).trans h.var, h.es.keep fun k cur t _ h _ => hk k cur t h, h.lores, h.lop, h.ne⟩

/-- Two blocks that are others', and no variables. -/
def Live (b c : Nat) (w : World) : Prop := (∀ k, Two b c k → ∀ cs e f, w.heap[k]? ≠ some (.cells cs e f)) ∧ b < w.heap.size ∧ c < w.heap.size
theorem Live.rely {b c : Nat} {w w1 : World} (h : Live b c w) (hr : Rely (Two b c) w w1) : Live b c w1 := ⟨hr.dull h.1, by rw [hr.size]; exact h.2.1, by rw [hr.size]; exact h.2.2⟩
def wallW (b c : Nat) (w : World) : World := { w with heap := (w.heap.setIfInBounds b (poison b)).setIfInBounds c (poison c) }
theorem wall_get {b c : Nat} {w : World} {k : Nat} (h : ¬ Two b c k) : (wallW b c w).heap[k]? = w.heap[k]? := by
  unfold wallW
  simp only
  rw [Array.getElem?_setIfInBounds_ne (fun e => h (.inr e.symm)), Array.getElem?_setIfInBounds_ne (fun e => h (.inl e.symm))]
theorem wall_veil {b c : Nat} {w : World} (h : Live b c w) : Veil (Two b c) w (wallW b c w) := by
  refine ⟨by simp [wallW], fun k hk => (wall_get hk).symm, fun k hk => ?_, h.1, rfl, rfl⟩
  unfold wallW
  simp only
  by_cases e : k = c
  · subst e
    rw [Array.getElem?_setIfInBounds_self_of_lt (by simpa using h.2.2)]
  · rcases hk with rfl | hk
    · rw [Array.getElem?_setIfInBounds_ne (fun e' => e e'.symm), Array.getElem?_setIfInBounds_self_of_lt h.2.1]
    · exact absurd hk e
theorem live_cells {b c : Nat} {w : World} (h : Live b c w) {k : Nat} {cs : Array Value} {t : TypeId} (hk : w.heap[k]? = some (.cells cs t (0, 0))) : ¬ Two b c k := fun e => h.1 k e cs t (0, 0) hk
theorem veil_cells {b c : Nat} {w v : World} (h : Veil (Two b c) w v) {k : Nat} {cs : Array Value} {t : TypeId} (hk : v.heap[k]? = some (.cells cs t (0, 0))) : w.heap[k]? = v.heap[k]? := by
  refine h.same k fun e => ?_
  rw [h.mask k e] at hk
  injection hk with hk
  cases hk
theorem veil_live {b c : Nat} {w v : World} (h : Veil (Two b c) w v) : Live b c w := by
  have key : ∀ k, Two b c k → k < w.heap.size := fun k hk => by
    rw [h.size]
    exact (Array.getElem?_eq_some_iff.1 (h.mask k hk)).1
  exact ⟨h.dull, key b (.inl rfl), key c (.inr rfl)⟩

theorem step_len {st : PS} (l : ByteArray) (h : st.es.length ≤ 1024) : (st.step l).es.length ≤ 1024 := by
  unfold PS.step
  split
  · exact h
  · split
    · exact h
    · split
      · exact h
      · simp only [List.length_append, List.length_cons, List.length_nil]
        omega

/-! ### the receives -/
theorem get_eval {T : Array Value} {i : Nat} {v : Value} (h : T[i]? = some v) : (⟨T, []⟩ : Act).eval (.tmp i) = v := by
  simp [Act.eval, h]
def StopR (P : Program) (b c : Nat) (z : Value) (Fin : Goroutine → World → Prop) : List Value → Goroutine → World → Prop
  | [] => RecvN P c z fun g w => Fin (Conc.served g (.tuple #[z, .bool false])) w
  | v :: vs => RecvN P c z fun g w => Recvs P b c z Fin vs (Conc.served g (.tuple #[v, .bool true])) w
theorem recvs_way (P : Program) (b c : Nat) (z : Value) (Fin : Goroutine → World → Prop) (vs : List Value) (g : Goroutine) (w : World) : Recvs P b c z Fin vs g w = Co.Way P true (Rely (Two b c)) (Guar (Two b c)) (StopR P b c z Fin vs) g w := by cases vs <;> rfl

section
variable (w0 : World) (cs : List Frame) (m : Int) (V o cap : Nat) (F : Nat → Option Addr) (C : Nat → Nat)
  (hm : w0.cell? ⟨4, 0, none⟩ = some (.int .i64 m)) (hv : VerbsAt V o cap F C w0) (hgs : Tryd.prog.globals.size ≤ w0.heap.size)
include hm hv hgs

/-- From one receive to the next. -/
theorem recvs_all {b c : Nat} (hb : w0.heap.size ≤ b) (hc : w0.heap.size ≤ c) : ∀ (ls : List ByteArray) (l : ByteArray) (st : PS) (T : Array Value) (p : Nat) (sv : Value) (w : World), l.size ≤ 1048576 → (∀ x ∈ ls, x.size ≤ 1048576) → st.es.length ≤ 1024 →
    PTmps T w0.heap.size p c st → T[18]? = some (.tuple #[.string l, .bool true]) → PMem w w0.heap.size w0.heap.size p st sv → Abv w0.heap.size w0 w → Live b c w →
    Recvs Tryd.prog b c (.string ByteArray.empty) (FinP w0 cs (ls.foldl PS.step (st.step l))) (ls.map .string) (GP T (.inRegion ops8P [1] :: kkP) cs) w := by
  intro ls
  induction ls with
  | nil =>
    intro l st T p sv w hl hls hn hT h18 hM hA hL
    have hB : ∀ k, Two b c k → w0.heap.size ≤ k := fun k hk => by rcases hk with rfl | rfl <;> assumption
    rw [recvs_way]
    obtain ⟨x0 , x1 , x2 , x3 , x4 , x5 , x6 , x7 , x8 , x9 , x10 , x11 , x12 , x13 , x14 , x15 , x16 , x17 , x18 , x19 , x20 , x21 , x22 , x23 , x24 , x25 , x26 , x27 , x28 , x29 , x30 , x31 , x32 , x33 , x34 , x35 , x36 , x37 , x38 , x39 , x40 , x41 , x42 , x43 , x44 , x45 , x46 , x47 , x48 , x49 , x50, rfl⟩ := array51 T hT.size
    obtain ⟨hs_, t2, t5, t6, t7, t17⟩ := hT
    simp only [List.getElem?_toArray, List.getElem?_cons_zero, List.getElem?_cons_succ, Option.some.injEq] at t2 t5 t6 t7 t17 h18
    subst t2 t5 t6 t7 t17 h18
    refine way_pure' (mildR _) ⟨#[x0, x1, .pointer (some ⟨w0.heap.size, 0, none⟩), x3, x4, .pointer (some ⟨p, 0, none⟩), .bool st.first, .bool st.many, x8, x9, x10, x11, x12, x13, x14, x15, x16, .chan (some c), .tuple #[.string l, .bool true], .bool true, x20, x21, x22, x23, x24, x25, x26, x27, x28, x29, x30, x31, x32, x33, x34, x35, x36, x37, x38, x39, x40, x41, x42, x43, x44, x45, x46, x47, x48, x49, x50], []⟩ rfl rfl (by decide) (fun _ _ => rfl) rfl ?_
    refine way_silent (mildR _) rfl (fun _ => stepG_region_end) ?_
    refine way_silent (mildR _) rfl (fun _ => stepG_seq) ?_
    refine way_silent (mildR _) rfl (fun _ => stepG_cond (t := true) rfl) ?_
    refine way_silent (mildR _) rfl (fun _ => stepG_skip) ?_
    refine (lift_code (b := base 15) (a := ⟨#[x0, x1, .pointer (some ⟨w0.heap.size, 0, none⟩), x3, x4, .pointer (some ⟨p, 0, none⟩), .bool st.first, .bool st.many, x8, x9, x10, x11, x12, x13, x14, x15, x16, .chan (some c), .tuple #[.string l, .bool true], .bool true, x20, x21, x22, x23, x24, x25, x26, x27, x28, x29, x30, x31, x32, x33, x34, x35, x36, x37, x38, x39, x40, x41, x42, x43, x44, x45, x46, x47, x48, x49, x50], []⟩) (c := roundP) (ready1 fun k hk => Nat.le_trans hgs (hB k hk)) codes1 true _ cs round_ok rest_brought rfl (wall_veil hL)
      (Q := fun a' v' => ∃ T', a' = ⟨T', []⟩ ∧ PTmps T' w0.heap.size p c (st.step l) ∧ Abv w0.heap.size (wallW b c w) v' ∧ ∃ sv', PMem v' w0.heap.size w0.heap.size p (st.step l) sv') ?_ ?_).then (Rely.refl _) ?_
    · rintro a v t d ⟨T', h1, h2, h3, sv', h4⟩
      exact ⟨T', h1, h2, ⟨h3.os, h3.output, h3.size, h3.block⟩, sv', pmem_same h4 fun _ _ _ _ => rfl⟩
    · intro t d
      have hAv : Abv w0.heap.size w0 ((wallW b c w).on t d) := ⟨hA.os, hA.output, by have := hA.size; simpa [World.on, wallW] using this, fun k hk => (wall_get fun e => by have := hB k e; omega).trans (hA.block k hk)⟩
      have hMv : PMem ((wallW b c w).on t d) w0.heap.size w0.heap.size p st sv := pmem_same hM fun k _ _ hk => wall_get (live_cells hL hk)
      refine Code.wp_mono ?_ (round_wp st l hl hn ((wallW b c w).on t d) w0.heap.size w0.heap.size p c sv m V o cap F C (cell_abv hm hAv) (verbs_abv hv hAv) hMv x0 x1 x3 x4 x8 x9 x10 x11 x12 x13 x14 x15 x16 x20 x21 x22 x23 x24 x25 x26 x27 x28 x29 x30 x31 x32 x33 x34 x35 x36 x37 x38 x39 x40 x41 x42 x43 x44 x45 x46 x47 x48 x49 x50)
      intro e a' w' h
      cases e with
      | normal =>
        obtain ⟨T', h1, h2, h3, h4⟩ := h
        exact ⟨rfl, T', h1, h2, ⟨h3.os, h3.output, h3.size, h3.block⟩, h4⟩
      | _ => exact h.elim
    · rintro g w' ⟨a', v', ⟨T', rfl, hT', hA', sv', hM'⟩, _, rfl, hv'⟩
      have hL' : Live b c w' := veil_live hv'
      have hMw : PMem w' w0.heap.size w0.heap.size p (st.step l) sv' := pmem_same hM' fun k _ _ hk => veil_cells hv' hk
      have hAw : Abv w0.heap.size w0 w' := by
        refine ⟨hv'.os.trans (hA'.os.trans hA.os), hv'.output.trans (hA'.output.trans hA.output), ?_, fun k hk => ?_⟩
        · rw [hv'.size]
          refine Nat.le_trans hA.size (Nat.le_trans ?_ hA'.size)
          simp [wallW]
        · have hnk : ¬ Two b c k := fun e => by have := hB k e; omega
          exact (hv'.same k hnk).trans ((hA'.block k hk).trans ((wall_get hnk).trans (hA.block k hk)))
      refine way_silent (mildR _) rfl (fun _ => stepG_inLoop) ?_
      refine way_silent (mildR _) rfl (fun _ => stepG_seq) ?_
      refine way_silent (mildR _) rfl (fun _ => stepG_region) ?_
      refine Co.Way.stop fun w1 h1 => ⟨⟨rfl, step_recv rfl rfl (by decide) rfl chanU strZ (get_eval hT'.t17) w1⟩, ?_⟩
      have hk1 : ∀ (k : Nat) (cs : Array Value) (t : TypeId), w'.heap[k]? = some (.cells cs t (0, 0)) → w1.heap[k]? = w'.heap[k]? := fun k _ _ hk => h1.same k (live_cells hL' hk)
      show FinP w0 cs (st.step l) (Conc.served (core (GP T' (.inRegion ops8P [0, 1] :: kkP) cs)) _) w1
      rw [served_recv]
      exact ⟨_, p, c, sv', rfl, (hT'.put18 _).1, (hT'.put18 _).2, pmem_same hMw hk1, hAw.rely h1 hB⟩
  | cons l' ls ih =>
    intro l st T p sv w hl hls hn hT h18 hM hA hL
    have hB : ∀ k, Two b c k → w0.heap.size ≤ k := fun k hk => by rcases hk with rfl | rfl <;> assumption
    rw [recvs_way]
    obtain ⟨x0 , x1 , x2 , x3 , x4 , x5 , x6 , x7 , x8 , x9 , x10 , x11 , x12 , x13 , x14 , x15 , x16 , x17 , x18 , x19 , x20 , x21 , x22 , x23 , x24 , x25 , x26 , x27 , x28 , x29 , x30 , x31 , x32 , x33 , x34 , x35 , x36 , x37 , x38 , x39 , x40 , x41 , x42 , x43 , x44 , x45 , x46 , x47 , x48 , x49 , x50, rfl⟩ := array51 T hT.size
    obtain ⟨hs_, t2, t5, t6, t7, t17⟩ := hT
    simp only [List.getElem?_toArray, List.getElem?_cons_zero, List.getElem?_cons_succ, Option.some.injEq] at t2 t5 t6 t7 t17 h18
    subst t2 t5 t6 t7 t17 h18
    refine way_pure' (mildR _) ⟨#[x0, x1, .pointer (some ⟨w0.heap.size, 0, none⟩), x3, x4, .pointer (some ⟨p, 0, none⟩), .bool st.first, .bool st.many, x8, x9, x10, x11, x12, x13, x14, x15, x16, .chan (some c), .tuple #[.string l, .bool true], .bool true, x20, x21, x22, x23, x24, x25, x26, x27, x28, x29, x30, x31, x32, x33, x34, x35, x36, x37, x38, x39, x40, x41, x42, x43, x44, x45, x46, x47, x48, x49, x50], []⟩ rfl rfl (by decide) (fun _ _ => rfl) rfl ?_
    refine way_silent (mildR _) rfl (fun _ => stepG_region_end) ?_
    refine way_silent (mildR _) rfl (fun _ => stepG_seq) ?_
    refine way_silent (mildR _) rfl (fun _ => stepG_cond (t := true) rfl) ?_
    refine way_silent (mildR _) rfl (fun _ => stepG_skip) ?_
    refine (lift_code (b := base 15) (a := ⟨#[x0, x1, .pointer (some ⟨w0.heap.size, 0, none⟩), x3, x4, .pointer (some ⟨p, 0, none⟩), .bool st.first, .bool st.many, x8, x9, x10, x11, x12, x13, x14, x15, x16, .chan (some c), .tuple #[.string l, .bool true], .bool true, x20, x21, x22, x23, x24, x25, x26, x27, x28, x29, x30, x31, x32, x33, x34, x35, x36, x37, x38, x39, x40, x41, x42, x43, x44, x45, x46, x47, x48, x49, x50], []⟩) (c := roundP) (ready1 fun k hk => Nat.le_trans hgs (hB k hk)) codes1 true _ cs round_ok rest_brought rfl (wall_veil hL)
      (Q := fun a' v' => ∃ T', a' = ⟨T', []⟩ ∧ PTmps T' w0.heap.size p c (st.step l) ∧ Abv w0.heap.size (wallW b c w) v' ∧ ∃ sv', PMem v' w0.heap.size w0.heap.size p (st.step l) sv') ?_ ?_).then (Rely.refl _) ?_
    · rintro a v t d ⟨T', h1, h2, h3, sv', h4⟩
      exact ⟨T', h1, h2, ⟨h3.os, h3.output, h3.size, h3.block⟩, sv', pmem_same h4 fun _ _ _ _ => rfl⟩
    · intro t d
      have hAv : Abv w0.heap.size w0 ((wallW b c w).on t d) := ⟨hA.os, hA.output, by have := hA.size; simpa [World.on, wallW] using this, fun k hk => (wall_get fun e => by have := hB k e; omega).trans (hA.block k hk)⟩
      have hMv : PMem ((wallW b c w).on t d) w0.heap.size w0.heap.size p st sv := pmem_same hM fun k _ _ hk => wall_get (live_cells hL hk)
      refine Code.wp_mono ?_ (round_wp st l hl hn ((wallW b c w).on t d) w0.heap.size w0.heap.size p c sv m V o cap F C (cell_abv hm hAv) (verbs_abv hv hAv) hMv x0 x1 x3 x4 x8 x9 x10 x11 x12 x13 x14 x15 x16 x20 x21 x22 x23 x24 x25 x26 x27 x28 x29 x30 x31 x32 x33 x34 x35 x36 x37 x38 x39 x40 x41 x42 x43 x44 x45 x46 x47 x48 x49 x50)
      intro e a' w' h
      cases e with
      | normal =>
        obtain ⟨T', h1, h2, h3, h4⟩ := h
        exact ⟨rfl, T', h1, h2, ⟨h3.os, h3.output, h3.size, h3.block⟩, h4⟩
      | _ => exact h.elim
    · rintro g w' ⟨a', v', ⟨T', rfl, hT', hA', sv', hM'⟩, _, rfl, hv'⟩
      have hL' : Live b c w' := veil_live hv'
      have hMw : PMem w' w0.heap.size w0.heap.size p (st.step l) sv' := pmem_same hM' fun k _ _ hk => veil_cells hv' hk
      have hAw : Abv w0.heap.size w0 w' := by
        refine ⟨hv'.os.trans (hA'.os.trans hA.os), hv'.output.trans (hA'.output.trans hA.output), ?_, fun k hk => ?_⟩
        · rw [hv'.size]
          refine Nat.le_trans hA.size (Nat.le_trans ?_ hA'.size)
          simp [wallW]
        · have hnk : ¬ Two b c k := fun e => by have := hB k e; omega
          exact (hv'.same k hnk).trans ((hA'.block k hk).trans ((wall_get hnk).trans (hA.block k hk)))
      refine way_silent (mildR _) rfl (fun _ => stepG_inLoop) ?_
      refine way_silent (mildR _) rfl (fun _ => stepG_seq) ?_
      refine way_silent (mildR _) rfl (fun _ => stepG_region) ?_
      refine Co.Way.stop fun w1 h1 => ⟨⟨rfl, step_recv rfl rfl (by decide) rfl chanU strZ (get_eval hT'.t17) w1⟩, ?_⟩
      have hk1 : ∀ (k : Nat) (cs : Array Value) (t : TypeId), w'.heap[k]? = some (.cells cs t (0, 0)) → w1.heap[k]? = w'.heap[k]? := fun k _ _ hk => h1.same k (live_cells hL' hk)
      show Recvs Tryd.prog b c _ _ (ls.map .string) (Conc.served (core (GP T' (.inRegion ops8P [0, 1] :: kkP) cs)) _) w1
      rw [served_recv]
      exact ih l' (st.step l) _ p sv' w1 (hls l' List.mem_cons_self) (fun x hx => hls x (List.mem_cons_of_mem _ hx)) (step_len l hn) (hT'.put18 _).1 (hT'.put18 _).2 (pmem_same hMw hk1) (hAw.rely h1 hB) (hL'.rely h1)
end
end Go.Proofs.YtbjkljmhhpoooaaDoor
