/-
  THE LIBRARY OF THE OPERATIONS IS WELL BEHAVED: its everyday words.
-/
import GoSem.Step

/-
  ONE GOROUTINE's OPERATIONS, IN A WORLD OF WHICH SOME BLOCKS ARE OTHERS': a computation that is well behaved ('Loc') and that goes through in the world in which those blocks are walled off goes through alike in the true world: it touches none of them, and looks at the tape only at the places that it draws.
-/
namespace Go.Co

/-- What stands in the place of another's block: a view of itself: every load, store and look fails at it. -/
abbrev poison (k : Nat) : Obj := .view ⟨k, 0, none⟩ 0

/-- The blocks of 'B' are walled off in 'v'. -/
def Masked (B : Nat → Prop) (v : World) : Prop := ∀ k, B k → v.heap[k]? = some (poison k)

/-- The true world 'w' and the walled one 'v'. -/
structure Veil (B : Nat → Prop) (w v : World) : Prop where
  size : w.heap.size = v.heap.size
  same : ∀ k, ¬ B k → w.heap[k]? = v.heap[k]?
  mask : Masked B v
  dull : ∀ k, B k → ∀ c e f, w.heap[k]? ≠ some (.cells c e f)
  os : w.os = v.os
  output : w.output = v.output

/-- The tapes answer alike at the next 'n' draws. -/
def Agree (w v : World) (n : Nat) : Prop := ∀ j, j < n → w.tape (w.drawn + j) = v.tape (v.drawn + j)

structure After (B : Nat → Prop) (v v1 : World) : Prop where
  tape : v1.tape = v.tape
  drawn : v.drawn ≤ v1.drawn
  mask : Masked B v1
  size : v.heap.size ≤ v1.heap.size

structure Kin (B : Nat → Prop) (w w1 v v1 : World) : Prop where
  veil : Veil B w1 v1
  tape : w1.tape = w.tape
  drawn : w1.drawn = w.drawn + (v1.drawn - v.drawn)
  keep : ∀ k, B k → w1.heap[k]? = w.heap[k]?

/-- A mark that is no word between goroutines. -/
def okMark : Mark → Prop
  | .noRoom => True
  | .extern _ => True
  | _ => False

/-- What may be listed. -/
def Fine (B : Nat → Prop) (e : Event) : Prop :=
  match e.loc with
  | .cell a => ¬ B a.block ∧ e.sync = false
  | .obj r => ¬ B r
  | .mark m => okMark m
  | .output => True
  | _ => False

/-- Ends of which nothing is said. -/
def lost : Halt → Prop
  | .stuck _ => True
  | .unsupported _ => True
  | _ => False

/-- Ends that may be met. -/
def okHalt : Halt → Prop
  | .panic _ => True
  | h => lost h

def Result.world' {α : Type} : Result α → World
  | .ok _ w => w
  | .halt _ w => w

def Result.put' {α : Type} : Result α → World → Result α
  | .ok a _, w => .ok a w
  | .halt h _, w => .halt h w

def Lost {α : Type} : Result α → Prop
  | .halt h _ => lost h
  | _ => False

def Leaf {α : Type} (Q : α → Prop) : Result α → Prop
  | .ok a _ => Q a
  | .halt h _ => okHalt h

/-- A computation that is well behaved. -/
structure Loc (P : Program) (B : Nat → Prop) {α : Type} (Q : α → Prop) (s : Sem α) : Prop where
  out : ∀ (v : World) (es : Array Event), Masked B v → Lost (s.runT P v es).1 ∨
    (Leaf Q (s.runT P v es).1 ∧ After B v (Result.world' (s.runT P v es).1) ∧ (∀ e ∈ (s.runT P v es).2, e ∈ es ∨ Fine B e) ∧
      ∀ w, Veil B w v → Agree w v ((Result.world' (s.runT P v es).1).drawn - v.drawn) →
        ∃ w1, s.runT P w es = (Result.put' (s.runT P v es).1 w1, (s.runT P v es).2) ∧ Kin B w w1 v (Result.world' (s.runT P v es).1))

/-- In the walled world it comes to nothing. -/
structure Dead (P : Program) (B : Nat → Prop) {α : Type} (s : Sem α) : Prop where
  out : ∀ (v : World) (es : Array Event), Masked B v → Lost (s.runT P v es).1

section
variable {P : Program} {B : Nat → Prop}

theorem After.refl {v : World} (h : Masked B v) : After B v v := ⟨rfl, Nat.le_refl _, h, Nat.le_refl _⟩
theorem After.trans {v v1 v2 : World} (h : After B v v1) (k : After B v1 v2) : After B v v2 :=
  ⟨k.tape.trans h.tape, Nat.le_trans h.drawn k.drawn, k.mask, Nat.le_trans h.size k.size⟩
theorem Kin.refl {w v : World} (h : Veil B w v) : Kin B w w v v := ⟨h, rfl, by omega, fun _ _ => rfl⟩
theorem Kin.trans {w w1 w2 v v1 v2 : World} (hv : v.drawn ≤ v1.drawn) (hv2 : v1.drawn ≤ v2.drawn) (h : Kin B w w1 v v1) (k : Kin B w1 w2 v1 v2) : Kin B w w2 v v2 :=
  ⟨k.veil, k.tape.trans h.tape, by rw [k.drawn, h.drawn]; omega, fun i hi => (k.keep i hi).trans (h.keep i hi)⟩

theorem Agree.first {w v : World} {n m : Nat} (h : Agree w v n) (hm : m ≤ n) : Agree w v m := fun j hj => h j (by omega)
theorem Agree.rest {w w1 v v1 : World} {n : Nat} (h : Agree w v (n - v.drawn)) (hw : w1.tape = w.tape) (hd : w1.drawn = w.drawn + (v1.drawn - v.drawn)) (hv : v1.tape = v.tape) (hle : v.drawn ≤ v1.drawn) :
    Agree w1 v1 (n - v1.drawn) := by
  intro j hj
  rw [hw, hv, hd]
  have := h ((v1.drawn - v.drawn) + j) (by omega)
  rw [show w.drawn + (v1.drawn - v.drawn) + j = w.drawn + ((v1.drawn - v.drawn) + j) by omega, this]
  congr 1
  omega

theorem Loc.of_dead {α : Type} {Q : α → Prop} {s : Sem α} (h : Dead P B s) : Loc P B Q s := ⟨fun v es hm => .inl (h.out v es hm)⟩

theorem Loc.pure {α : Type} {Q : α → Prop} {a : α} (h : Q a) : Loc P B Q (Pure.pure a : Sem α) :=
  ⟨fun _ _ hm => .inr ⟨h, .refl hm, fun _ he => .inl he, fun w hv _ => ⟨w, rfl, .refl hv⟩⟩⟩

theorem Loc.halt {α : Type} {Q : α → Prop} {h : Halt} (hh : okHalt h) : Loc P B Q (Sem.halt h : Sem α) :=
  ⟨fun _ _ hm => .inr ⟨hh, .refl hm, fun _ he => .inl he, fun w hv _ => ⟨w, rfl, .refl hv⟩⟩⟩

theorem Dead.halt {α : Type} {h : Halt} (hh : lost h) : Dead P B (Sem.halt h : Sem α) := ⟨fun _ _ _ => hh⟩

theorem runT_bind_eq {α β : Type} (x : Sem α) (f : α → Sem β) (w : World) (es : Array Event) :
    (x >>= f).runT P w es = match x.runT P w es with
      | (.ok a w1, es1) => (f a).runT P w1 es1
      | (.halt h w1, es1) => (.halt h w1, es1) := by
  show (Sem.bind x f).runT P w es = _
  induction x generalizing w es with
  | pure a => rfl
  | load m a k ih =>
    simp only [Sem.bind, Sem.runT]
    cases w.cell? a with
    | some v => exact ih v w _
    | none => cases hf : w.farLoad P a (m == .atomic) with
      | ok r => exact ih r.1 w _
      | error h => rfl
  | store m a v k ih =>
    have aux : ∀ v' : Value, (∀ c, v' ≠ .agg c) → (∀ c, v' ≠ .tuple c) → ((Sem.store m a v' (k.bind f)).runT P w es = match (Sem.store m a v' k).runT P w es with
      | (.ok a w1, es1) => (f a).runT P w1 es1
      | (.halt h w1, es1) => (.halt h w1, es1)) := by
      intro v' h1 h2
      have e : ∀ {γ : Type} (k' : Sem γ), (Sem.store m a v' k').runT P w es = (match w.cell? a with
          | some _ => if w.frozen? a then (.halt (.unsupported (.unsafePointer "a write to bytes that a string shares")) w, es) else k'.runT P (w.setCell a v') (es.push ⟨.cell a, true, m == .atomic⟩)
          | none => match w.farStore P a v' (m == .atomic) with
            | .ok (w, touched) => k'.runT P w (es ++ touched.toArray.map (⟨.cell ·, true, m == .atomic⟩))
            | .error h => (.halt h w, es)) := by
        intro γ k'
        cases v' <;> first | rfl | exact absurd rfl (h1 _) | exact absurd rfl (h2 _)
      rw [e, e]
      cases w.cell? a with
      | some _ =>
        simp only
        split
        · rfl
        · exact ih _ _
      | none =>
        simp only
        cases hf : w.farStore P a v' (m == .atomic) with
        | ok r => exact ih r.1 _
        | error h => rfl
    cases v with
    | agg c => rfl
    | tuple c => rfl
    | _ => exact aux _ (by intro c; simp) (by intro c; simp)
  | new o k ih => exact ih _ _ _
  | shape r k ih => exact ih _ _ _
  | freeze a n k ih => exact ih _ _
  | frozen a k ih => exact ih _ _ _
  | getObj r k ih =>
    simp only [Sem.bind, Sem.runT]
    cases h : w.heap[r]? with
    | none => rfl
    | some o => cases o <;> first | rfl | exact ih _ _ _
  | setObj r o k ih =>
    simp only [Sem.bind, Sem.runT]
    cases h : w.heap[r]? with
    | none => rfl
    | some o' => cases o' <;> first | rfl | exact ih _ _
  | choose q k ih =>
    simp only [Sem.bind, Sem.runT]
    split
    · exact ih _ _ _
    · exact ih _ _ _
  | sys c k ih => exact ih _ _ _
  | program k ih => exact ih _ _ _
  | mark m k ih => exact ih _ _
  | halt h => rfl

theorem Loc.bind {α β : Type} {Q' : α → Prop} {Q : β → Prop} {s : Sem α} {f : α → Sem β} (hs : Loc P B Q' s) (hf : ∀ a, Q' a → Loc P B Q (f a)) : Loc P B Q (s >>= f) := by
  refine ⟨fun v es hm => ?_⟩
  have h1 := hs.out v es hm
  rw [runT_bind_eq]
  rcases hr : s.runT P v es with ⟨r, es1⟩
  rw [hr] at h1
  cases r with
  | halt h v1 =>
    rcases h1 with h1 | ⟨hl, ha, he, hw⟩
    · exact .inl h1
    · refine .inr ⟨hl, ha, he, fun w hv hag => ?_⟩
      obtain ⟨w1, e1, k1⟩ := hw w hv hag
      refine ⟨w1, ?_, k1⟩
      rw [runT_bind_eq, e1]
      rfl
  | ok a v1 =>
    rcases h1 with h1 | ⟨hl, ha, he, hw⟩
    · exact h1.elim
    · have h2 := (hf a hl).out v1 es1 ha.mask
      simp only
      rcases h2 with h2 | ⟨hl2, ha2, he2, hw2⟩
      · exact .inl h2
      · refine .inr ⟨hl2, ha.trans ha2, fun e hx => ?_, fun w hv hag => ?_⟩
        · rcases he2 e hx with h | h
          · exact he e h
          · exact .inr h
        · have hle := ha2.drawn
          have hle1 := ha.drawn
          simp only [Result.world'] at hle1 hle ha ha2
          obtain ⟨w1, e1, k1⟩ := hw w hv (hag.first (by simp only [Result.world']; omega))
          simp only [Result.world', Result.put'] at e1 k1
          obtain ⟨w2, e2, k2⟩ := hw2 w1 k1.veil (Agree.rest hag k1.tape k1.drawn ha.tape hle1)
          refine ⟨w2, ?_, k1.trans hle1 hle k2⟩
          rw [runT_bind_eq, e1]
          exact e2

theorem Dead.bind {α β : Type} {s : Sem α} {f : α → Sem β} (hs : Dead P B s) : Dead P B (s >>= f) := by
  refine ⟨fun v es hm => ?_⟩
  have h1 := hs.out v es hm
  rw [runT_bind_eq]
  rcases hr : s.runT P v es with ⟨r, es1⟩
  rw [hr] at h1
  cases r with
  | halt h v1 => exact h1
  | ok a v1 => exact h1.elim

theorem Loc.mono {α : Type} {Q Q' : α → Prop} {s : Sem α} (h : Loc P B Q s) (hq : ∀ a, Q a → Q' a) : Loc P B Q' s := by
  refine ⟨fun v es hm => ?_⟩
  rcases h.out v es hm with h1 | ⟨hl, hr⟩
  · exact .inl h1
  · refine .inr ⟨?_, hr⟩
    revert hl
    cases (s.runT P v es).1 with
    | ok a w => exact hq a
    | halt h w => exact id

end
end Go.Co

/-
  THE SINGLE LOOKS AT THE WORLD ARE WELL BEHAVED.
-/
namespace Go.Co

section
variable {P : Program} {B : Nat → Prop}

theorem Veil.lt {w v : World} (h : Veil B w v) {k : Nat} (hk : B k) : k < v.heap.size := by
  have := h.mask k hk
  rcases Nat.lt_or_ge k v.heap.size with h' | h'
  · exact h'
  · rw [Array.getElem?_eq_none h'] at this; cases this

theorem Masked.cell? {v : World} (hm : Masked B v) {a : Addr} (hb : B a.block) : v.cell? a = none := by
  unfold World.cell?; rw [hm _ hb]

theorem Veil.cell? {w v : World} (h : Veil B w v) {a : Addr} (hb : ¬ B a.block) : w.cell? a = v.cell? a := by
  unfold World.cell?; rw [h.same _ hb]

theorem seen_cells {p : Program} {w : World} {at_ : Addr} {u : TypeId} {k : Addr} {m : Bool} {r : Array Value × TypeId × (Nat × Nat) × Nat × Value × List (Nat × Nat × List UInt8)}
    (h : w.seen p at_ u k m = .ok r) : ∃ c e f, w.heap[at_.block]? = some (.cells c e f) := by
  unfold World.seen at h
  by_cases h0 : (k.spot.isSome || at_.spot.isSome) = true
  · simp only [h0, if_true] at h; cases h
  · simp only [h0] at h
    cases h1 : plainCell p p.depth u k.off with
    | none => simp [h1] at h
    | some like =>
      cases h2 : like.bytes?.map (·.length) with
      | none => simp [h1, h2] at h
      | some size =>
        cases h3 : byteOfCell p p.depth u k.off with
        | none => simp [h1, h2, h3] at h
        | some β =>
          cases h4 : w.heap[at_.block]? with
          | none => simp [h1, h2, h3, h4] at h
          | some o =>
            cases o with
            | cells c e f => exact ⟨c, e, f, rfl⟩
            | _ => simp [h1, h2, h3, h4] at h

theorem viewLoad_cells {p : Program} {w : World} {at_ : Addr} {u : TypeId} {k : Addr} {m : Bool} {r : Value × List Addr} (h : w.viewLoad p at_ u k m = .ok r) :
    (∃ c e f, w.heap[at_.block]? = some (.cells c e f)) ∧ ∀ x ∈ r.2, x.block = at_.block := by
  unfold World.viewLoad at h
  cases hs : w.seen p at_ u k m with
  | error e => rw [hs] at h; cases h
  | ok q =>
    refine ⟨seen_cells hs, ?_⟩
    obtain ⟨c, e, f, first, like, cells⟩ := q
    simp only [hs, bind, Except.bind] at h
    split at h
    · cases h
      intro x hx
      simp at hx
      obtain ⟨i, ⟨_, _, _⟩, rfl⟩ := hx
      rfl
    · cases h

theorem farLoad_ok {p : Program} {w : World} {a : Addr} {m : Bool} {r : Value × List Addr} (h : w.farLoad p a m = .ok r) :
    ∃ at_ u, w.heap[a.block]? = some (.view at_ u) ∧ w.viewLoad p at_ u a m = .ok r := by
  unfold World.farLoad at h
  cases ho : w.heap[a.block]? with
  | none => simp [ho] at h
  | some o =>
    cases o with
    | view at_ u =>
      refine ⟨at_, u, rfl, ?_⟩
      simp only [ho] at h
      cases hv : w.viewLoad p at_ u a m with
      | ok q => rw [hv] at h; simpa using h
      | error e => rw [hv] at h; cases h
    | _ => simp [ho] at h

theorem seen_same {p : Program} {w v : World} {at_ : Addr} {u : TypeId} {k : Addr} {m : Bool} (h : w.heap[at_.block]? = v.heap[at_.block]?) : w.seen p at_ u k m = v.seen p at_ u k m := by
  unfold World.seen; rw [h]

theorem viewLoad_same {p : Program} {w v : World} {at_ : Addr} {u : TypeId} {k : Addr} {m : Bool} (h : w.heap[at_.block]? = v.heap[at_.block]?) : w.viewLoad p at_ u k m = v.viewLoad p at_ u k m := by
  unfold World.viewLoad; rw [seen_same h]

theorem not_B_of_cells {v : World} (hm : Masked B v) {k : Nat} {c : Array Value} {e : TypeId} {f : Nat × Nat} (h : v.heap[k]? = some (.cells c e f)) : ¬ B k := by
  intro hb; rw [hm _ hb] at h; cases h

theorem farLoad_error {p : Program} {w : World} {a : Addr} {m : Bool} {h : Halt} (e : w.farLoad p a m = .error h) : lost h := by
  have hn : ∀ s, lost (w.noCell a s) := by
    intro s
    unfold World.noCell
    split <;> trivial
  unfold World.farLoad at e
  split at e
  · split at e
    · cases e
    · cases e; trivial
  · cases e; exact hn _

theorem farStore_error {p : Program} {w : World} {a : Addr} {x : Value} {m : Bool} {h : Halt} (e : w.farStore p a x m = .error h) : lost h := by
  have hn : ∀ s, lost (w.noCell a s) := by
    intro s
    unfold World.noCell
    split <;> trivial
  unfold World.farStore at e
  split at e
  · split at e
    · cases e
    · cases e; trivial
  · cases e; exact hn _

theorem Loc.load (a : Addr) : Loc P B (fun _ => True) (Go.load a) := by
  refine ⟨fun v es hm => ?_⟩
  show Lost ((Sem.load .plain a Sem.pure).runT P v es).1 ∨ _
  simp only [Go.load, Sem.runT]
  cases hc : v.cell? a with
  | some x =>
    have hb : ¬ B a.block := fun hb => by rw [hm.cell? hb] at hc; cases hc
    refine .inr ⟨trivial, .refl hm, fun e he => ?_, fun w hv _ => ⟨w, ?_, .refl hv⟩⟩
    · rcases Array.mem_push.1 he with h | rfl
      · exact .inl h
      · exact .inr ⟨hb, rfl⟩
    · rw [hv.cell? hb, hc]; rfl
  | none =>
    simp only
    cases hf : v.farLoad P a (Mode.plain == .atomic) with
    | error h => exact .inl (farLoad_error hf)
    | ok r =>
      obtain ⟨at_, u, hvw, hl⟩ := farLoad_ok hf
      obtain ⟨⟨c, e, f, hce⟩, ht⟩ := viewLoad_cells hl
      have hb2 : ¬ B at_.block := not_B_of_cells hm hce
      have hb : ¬ B a.block := fun hb => by
        rw [hm _ hb] at hvw
        cases hvw
        rw [hm _ hb] at hce
        cases hce
      refine .inr ⟨trivial, .refl hm, fun e he => ?_, fun w hv _ => ⟨w, ?_, .refl hv⟩⟩
      · rcases Array.mem_append.1 he with h | h
        · exact .inl h
        · refine .inr ?_
          simp at h
          obtain ⟨x, hx, rfl⟩ := h
          exact ⟨by rw [ht x hx]; exact hb2, rfl⟩
      · have e1 : w.cell? a = none := by rw [hv.cell? hb, hc]
        have e2 : w.farLoad P a (Mode.plain == .atomic) = .ok r := by
          unfold World.farLoad
          rw [hv.same _ hb, hvw]
          simp only
          rw [viewLoad_same (hv.same _ hb2), hl]
        rw [e1]; simp only; rw [e2]; rfl

theorem Veil.at {w v : World} (h : Veil B w v) {w' v' : World} (e1 : w'.heap = w.heap) (e2 : v'.heap = v.heap) (o1 : w'.os = w.os) (o2 : v'.os = v.os) (p1 : w'.output = w.output) (p2 : v'.output = v.output) : Veil B w' v' :=
  ⟨by rw [e1, e2]; exact h.size, fun k hk => by rw [e1, e2]; exact h.same k hk, fun k hk => by rw [e2]; exact h.mask k hk, fun k hk => by rw [e1]; exact h.dull k hk, by rw [o1, o2]; exact h.os, by rw [p1, p2]; exact h.output⟩

theorem Veil.put {w v : World} (h : Veil B w v) {r : Nat} (hr : ¬ B r) (o : Obj) : Veil B { w with heap := w.heap.setIfInBounds r o } { v with heap := v.heap.setIfInBounds r o } := by
  refine ⟨by simp [h.size], fun k hk => ?_, fun k hk => ?_, fun k hk => ?_, h.os, h.output⟩
  · simp only [Array.getElem?_setIfInBounds, h.size, h.same k hk]
  · have : r ≠ k := fun e => hr (e ▸ hk)
    rw [Array.getElem?_setIfInBounds_ne this]; exact h.mask k hk
  · have : r ≠ k := fun e => hr (e ▸ hk)
    rw [Array.getElem?_setIfInBounds_ne this]; exact h.dull k hk

theorem Veil.push {w v : World} (h : Veil B w v) (o : Obj) : Veil B { w with heap := w.heap.push o } { v with heap := v.heap.push o } := by
  refine ⟨by simp [h.size], fun k hk => ?_, fun k hk => ?_, fun k hk => ?_, h.os, h.output⟩
  · simp only [Array.getElem?_push, h.size, h.same k hk]
  · have := h.lt hk
    simp only [Array.getElem?_push]
    rw [if_neg (by omega)]
    exact h.mask k hk
  · have := h.lt hk
    simp only [Array.getElem?_push]
    rw [if_neg (by rw [h.size]; omega)]
    exact h.dull k hk

theorem Veil.modify {w v : World} (h : Veil B w v) {r : Nat} (hr : ¬ B r) (f : Obj → Obj) : Veil B { w with heap := w.heap.modify r f } { v with heap := v.heap.modify r f } := by
  refine ⟨by simp [h.size], fun k hk => ?_, fun k hk => ?_, fun k hk => ?_, h.os, h.output⟩
  · simp only [Array.getElem?_modify, h.same k hk]
  · have : r ≠ k := fun e => hr (e ▸ hk)
    simp only [Array.getElem?_modify, if_neg this]; exact h.mask k hk
  · have : r ≠ k := fun e => hr (e ▸ hk)
    simp only [Array.getElem?_modify, if_neg this]; exact h.dull k hk

theorem keep_put {w : World} {r : Nat} (hr : ¬ B r) (o : Obj) : ∀ k, B k → ({ w with heap := w.heap.setIfInBounds r o } : World).heap[k]? = w.heap[k]? := by
  intro k hk
  have : r ≠ k := fun e => hr (e ▸ hk)
  simp [Array.getElem?_setIfInBounds_ne this]

theorem keep_modify {w : World} {r : Nat} (hr : ¬ B r) (f : Obj → Obj) : ∀ k, B k → ({ w with heap := w.heap.modify r f } : World).heap[k]? = w.heap[k]? := by
  intro k hk
  have : r ≠ k := fun e => hr (e ▸ hk)
  simp [Array.getElem?_modify, this]

theorem Masked.put {v : World} (hm : Masked B v) {r : Nat} (hr : ¬ B r) (o : Obj) : Masked B { v with heap := v.heap.setIfInBounds r o } := by
  intro k hk
  have : r ≠ k := fun e => hr (e ▸ hk)
  simp only [Array.getElem?_setIfInBounds_ne this]; exact hm k hk

theorem Masked.modify {v : World} (hm : Masked B v) {r : Nat} (hr : ¬ B r) (f : Obj → Obj) : Masked B { v with heap := v.heap.modify r f } := by
  intro k hk
  have : r ≠ k := fun e => hr (e ▸ hk)
  simp only [Array.getElem?_modify, if_neg this]; exact hm k hk

theorem setCell_put (a : Addr) (x : Value) : ∃ f, ∀ w' : World, w'.setCell a x = { w' with heap := w'.heap.modify a.block f } := ⟨_, fun _ => rfl⟩

theorem viewStore_ok {p : Program} {w : World} {at_ : Addr} {u : TypeId} {k : Addr} {x : Value} {m : Bool} {r : World × List Addr} (h : w.viewStore p at_ u k x m = .ok r) :
    (∃ c e f, w.heap[at_.block]? = some (.cells c e f)) ∧ (∀ y ∈ r.2, y.block = at_.block) ∧
      ∃ o, ∀ w' : World, w'.heap[at_.block]? = w.heap[at_.block]? → w'.viewStore p at_ u k x m = .ok ({ w' with heap := w'.heap.setIfInBounds at_.block o }, r.2) ∧ r.1 = { w with heap := w.heap.setIfInBounds at_.block o } := by
  have h0 := h
  unfold World.viewStore at h
  by_cases ht : (!tight p p.depth u) = true
  · simp only [ht, if_true] at h; cases h
  · simp only [ht] at h
    cases hs : w.seen p at_ u k m with
    | error e => rw [hs] at h; cases h
    | ok q =>
      obtain ⟨c, e, f, first, like, cells⟩ := q
      refine ⟨seen_cells hs, ?_⟩
      simp only [hs, bind, Except.bind] at h
      cases hb : x.bytes? with
      | none => simp [hb] at h
      | some bytes =>
        simp only [hb] at h
        by_cases hl : some bytes.length ≠ like.bytes?.map (·.length)
        · simp only [hl, if_true, not_false_iff, ne_eq] at h; cases h
        · simp only [hl] at h
          simp only [ite_false, Bool.false_eq_true, pure, Except.pure] at h
          split at h
          · cases h
          · rename_i c' hc'
            cases h
            refine ⟨fun y hy => ?_, .cells c' e f, fun w' hw' => ⟨?_, rfl⟩⟩
            · simp at hy
              obtain ⟨i, ⟨_, _, _⟩, rfl⟩ := hy
              rfl
            · unfold World.viewStore
              simp only [ht, seen_same hw', hs, bind, Except.bind, hb, hl]
              simp only [ite_false, Bool.false_eq_true, pure, Except.pure, hc']


theorem Masked.far {v : World} (hm : Masked B v) {a at_ : Addr} {u : TypeId} (h : v.heap[a.block]? = some (.view at_ u)) (hc : ∃ c e f, v.heap[at_.block]? = some (.cells c e f)) : ¬ B a.block ∧ ¬ B at_.block := by
  obtain ⟨c, e, f, hce⟩ := hc
  refine ⟨fun hb => ?_, not_B_of_cells hm hce⟩
  rw [hm _ hb] at h
  cases h
  rw [hm _ hb] at hce
  cases hce

theorem Loc.store (a : Addr) (x : Value) : Loc P B (fun _ => True) (Go.store a x) := by
  have main : (∀ c, x ≠ .agg c) → (∀ c, x ≠ .tuple c) → Loc P B (fun _ => True) (Go.store a x) := by
    intro h1 h2
    refine ⟨fun v es hm => ?_⟩
    have e : ∀ w es, (Go.store a x).runT P w es = (match w.cell? a with
          | some _ => if w.frozen? a then (.halt (.unsupported (.unsafePointer "a write to bytes that a string shares")) w, es) else (.ok () (w.setCell a x), es.push ⟨.cell a, true, false⟩)
          | none => match w.farStore P a x false with
            | .ok (w, touched) => (.ok () w, es ++ touched.toArray.map (⟨.cell ·, true, false⟩))
            | .error h => (.halt h w, es)) := by
      intro w es
      cases x <;> first | rfl | exact absurd rfl (h1 _) | exact absurd rfl (h2 _)
    rw [e]
    cases hc : v.cell? a with
    | some y =>
      have hb : ¬ B a.block := fun hb => by rw [hm.cell? hb] at hc; cases hc
      simp only
      by_cases hf : v.frozen? a = true
      · rw [if_pos hf]; exact .inl trivial
      · rw [if_neg hf]
        obtain ⟨f, hf'⟩ := setCell_put a x
        refine .inr ⟨trivial, ⟨rfl, Nat.le_refl _, ?_, by simp [Result.world', hf']⟩, fun e he => ?_, fun w hv _ => ⟨w.setCell a x, ?_, ?_⟩⟩
        · simp only [Result.world', hf']; exact hm.modify hb f
        · rcases Array.mem_push.1 he with h | rfl
          · exact .inl h
          · exact .inr ⟨hb, rfl⟩
        · rw [e, hv.cell? hb, hc]
          have : w.frozen? a = v.frozen? a := by unfold World.frozen?; rw [hv.same _ hb]
          simp only [this, if_neg hf, Result.put']
        · refine ⟨?_, rfl, ?_, ?_⟩
          · simp only [Result.world', hf']; exact hv.modify hb f
          · simp only [Result.world', hf']; omega
          · rw [hf']; exact keep_modify hb f
    | none =>
      simp only
      cases hf : v.farStore P a x false with
      | error h => exact .inl (farStore_error hf)
      | ok r =>
        have hf0 := hf
        unfold World.farStore at hf
        cases ho : v.heap[a.block]? with
        | none => simp [ho] at hf
        | some o =>
          cases o with
          | view at_ u =>
            simp only [ho] at hf
            cases hv : v.viewStore P at_ u a x false with
            | error e => rw [hv] at hf; cases hf
            | ok q =>
              rw [hv] at hf
              have hf := Except.ok.inj hf
              subst hf
              obtain ⟨hcells, ht, o, ho'⟩ := viewStore_ok hv
              obtain ⟨hb, hb2⟩ := hm.far ho hcells
              have hr := (ho' v rfl).2
              refine .inr ⟨trivial, ⟨by simp only [Result.world', hr], by simp only [Result.world', hr]; omega, by simp only [Result.world', hr]; exact hm.put hb2 o, by simp [Result.world', hr]⟩, fun e he => ?_, fun w hv' _ => ⟨{ w with heap := w.heap.setIfInBounds at_.block o }, ?_, ?_⟩⟩
              · rcases Array.mem_append.1 he with h | h
                · exact .inl h
                · refine .inr ?_
                  simp at h
                  obtain ⟨y, hy, rfl⟩ := h
                  exact ⟨by rw [ht y hy]; exact hb2, rfl⟩
              · have e1 : w.cell? a = none := by rw [hv'.cell? hb, hc]
                have e2 : w.farStore P a x false = .ok ({ w with heap := w.heap.setIfInBounds at_.block o }, q.2) := by
                  unfold World.farStore
                  rw [hv'.same _ hb, ho]
                  simp only
                  rw [(ho' w (hv'.same _ hb2)).1]
                rw [e, e1]; simp only; rw [e2]; rfl
              · refine ⟨?_, rfl, ?_, keep_put hb2 o⟩
                · simp only [Result.world', hr]; exact hv'.put hb2 o
                · simp only [Result.world', hr]; omega
          | _ => simp [ho] at hf
  cases x with
  | agg c => exact ⟨fun v es hm => .inl trivial⟩
  | tuple c => exact ⟨fun v es hm => .inl trivial⟩
  | _ => exact main (by intro c; simp) (by intro c; simp)

theorem Masked.push {v : World} (hm : Masked B v) (o : Obj) : Masked B { v with heap := v.heap.push o } := by
  intro k hk
  have h := hm k hk
  have : k < v.heap.size := by
    rcases Nat.lt_or_ge k v.heap.size with h' | h'
    · exact h'
    · rw [Array.getElem?_eq_none h'] at h; cases h
  simp only [Array.getElem?_push]
  rw [if_neg (by omega)]
  exact h

theorem Loc.newObj (o : Obj) : Loc P B (fun r => ¬ B r) (Go.newObj o) := by
  refine ⟨fun v es hm => ?_⟩
  refine .inr ⟨fun hb => ?_, ⟨rfl, Nat.le_refl _, hm.push o, ?_⟩, fun e he => .inl he, fun w hv _ => ⟨{ w with heap := w.heap.push o }, ?_, ?_⟩⟩
  · have := hm _ hb
    simp at this
  · show v.heap.size ≤ (v.heap.push o).size
    simp
  · simp only [Go.newObj, Sem.runT, hv.size, Result.put']
  · refine ⟨hv.push o, rfl, ?_, fun k hk => ?_⟩
    · show w.drawn = w.drawn + (v.drawn - v.drawn)
      omega
    · have := hv.lt hk
      simp only [Array.getElem?_push]
      rw [if_neg (by rw [hv.size]; omega)]

theorem Veil.shape? {w v : World} (h : Veil B w v) (k : Nat) : w.shape? k = v.shape? k := by
  unfold World.shape?
  by_cases hk : B k
  · rw [h.mask k hk]
    have := h.dull k hk
    split
    · rename_i he; exact absurd he (this _ _ _)
    · rfl
  · rw [h.same _ hk]

theorem Veil.frozen? {w v : World} (h : Veil B w v) (a : Addr) : w.frozen? a = v.frozen? a := by
  unfold World.frozen?
  by_cases hk : B a.block
  · rw [h.mask _ hk]
    have := h.dull _ hk
    split
    · rename_i he; exact absurd he (this _ _ _)
    · rfl
  · rw [h.same _ hk]

theorem Masked.shape? {v : World} (hm : Masked B v) {k : Nat} (hk : B k) : v.shape? k = none := by
  unfold World.shape?; rw [hm k hk]

theorem Loc.shape (r : Nat) : Loc P B (fun s => B r → s = none) (Go.shape r) := by
  refine ⟨fun v es hm => ?_⟩
  refine .inr ⟨fun hb => hm.shape? hb, .refl hm, fun e he => .inl he, fun w hv _ => ⟨w, ?_, .refl hv⟩⟩
  simp only [Go.shape, Sem.runT, hv.shape?, Result.put']

theorem Loc.frozen (a : Addr) : Loc P B (fun _ => True) (Go.frozen a) := by
  refine ⟨fun v es hm => ?_⟩
  refine .inr ⟨trivial, .refl hm, fun e he => .inl he, fun w hv _ => ⟨w, ?_, .refl hv⟩⟩
  simp only [Go.frozen, Sem.runT, hv.frozen?, Result.put']

theorem Loc.program : Loc P B (fun p => p = P) Go.program := by
  refine ⟨fun v es hm => ?_⟩
  exact .inr ⟨rfl, .refl hm, fun e he => .inl he, fun w hv _ => ⟨w, rfl, .refl hv⟩⟩

theorem Loc.mark {m : Mark} (hk : okMark m) : Loc P B (fun _ => True) (Go.mark m) := by
  refine ⟨fun v es hm => ?_⟩
  refine .inr ⟨trivial, .refl hm, fun e he => ?_, fun w hv _ => ⟨w, rfl, .refl hv⟩⟩
  rcases Array.mem_push.1 he with h | rfl
  · exact .inl h
  · exact .inr hk

theorem Loc.choose (q : Question) : Loc P B (fun _ => True) (Go.choose q) := by
  refine ⟨fun v es hm => ?_⟩
  by_cases hf : q.forced = true
  · have e : ∀ w, (Go.choose q).runT P w es = (.ok 0 w, es) := fun w => by simp only [Go.choose, Sem.runT, hf, if_true]
    rw [e]
    refine .inr ⟨trivial, .refl hm, fun e he => .inl he, fun w hv _ => ⟨w, e w, .refl hv⟩⟩
  · have e : ∀ w : World, (Go.choose q).runT P w es = (.ok (q.cut (w.tape w.drawn q)) { w with drawn := w.drawn + 1 }, es) := fun w => by simp only [Go.choose, Sem.runT, if_neg hf]
    rw [e]
    refine .inr ⟨trivial, ⟨rfl, Nat.le_succ _, hm, Nat.le_refl _⟩, fun e he => .inl he, fun w hv hag => ⟨{ w with drawn := w.drawn + 1 }, ?_, hv.at rfl rfl rfl rfl rfl rfl, rfl, ?_, fun _ _ => rfl⟩⟩
    · have := hag 0 (by simp [Result.world'])
      simp only [Nat.add_zero] at this
      rw [e, this]; rfl
    · simp [Result.world']

theorem Loc.freeze (a : Addr) (n : Nat) : Loc P B (fun _ => True) (Go.freeze a n) := by
  refine ⟨fun v es hm => ?_⟩
  by_cases hn : n = 0
  · have e : ∀ w, (Go.freeze a n).runT P w es = (.ok () w, es) := fun w => by simp only [Go.freeze, Sem.runT, World.freeze, hn, if_true]
    rw [e]
    exact .inr ⟨trivial, .refl hm, fun e he => .inl he, fun w hv _ => ⟨w, e w, .refl hv⟩⟩
  · have hf : ∃ f : Obj → Obj, (∀ o, (∀ c e g, o ≠ .cells c e g) → f o = o) ∧ ∀ w : World, w.freeze a n = { w with heap := w.heap.modify a.block f } := by
      refine ⟨_, ?_, fun w => by unfold World.freeze; rw [if_neg hn]⟩
      intro o ho
      cases o <;> first | rfl | exact absurd rfl (ho _ _ _)
    obtain ⟨f, hid, hf⟩ := hf
    have e : ∀ w, (Go.freeze a n).runT P w es = (.ok () { w with heap := w.heap.modify a.block f }, es) := fun w => by simp only [Go.freeze, Sem.runT, hf]
    rw [e]
    have hpt : ∀ (w : World) (k : Nat), B k → (∀ c e g, w.heap[k]? ≠ some (.cells c e g)) → (w.heap.modify a.block f)[k]? = w.heap[k]? := by
      intro w k _ hc
      simp only [Array.getElem?_modify]
      split
      · cases ho : w.heap[k]? with
        | none => rfl
        | some o =>
          rw [Option.map_some, hid o]
          intro c e g he
          exact hc c e g (by rw [ho, he])
      · rfl
    have hmp : ∀ k, B k → ∀ c e g, v.heap[k]? ≠ some (.cells c e g) := fun k hk c e g h => by rw [hm k hk] at h; cases h
    refine .inr ⟨trivial, ⟨rfl, Nat.le_refl _, fun k hk => ?_, by simp [Result.world']⟩, fun e he => .inl he, fun w hv _ => ⟨_, e w, ⟨⟨by simp [Result.world', hv.size], fun k hk => ?_, fun k hk => ?_, fun k hk => ?_, hv.os, hv.output⟩, rfl, ?_, fun k hk => ?_⟩⟩⟩
    · simp only [Result.world']; rw [hpt v k hk (hmp k hk)]; exact hm k hk
    · simp only [Result.world', Array.getElem?_modify, hv.same k hk]
    · simp only [Result.world']; rw [hpt v k hk (hmp k hk)]; exact hm k hk
    · simp only; rw [hpt w k hk (hv.dull k hk)]; exact hv.dull k hk
    · simp [Result.world']
    · simp only; rw [hpt w k hk (hv.dull k hk)]

/-- A look at an object: another's leads nowhere. -/
theorem Loc.getObj {β : Type} {Q : β → Prop} {r : Nat} {f : Obj → Sem β} (hd : B r → Dead P B (f (poison r))) (hf : ∀ o, ¬ B r → Loc P B Q (f o)) : Loc P B Q (Go.getObj r >>= f) := by
  refine ⟨fun v es hm => ?_⟩
  by_cases hb : B r
  · have e : (Go.getObj r >>= f).runT P v es = (f (poison r)).runT P v (es.push ⟨.obj r, false, false⟩) := by
      show (Sem.bind (Sem.getObj r Sem.pure) f).runT P v es = _
      simp only [Sem.bind, Sem.runT, hm r hb]
      rfl
    rw [e]
    exact .inl ((hd hb).out v _ hm)
  · have main : ∀ (w : World), w.heap[r]? = v.heap[r]? → (Go.getObj r >>= f).runT P w es = match v.heap[r]? with
        | some (.cells ..) => (.halt (.stuck "getObj: a row of cells") w, es)
        | some o => (f o).runT P w (es.push ⟨.obj r, false, o.isChan⟩)
        | none => (.halt (.stuck "getObj: no such block") w, es) := by
      intro w hw
      show (Sem.bind (Sem.getObj r Sem.pure) f).runT P w es = _
      simp only [Sem.bind, Sem.runT, hw]
      cases v.heap[r]? with
      | none => rfl
      | some o => cases o <;> rfl
    rw [main v rfl]
    cases ho : v.heap[r]? with
    | none => exact .inl trivial
    | some o =>
      have hsome : (∃ c e g, o = .cells c e g) ∨ ∀ c e g, o ≠ .cells c e g := by
        cases o <;> first | exact .inl ⟨_, _, _, rfl⟩ | exact .inr (by intro c e g; simp)
      rcases hsome with ⟨c, e, g, rfl⟩ | hne
      · exact .inl trivial
      · have e2 : ∀ (w : World), (match (some o : Option Obj) with
          | some (.cells ..) => (.halt (.stuck "getObj: a row of cells") w, es)
          | some o => (f o).runT P w (es.push ⟨.obj r, false, o.isChan⟩)
          | none => (.halt (.stuck "getObj: no such block") w, es) : Result β × Array Event) = (f o).runT P w (es.push ⟨.obj r, false, o.isChan⟩) := by
          intro w
          cases o <;> first | rfl | exact absurd rfl (hne _ _ _)
        rw [e2]
        rcases (hf o hb).out v (es.push ⟨.obj r, false, o.isChan⟩) hm with h | ⟨h1, h2, h3, h4⟩
        · exact .inl h
        · refine .inr ⟨h1, h2, fun e he => ?_, fun w hv hag => ?_⟩
          · rcases h3 e he with h | h
            · rcases Array.mem_push.1 h with h | rfl
              · exact .inl h
              · exact .inr hb
            · exact .inr h
          · obtain ⟨w1, e1, k1⟩ := h4 w hv hag
            refine ⟨w1, ?_, k1⟩
            rw [main w (hv.same r hb), ho, e2]
            exact e1

theorem Loc.setObj {r : Nat} (hb : ¬ B r) (o : Obj) : Loc P B (fun _ => True) (Go.setObj r o) := by
  refine ⟨fun v es hm => ?_⟩
  have main : ∀ (w : World), w.heap[r]? = v.heap[r]? → (Go.setObj r o).runT P w es = match v.heap[r]? with
      | some (.cells ..) => (.halt (.stuck "setObj: a row of cells") w, es)
      | some _ => (.ok () { w with heap := w.heap.setIfInBounds r o }, es.push ⟨.obj r, true, o.isChan⟩)
      | none => (.halt (.stuck "setObj: no such block") w, es) := by
    intro w hw
    simp only [Go.setObj, Sem.runT, hw]
    cases v.heap[r]? with
    | none => rfl
    | some o => cases o <;> rfl
  rw [main v rfl]
  cases ho : v.heap[r]? with
  | none => exact .inl trivial
  | some o' =>
    have hsome : (∃ c e g, o' = .cells c e g) ∨ ∀ c e g, o' ≠ .cells c e g := by
      cases o' <;> first | exact .inl ⟨_, _, _, rfl⟩ | exact .inr (by intro c e g; simp)
    rcases hsome with ⟨c, e, g, rfl⟩ | hne
    · exact .inl trivial
    · have e2 : ∀ (w : World), (match (some o' : Option Obj) with
        | some (.cells ..) => (.halt (.stuck "setObj: a row of cells") w, es)
        | some _ => (.ok () { w with heap := w.heap.setIfInBounds r o }, es.push ⟨.obj r, true, o.isChan⟩)
        | none => (.halt (.stuck "setObj: no such block") w, es) : Result Unit × Array Event) = (.ok () { w with heap := w.heap.setIfInBounds r o }, es.push ⟨.obj r, true, o.isChan⟩) := by
        intro w
        cases o' <;> first | rfl | exact absurd rfl (hne _ _ _)
      rw [e2]
      refine .inr ⟨trivial, ⟨rfl, Nat.le_refl _, hm.put hb o, by simp [Result.world']⟩, fun e he => ?_, fun w hv _ => ⟨_, (main w (hv.same r hb)).trans (by rw [ho, e2]; rfl), hv.put hb o, rfl, by simp [Result.world'], keep_put hb o⟩⟩
      rcases Array.mem_push.1 he with h | rfl
      · exact .inl h
      · exact .inr hb

end
end Go.Co

/-
  THE LIBRARY OF THE OPERATIONS IS WELL BEHAVED: its everyday words.
-/
namespace Go.Co

section
variable {P : Program} {B : Nat → Prop}

theorem loc_stuck {α : Type} {Q : α → Prop} (s : String) : Loc P B Q (stuck s : Sem α) := Loc.halt trivial
theorem loc_unsupported {α : Type} {Q : α → Prop} (u : Unsupported) : Loc P B Q (unsupported u : Sem α) := Loc.halt trivial
theorem loc_goPanic {α : Type} {Q : α → Prop} (v : Value) : Loc P B Q (goPanic v : Sem α) := Loc.halt trivial
theorem dead_stuck {α : Type} (s : String) : Dead P B (stuck s : Sem α) := Dead.halt trivial
theorem dead_unsupported {α : Type} (u : Unsupported) : Dead P B (unsupported u : Sem α) := Dead.halt trivial

theorem loc_ite {α : Type} {Q : α → Prop} {c : Prop} [Decidable c] {x y : Sem α} (hx : c → Loc P B Q x) (hy : ¬ c → Loc P B Q y) : Loc P B Q (if c then x else y) := by
  split
  · exact hx ‹_›
  · exact hy ‹_›

theorem loc_map {α β : Type} {Q : α → Prop} (g : α → β) {s : Sem α} (h : Loc P B Q s) : Loc P B (fun _ => True) (g <$> s) :=
  Loc.bind (f := fun a => Pure.pure (g a)) h fun _ _ => Loc.pure trivial

theorem jpcut {α β σ : Type} {Q : α → Prop} {s : Sem α} {j : σ → Sem β} (h2 : ∀ u, Loc P B (fun _ => True) (j u)) (h1 : (∀ u, Loc P B (fun _ => True) (j u)) → Loc P B Q s) : Loc P B Q s := h1 h2
theorem jpcut0 {α β : Type} {Q : α → Prop} {s : Sem α} {j : Sem β} (h2 : Loc P B (fun _ => True) j) (h1 : (Loc P B (fun _ => True) j) → Loc P B Q s) : Loc P B Q s := h1 h2

theorem loc_typeInfo (t : TypeId) : Loc P B (fun _ => True) (typeInfo t) := by
  unfold typeInfo
  (repeat' (first
    | assumption
    | exact Loc.pure trivial
    | exact Loc.halt trivial
    | exact loc_stuck _
    | exact loc_unsupported _
    | exact loc_goPanic _
    | exact Loc.load _
    | exact Loc.store _ _
    | exact Loc.freeze _ _
    | exact Loc.frozen _
    | exact Loc.choose _
    | exact Loc.mono (Loc.shape _) (fun _ _ => trivial)
    | exact Loc.mono (Loc.newObj _) (fun _ _ => trivial)
    | exact Loc.mono Loc.program (fun _ _ => trivial)
    | apply_assumption -exfalso -symm
    | refine Loc.bind (Loc.load _) ?_
    | refine Loc.bind (Loc.store _ _) ?_
    | refine Loc.bind Loc.program ?_
    | refine Loc.bind (Loc.shape _) ?_
    | refine Loc.bind (Loc.newObj _) ?_
    | refine Loc.bind (Loc.choose _) ?_
    | refine Loc.bind (Q' := fun _ => True) ?_ ?_
    | (intro _ _; skip)
    | (extract_lets -underBinder +onlyGivenNames j; refine jpcut (j := j) ?_ ?_; intro u; subst j; dsimp -zeta only; rotate_left; intro hj; clear_value j)
    | (extract_lets -underBinder +onlyGivenNames j; refine jpcut0 (j := j) ?_ ?_; subst j; rotate_left; intro hj; clear_value j)
    | (extract_lets -underBinder +onlyGivenNames j; clear_value j)
    | split
    | (dsimp only; skip)))
theorem loc_underlying (t : TypeId) : Loc P B (fun _ => True) (underlying t) := by
  unfold underlying
  (repeat' (first
    | assumption
    | exact Loc.pure trivial
    | exact Loc.halt trivial
    | exact loc_stuck _
    | exact loc_unsupported _
    | exact loc_goPanic _
    | exact Loc.load _
    | exact Loc.store _ _
    | exact Loc.freeze _ _
    | exact Loc.frozen _
    | exact Loc.choose _
    | exact Loc.mono (Loc.shape _) (fun _ _ => trivial)
    | exact Loc.mono (Loc.newObj _) (fun _ _ => trivial)
    | exact Loc.mono Loc.program (fun _ _ => trivial)
    | exact loc_typeInfo _
    | apply_assumption -exfalso -symm
    | refine Loc.bind (Loc.load _) ?_
    | refine Loc.bind (Loc.store _ _) ?_
    | refine Loc.bind Loc.program ?_
    | refine Loc.bind (Loc.shape _) ?_
    | refine Loc.bind (Loc.newObj _) ?_
    | refine Loc.bind (Loc.choose _) ?_
    | refine Loc.bind (loc_typeInfo _) ?_
    | refine Loc.bind (Q' := fun _ => True) ?_ ?_
    | (intro _ _; skip)
    | (extract_lets -underBinder +onlyGivenNames j; refine jpcut (j := j) ?_ ?_; intro u; subst j; dsimp -zeta only; rotate_left; intro hj; clear_value j)
    | (extract_lets -underBinder +onlyGivenNames j; refine jpcut0 (j := j) ?_ ?_; subst j; rotate_left; intro hj; clear_value j)
    | (extract_lets -underBinder +onlyGivenNames j; clear_value j)
    | split
    | (dsimp only; skip)))
theorem loc_zeroValue (t : TypeId) : Loc P B (fun _ => True) (zeroValue t) := by
  unfold zeroValue
  (repeat' (first
    | assumption
    | exact Loc.pure trivial
    | exact Loc.halt trivial
    | exact loc_stuck _
    | exact loc_unsupported _
    | exact loc_goPanic _
    | exact Loc.load _
    | exact Loc.store _ _
    | exact Loc.freeze _ _
    | exact Loc.frozen _
    | exact Loc.choose _
    | exact Loc.mono (Loc.shape _) (fun _ _ => trivial)
    | exact Loc.mono (Loc.newObj _) (fun _ _ => trivial)
    | exact Loc.mono Loc.program (fun _ _ => trivial)
    | exact loc_typeInfo _
    | exact loc_underlying _
    | apply_assumption -exfalso -symm
    | refine Loc.bind (Loc.load _) ?_
    | refine Loc.bind (Loc.store _ _) ?_
    | refine Loc.bind Loc.program ?_
    | refine Loc.bind (Loc.shape _) ?_
    | refine Loc.bind (Loc.newObj _) ?_
    | refine Loc.bind (Loc.choose _) ?_
    | refine Loc.bind (loc_typeInfo _) ?_
    | refine Loc.bind (loc_underlying _) ?_
    | refine Loc.bind (Q' := fun _ => True) ?_ ?_
    | (intro _ _; skip)
    | (extract_lets -underBinder +onlyGivenNames j; refine jpcut (j := j) ?_ ?_; intro u; subst j; dsimp -zeta only; rotate_left; intro hj; clear_value j)
    | (extract_lets -underBinder +onlyGivenNames j; refine jpcut0 (j := j) ?_ ?_; subst j; rotate_left; intro hj; clear_value j)
    | (extract_lets -underBinder +onlyGivenNames j; clear_value j)
    | split
    | (dsimp only; skip)))
theorem loc_sizeOf (t : TypeId) : Loc P B (fun _ => True) (sizeOf t) := by
  unfold sizeOf
  (repeat' (first
    | assumption
    | exact Loc.pure trivial
    | exact Loc.halt trivial
    | exact loc_stuck _
    | exact loc_unsupported _
    | exact loc_goPanic _
    | exact Loc.load _
    | exact Loc.store _ _
    | exact Loc.freeze _ _
    | exact Loc.frozen _
    | exact Loc.choose _
    | exact Loc.mono (Loc.shape _) (fun _ _ => trivial)
    | exact Loc.mono (Loc.newObj _) (fun _ _ => trivial)
    | exact Loc.mono Loc.program (fun _ _ => trivial)
    | exact loc_typeInfo _
    | exact loc_underlying _
    | exact loc_zeroValue _
    | apply_assumption -exfalso -symm
    | refine Loc.bind (Loc.load _) ?_
    | refine Loc.bind (Loc.store _ _) ?_
    | refine Loc.bind Loc.program ?_
    | refine Loc.bind (Loc.shape _) ?_
    | refine Loc.bind (Loc.newObj _) ?_
    | refine Loc.bind (Loc.choose _) ?_
    | refine Loc.bind (loc_typeInfo _) ?_
    | refine Loc.bind (loc_underlying _) ?_
    | refine Loc.bind (loc_zeroValue _) ?_
    | refine Loc.bind (Q' := fun _ => True) ?_ ?_
    | (intro _ _; skip)
    | (extract_lets -underBinder +onlyGivenNames j; refine jpcut (j := j) ?_ ?_; intro u; subst j; dsimp -zeta only; rotate_left; intro hj; clear_value j)
    | (extract_lets -underBinder +onlyGivenNames j; refine jpcut0 (j := j) ?_ ?_; subst j; rotate_left; intro hj; clear_value j)
    | (extract_lets -underBinder +onlyGivenNames j; clear_value j)
    | split
    | (dsimp only; skip)))
theorem loc_isAgg (t : TypeId) : Loc P B (fun _ => True) (isAgg t) := by
  unfold isAgg
  (repeat' (first
    | assumption
    | exact Loc.pure trivial
    | exact Loc.halt trivial
    | exact loc_stuck _
    | exact loc_unsupported _
    | exact loc_goPanic _
    | exact Loc.load _
    | exact Loc.store _ _
    | exact Loc.freeze _ _
    | exact Loc.frozen _
    | exact Loc.choose _
    | exact Loc.mono (Loc.shape _) (fun _ _ => trivial)
    | exact Loc.mono (Loc.newObj _) (fun _ _ => trivial)
    | exact Loc.mono Loc.program (fun _ _ => trivial)
    | exact loc_typeInfo _
    | exact loc_underlying _
    | exact loc_zeroValue _
    | exact loc_sizeOf _
    | apply_assumption -exfalso -symm
    | refine Loc.bind (Loc.load _) ?_
    | refine Loc.bind (Loc.store _ _) ?_
    | refine Loc.bind Loc.program ?_
    | refine Loc.bind (Loc.shape _) ?_
    | refine Loc.bind (Loc.newObj _) ?_
    | refine Loc.bind (Loc.choose _) ?_
    | refine Loc.bind (loc_typeInfo _) ?_
    | refine Loc.bind (loc_underlying _) ?_
    | refine Loc.bind (loc_zeroValue _) ?_
    | refine Loc.bind (loc_sizeOf _) ?_
    | refine Loc.bind (Q' := fun _ => True) ?_ ?_
    | (intro _ _; skip)
    | (extract_lets -underBinder +onlyGivenNames j; refine jpcut (j := j) ?_ ?_; intro u; subst j; dsimp -zeta only; rotate_left; intro hj; clear_value j)
    | (extract_lets -underBinder +onlyGivenNames j; refine jpcut0 (j := j) ?_ ?_; subst j; rotate_left; intro hj; clear_value j)
    | (extract_lets -underBinder +onlyGivenNames j; clear_value j)
    | split
    | (dsimp only; skip)))
theorem loc_loadCellsFrom (a : Addr) : ∀ (n i : Nat) (acc : Array Value), Loc P B (fun _ => True) (loadCellsFrom a i n acc)
  | 0, _, _ => Loc.pure trivial
  | n + 1, i, acc => by
    unfold loadCellsFrom
    exact Loc.bind (Loc.load _) fun v _ => loc_loadCellsFrom a n (i + 1) (acc.push v)
theorem loc_loadCells (a : Addr) (n : Nat) : Loc P B (fun _ => True) (loadCells a n) := loc_loadCellsFrom a n 0 #[]
theorem loc_storeCells (a : Addr) : ∀ (vs : List Value) (i : Nat), Loc P B (fun _ => True) (storeCells a vs i)
  | [], _ => Loc.pure trivial
  | v :: vs, i => by
    unfold storeCells
    exact Loc.bind (Loc.store _ _) fun _ _ => loc_storeCells a vs (i + 1)
theorem loc_loadVar (t : TypeId) (a : Addr) : Loc P B (fun _ => True) (loadVar t a) := by
  unfold loadVar
  (repeat' (first
    | assumption
    | exact Loc.pure trivial
    | exact Loc.halt trivial
    | exact loc_stuck _
    | exact loc_unsupported _
    | exact loc_goPanic _
    | exact Loc.load _
    | exact Loc.store _ _
    | exact Loc.freeze _ _
    | exact Loc.frozen _
    | exact Loc.choose _
    | exact Loc.mono (Loc.shape _) (fun _ _ => trivial)
    | exact Loc.mono (Loc.newObj _) (fun _ _ => trivial)
    | exact Loc.mono Loc.program (fun _ _ => trivial)
    | exact loc_typeInfo _
    | exact loc_underlying _
    | exact loc_zeroValue _
    | exact loc_sizeOf _
    | exact loc_isAgg _
    | exact loc_loadCellsFrom _ _ _ _
    | exact loc_loadCells _ _
    | exact loc_storeCells _ _ _
    | apply_assumption -exfalso -symm
    | refine Loc.bind (Loc.load _) ?_
    | refine Loc.bind (Loc.store _ _) ?_
    | refine Loc.bind Loc.program ?_
    | refine Loc.bind (Loc.shape _) ?_
    | refine Loc.bind (Loc.newObj _) ?_
    | refine Loc.bind (Loc.choose _) ?_
    | refine Loc.bind (loc_typeInfo _) ?_
    | refine Loc.bind (loc_underlying _) ?_
    | refine Loc.bind (loc_zeroValue _) ?_
    | refine Loc.bind (loc_sizeOf _) ?_
    | refine Loc.bind (loc_isAgg _) ?_
    | refine Loc.bind (loc_loadCellsFrom _ _ _ _) ?_
    | refine Loc.bind (loc_loadCells _ _) ?_
    | refine Loc.bind (loc_storeCells _ _ _) ?_
    | refine Loc.bind (Q' := fun _ => True) ?_ ?_
    | (intro _ _; skip)
    | (extract_lets -underBinder +onlyGivenNames j; refine jpcut (j := j) ?_ ?_; intro u; subst j; dsimp -zeta only; rotate_left; intro hj; clear_value j)
    | (extract_lets -underBinder +onlyGivenNames j; refine jpcut0 (j := j) ?_ ?_; subst j; rotate_left; intro hj; clear_value j)
    | (extract_lets -underBinder +onlyGivenNames j; clear_value j)
    | split
    | (dsimp only; skip)))
theorem loc_storeVar (t : TypeId) (a : Addr) (v : Value) : Loc P B (fun _ => True) (storeVar t a v) := by
  unfold storeVar
  (repeat' (first
    | assumption
    | exact Loc.pure trivial
    | exact Loc.halt trivial
    | exact loc_stuck _
    | exact loc_unsupported _
    | exact loc_goPanic _
    | exact Loc.load _
    | exact Loc.store _ _
    | exact Loc.freeze _ _
    | exact Loc.frozen _
    | exact Loc.choose _
    | exact Loc.mono (Loc.shape _) (fun _ _ => trivial)
    | exact Loc.mono (Loc.newObj _) (fun _ _ => trivial)
    | exact Loc.mono Loc.program (fun _ _ => trivial)
    | exact loc_typeInfo _
    | exact loc_underlying _
    | exact loc_zeroValue _
    | exact loc_sizeOf _
    | exact loc_isAgg _
    | exact loc_loadCellsFrom _ _ _ _
    | exact loc_loadCells _ _
    | exact loc_storeCells _ _ _
    | exact loc_loadVar _ _
    | apply_assumption -exfalso -symm
    | refine Loc.bind (Loc.load _) ?_
    | refine Loc.bind (Loc.store _ _) ?_
    | refine Loc.bind Loc.program ?_
    | refine Loc.bind (Loc.shape _) ?_
    | refine Loc.bind (Loc.newObj _) ?_
    | refine Loc.bind (Loc.choose _) ?_
    | refine Loc.bind (loc_typeInfo _) ?_
    | refine Loc.bind (loc_underlying _) ?_
    | refine Loc.bind (loc_zeroValue _) ?_
    | refine Loc.bind (loc_sizeOf _) ?_
    | refine Loc.bind (loc_isAgg _) ?_
    | refine Loc.bind (loc_loadCellsFrom _ _ _ _) ?_
    | refine Loc.bind (loc_loadCells _ _) ?_
    | refine Loc.bind (loc_storeCells _ _ _) ?_
    | refine Loc.bind (loc_loadVar _ _) ?_
    | refine Loc.bind (Q' := fun _ => True) ?_ ?_
    | (intro _ _; skip)
    | (extract_lets -underBinder +onlyGivenNames j; refine jpcut (j := j) ?_ ?_; intro u; subst j; dsimp -zeta only; rotate_left; intro hj; clear_value j)
    | (extract_lets -underBinder +onlyGivenNames j; refine jpcut0 (j := j) ?_ ?_; subst j; rotate_left; intro hj; clear_value j)
    | (extract_lets -underBinder +onlyGivenNames j; clear_value j)
    | split
    | (dsimp only; skip)))
theorem loc_newRow (e : TypeId) (c : Array Value) : Loc P B (fun _ => True) (newRow e c) := by
  unfold newRow
  (repeat' (first
    | assumption
    | exact Loc.pure trivial
    | exact Loc.halt trivial
    | exact loc_stuck _
    | exact loc_unsupported _
    | exact loc_goPanic _
    | exact Loc.load _
    | exact Loc.store _ _
    | exact Loc.freeze _ _
    | exact Loc.frozen _
    | exact Loc.choose _
    | exact Loc.mono (Loc.shape _) (fun _ _ => trivial)
    | exact Loc.mono (Loc.newObj _) (fun _ _ => trivial)
    | exact Loc.mono Loc.program (fun _ _ => trivial)
    | exact loc_typeInfo _
    | exact loc_underlying _
    | exact loc_zeroValue _
    | exact loc_sizeOf _
    | exact loc_isAgg _
    | exact loc_loadCellsFrom _ _ _ _
    | exact loc_loadCells _ _
    | exact loc_storeCells _ _ _
    | exact loc_loadVar _ _
    | exact loc_storeVar _ _ _
    | apply_assumption -exfalso -symm
    | refine Loc.bind (Loc.load _) ?_
    | refine Loc.bind (Loc.store _ _) ?_
    | refine Loc.bind Loc.program ?_
    | refine Loc.bind (Loc.shape _) ?_
    | refine Loc.bind (Loc.newObj _) ?_
    | refine Loc.bind (Loc.choose _) ?_
    | refine Loc.bind (loc_typeInfo _) ?_
    | refine Loc.bind (loc_underlying _) ?_
    | refine Loc.bind (loc_zeroValue _) ?_
    | refine Loc.bind (loc_sizeOf _) ?_
    | refine Loc.bind (loc_isAgg _) ?_
    | refine Loc.bind (loc_loadCellsFrom _ _ _ _) ?_
    | refine Loc.bind (loc_loadCells _ _) ?_
    | refine Loc.bind (loc_storeCells _ _ _) ?_
    | refine Loc.bind (loc_loadVar _ _) ?_
    | refine Loc.bind (loc_storeVar _ _ _) ?_
    | refine Loc.bind (Q' := fun _ => True) ?_ ?_
    | (intro _ _; skip)
    | (extract_lets -underBinder +onlyGivenNames j; refine jpcut (j := j) ?_ ?_; intro u; subst j; dsimp -zeta only; rotate_left; intro hj; clear_value j)
    | (extract_lets -underBinder +onlyGivenNames j; refine jpcut0 (j := j) ?_ ?_; subst j; rotate_left; intro hj; clear_value j)
    | (extract_lets -underBinder +onlyGivenNames j; clear_value j)
    | split
    | (dsimp only; skip)))
theorem loc_newVar (t : TypeId) (v : Value) : Loc P B (fun _ => True) (newVar t v) := loc_newRow _ _
theorem loc_elemOf (t : TypeId) : Loc P B (fun _ => True) (elemOf t) := by
  unfold elemOf
  (repeat' (first
    | assumption
    | exact Loc.pure trivial
    | exact Loc.halt trivial
    | exact loc_stuck _
    | exact loc_unsupported _
    | exact loc_goPanic _
    | exact Loc.load _
    | exact Loc.store _ _
    | exact Loc.freeze _ _
    | exact Loc.frozen _
    | exact Loc.choose _
    | exact Loc.mono (Loc.shape _) (fun _ _ => trivial)
    | exact Loc.mono (Loc.newObj _) (fun _ _ => trivial)
    | exact Loc.mono Loc.program (fun _ _ => trivial)
    | exact loc_typeInfo _
    | exact loc_underlying _
    | exact loc_zeroValue _
    | exact loc_sizeOf _
    | exact loc_isAgg _
    | exact loc_loadCellsFrom _ _ _ _
    | exact loc_loadCells _ _
    | exact loc_storeCells _ _ _
    | exact loc_loadVar _ _
    | exact loc_storeVar _ _ _
    | exact loc_newRow _ _
    | exact loc_newVar _ _
    | apply_assumption -exfalso -symm
    | refine Loc.bind (Loc.load _) ?_
    | refine Loc.bind (Loc.store _ _) ?_
    | refine Loc.bind Loc.program ?_
    | refine Loc.bind (Loc.shape _) ?_
    | refine Loc.bind (Loc.newObj _) ?_
    | refine Loc.bind (Loc.choose _) ?_
    | refine Loc.bind (loc_typeInfo _) ?_
    | refine Loc.bind (loc_underlying _) ?_
    | refine Loc.bind (loc_zeroValue _) ?_
    | refine Loc.bind (loc_sizeOf _) ?_
    | refine Loc.bind (loc_isAgg _) ?_
    | refine Loc.bind (loc_loadCellsFrom _ _ _ _) ?_
    | refine Loc.bind (loc_loadCells _ _) ?_
    | refine Loc.bind (loc_storeCells _ _ _) ?_
    | refine Loc.bind (loc_loadVar _ _) ?_
    | refine Loc.bind (loc_storeVar _ _ _) ?_
    | refine Loc.bind (loc_newRow _ _) ?_
    | refine Loc.bind (loc_newVar _ _) ?_
    | refine Loc.bind (Q' := fun _ => True) ?_ ?_
    | (intro _ _; skip)
    | (extract_lets -underBinder +onlyGivenNames j; refine jpcut (j := j) ?_ ?_; intro u; subst j; dsimp -zeta only; rotate_left; intro hj; clear_value j)
    | (extract_lets -underBinder +onlyGivenNames j; refine jpcut0 (j := j) ?_ ?_; subst j; rotate_left; intro hj; clear_value j)
    | (extract_lets -underBinder +onlyGivenNames j; clear_value j)
    | split
    | (dsimp only; skip)))
theorem loc_part (t : TypeId) (cs : Array Value) (off : Nat) : Loc P B (fun _ => True) (part t cs off) := by
  unfold part
  (repeat' (first
    | assumption
    | exact Loc.pure trivial
    | exact Loc.halt trivial
    | exact loc_stuck _
    | exact loc_unsupported _
    | exact loc_goPanic _
    | exact Loc.load _
    | exact Loc.store _ _
    | exact Loc.freeze _ _
    | exact Loc.frozen _
    | exact Loc.choose _
    | exact Loc.mono (Loc.shape _) (fun _ _ => trivial)
    | exact Loc.mono (Loc.newObj _) (fun _ _ => trivial)
    | exact Loc.mono Loc.program (fun _ _ => trivial)
    | exact loc_typeInfo _
    | exact loc_underlying _
    | exact loc_zeroValue _
    | exact loc_sizeOf _
    | exact loc_isAgg _
    | exact loc_loadCellsFrom _ _ _ _
    | exact loc_loadCells _ _
    | exact loc_storeCells _ _ _
    | exact loc_loadVar _ _
    | exact loc_storeVar _ _ _
    | exact loc_newRow _ _
    | exact loc_newVar _ _
    | exact loc_elemOf _
    | apply_assumption -exfalso -symm
    | refine Loc.bind (Loc.load _) ?_
    | refine Loc.bind (Loc.store _ _) ?_
    | refine Loc.bind Loc.program ?_
    | refine Loc.bind (Loc.shape _) ?_
    | refine Loc.bind (Loc.newObj _) ?_
    | refine Loc.bind (Loc.choose _) ?_
    | refine Loc.bind (loc_typeInfo _) ?_
    | refine Loc.bind (loc_underlying _) ?_
    | refine Loc.bind (loc_zeroValue _) ?_
    | refine Loc.bind (loc_sizeOf _) ?_
    | refine Loc.bind (loc_isAgg _) ?_
    | refine Loc.bind (loc_loadCellsFrom _ _ _ _) ?_
    | refine Loc.bind (loc_loadCells _ _) ?_
    | refine Loc.bind (loc_storeCells _ _ _) ?_
    | refine Loc.bind (loc_loadVar _ _) ?_
    | refine Loc.bind (loc_storeVar _ _ _) ?_
    | refine Loc.bind (loc_newRow _ _) ?_
    | refine Loc.bind (loc_newVar _ _) ?_
    | refine Loc.bind (loc_elemOf _) ?_
    | refine Loc.bind (Q' := fun _ => True) ?_ ?_
    | (intro _ _; skip)
    | (extract_lets -underBinder +onlyGivenNames j; refine jpcut (j := j) ?_ ?_; intro u; subst j; dsimp -zeta only; rotate_left; intro hj; clear_value j)
    | (extract_lets -underBinder +onlyGivenNames j; refine jpcut0 (j := j) ?_ ?_; subst j; rotate_left; intro hj; clear_value j)
    | (extract_lets -underBinder +onlyGivenNames j; clear_value j)
    | split
    | (dsimp only; skip)))
theorem loc_runtimePanic {α : Type} {Q : α → Prop} (e : RuntimeError) : Loc P B Q (runtimePanic e : Sem α) := by
  unfold runtimePanic
  (repeat' (first
    | assumption
    | exact Loc.pure trivial
    | exact Loc.halt trivial
    | exact loc_stuck _
    | exact loc_unsupported _
    | exact loc_goPanic _
    | exact Loc.load _
    | exact Loc.store _ _
    | exact Loc.freeze _ _
    | exact Loc.frozen _
    | exact Loc.choose _
    | exact Loc.mono (Loc.shape _) (fun _ _ => trivial)
    | exact Loc.mono (Loc.newObj _) (fun _ _ => trivial)
    | exact Loc.mono Loc.program (fun _ _ => trivial)
    | exact loc_typeInfo _
    | exact loc_underlying _
    | exact loc_zeroValue _
    | exact loc_sizeOf _
    | exact loc_isAgg _
    | exact loc_loadCellsFrom _ _ _ _
    | exact loc_loadCells _ _
    | exact loc_storeCells _ _ _
    | exact loc_loadVar _ _
    | exact loc_storeVar _ _ _
    | exact loc_newRow _ _
    | exact loc_newVar _ _
    | exact loc_elemOf _
    | exact loc_part _ _ _
    | apply_assumption -exfalso -symm
    | refine Loc.bind (Loc.load _) ?_
    | refine Loc.bind (Loc.store _ _) ?_
    | refine Loc.bind Loc.program ?_
    | refine Loc.bind (Loc.shape _) ?_
    | refine Loc.bind (Loc.newObj _) ?_
    | refine Loc.bind (Loc.choose _) ?_
    | refine Loc.bind (loc_typeInfo _) ?_
    | refine Loc.bind (loc_underlying _) ?_
    | refine Loc.bind (loc_zeroValue _) ?_
    | refine Loc.bind (loc_sizeOf _) ?_
    | refine Loc.bind (loc_isAgg _) ?_
    | refine Loc.bind (loc_loadCellsFrom _ _ _ _) ?_
    | refine Loc.bind (loc_loadCells _ _) ?_
    | refine Loc.bind (loc_storeCells _ _ _) ?_
    | refine Loc.bind (loc_loadVar _ _) ?_
    | refine Loc.bind (loc_storeVar _ _ _) ?_
    | refine Loc.bind (loc_newRow _ _) ?_
    | refine Loc.bind (loc_newVar _ _) ?_
    | refine Loc.bind (loc_elemOf _) ?_
    | refine Loc.bind (loc_part _ _ _) ?_
    | refine Loc.bind (Q' := fun _ => True) ?_ ?_
    | (intro _ _; skip)
    | (extract_lets -underBinder +onlyGivenNames j; refine jpcut (j := j) ?_ ?_; intro u; subst j; dsimp -zeta only; rotate_left; intro hj; clear_value j)
    | (extract_lets -underBinder +onlyGivenNames j; refine jpcut0 (j := j) ?_ ?_; subst j; rotate_left; intro hj; clear_value j)
    | (extract_lets -underBinder +onlyGivenNames j; clear_value j)
    | split
    | (dsimp only; skip)))
theorem loc_boundsPanic {α : Type} {Q : α → Prop} (k : IntKind) (x y : Int) (c : BoundsCode) : Loc P B Q (boundsPanic k x y c : Sem α) := by
  unfold boundsPanic
  dsimp only
  split
  · exact Loc.bind (loc_map _ (Loc.choose _)) fun _ _ => loc_runtimePanic _
  · exact Loc.bind (Loc.pure (Q := fun _ => True) trivial) fun _ _ => loc_runtimePanic _
theorem loc_asIntOf (v : Value) : Loc P B (fun _ => True) (asIntOf v) := by
  unfold asIntOf
  (repeat' (first
    | assumption
    | exact Loc.pure trivial
    | exact Loc.halt trivial
    | exact loc_stuck _
    | exact loc_unsupported _
    | exact loc_goPanic _
    | exact Loc.load _
    | exact Loc.store _ _
    | exact Loc.freeze _ _
    | exact Loc.frozen _
    | exact Loc.choose _
    | exact Loc.mono (Loc.shape _) (fun _ _ => trivial)
    | exact Loc.mono (Loc.newObj _) (fun _ _ => trivial)
    | exact Loc.mono Loc.program (fun _ _ => trivial)
    | exact loc_typeInfo _
    | exact loc_underlying _
    | exact loc_zeroValue _
    | exact loc_sizeOf _
    | exact loc_isAgg _
    | exact loc_loadCellsFrom _ _ _ _
    | exact loc_loadCells _ _
    | exact loc_storeCells _ _ _
    | exact loc_loadVar _ _
    | exact loc_storeVar _ _ _
    | exact loc_newRow _ _
    | exact loc_newVar _ _
    | exact loc_elemOf _
    | exact loc_part _ _ _
    | exact loc_runtimePanic _
    | exact loc_boundsPanic _ _ _ _
    | apply_assumption -exfalso -symm
    | refine Loc.bind (Loc.load _) ?_
    | refine Loc.bind (Loc.store _ _) ?_
    | refine Loc.bind Loc.program ?_
    | refine Loc.bind (Loc.shape _) ?_
    | refine Loc.bind (Loc.newObj _) ?_
    | refine Loc.bind (Loc.choose _) ?_
    | refine Loc.bind (loc_typeInfo _) ?_
    | refine Loc.bind (loc_underlying _) ?_
    | refine Loc.bind (loc_zeroValue _) ?_
    | refine Loc.bind (loc_sizeOf _) ?_
    | refine Loc.bind (loc_isAgg _) ?_
    | refine Loc.bind (loc_loadCellsFrom _ _ _ _) ?_
    | refine Loc.bind (loc_loadCells _ _) ?_
    | refine Loc.bind (loc_storeCells _ _ _) ?_
    | refine Loc.bind (loc_loadVar _ _) ?_
    | refine Loc.bind (loc_storeVar _ _ _) ?_
    | refine Loc.bind (loc_newRow _ _) ?_
    | refine Loc.bind (loc_newVar _ _) ?_
    | refine Loc.bind (loc_elemOf _) ?_
    | refine Loc.bind (loc_part _ _ _) ?_
    | refine Loc.bind (loc_runtimePanic _) ?_
    | refine Loc.bind (loc_boundsPanic _ _ _ _) ?_
    | refine Loc.bind (Q' := fun _ => True) ?_ ?_
    | (intro _ _; skip)
    | (extract_lets -underBinder +onlyGivenNames j; refine jpcut (j := j) ?_ ?_; intro u; subst j; dsimp -zeta only; rotate_left; intro hj; clear_value j)
    | (extract_lets -underBinder +onlyGivenNames j; refine jpcut0 (j := j) ?_ ?_; subst j; rotate_left; intro hj; clear_value j)
    | (extract_lets -underBinder +onlyGivenNames j; clear_value j)
    | split
    | (dsimp only; skip)))
theorem loc_asInt (v : Value) : Loc P B (fun _ => True) (asInt v) := by
  unfold asInt
  (repeat' (first
    | assumption
    | exact Loc.pure trivial
    | exact Loc.halt trivial
    | exact loc_stuck _
    | exact loc_unsupported _
    | exact loc_goPanic _
    | exact Loc.load _
    | exact Loc.store _ _
    | exact Loc.freeze _ _
    | exact Loc.frozen _
    | exact Loc.choose _
    | exact Loc.mono (Loc.shape _) (fun _ _ => trivial)
    | exact Loc.mono (Loc.newObj _) (fun _ _ => trivial)
    | exact Loc.mono Loc.program (fun _ _ => trivial)
    | exact loc_typeInfo _
    | exact loc_underlying _
    | exact loc_zeroValue _
    | exact loc_sizeOf _
    | exact loc_isAgg _
    | exact loc_loadCellsFrom _ _ _ _
    | exact loc_loadCells _ _
    | exact loc_storeCells _ _ _
    | exact loc_loadVar _ _
    | exact loc_storeVar _ _ _
    | exact loc_newRow _ _
    | exact loc_newVar _ _
    | exact loc_elemOf _
    | exact loc_part _ _ _
    | exact loc_runtimePanic _
    | exact loc_boundsPanic _ _ _ _
    | exact loc_asIntOf _
    | apply_assumption -exfalso -symm
    | refine Loc.bind (Loc.load _) ?_
    | refine Loc.bind (Loc.store _ _) ?_
    | refine Loc.bind Loc.program ?_
    | refine Loc.bind (Loc.shape _) ?_
    | refine Loc.bind (Loc.newObj _) ?_
    | refine Loc.bind (Loc.choose _) ?_
    | refine Loc.bind (loc_typeInfo _) ?_
    | refine Loc.bind (loc_underlying _) ?_
    | refine Loc.bind (loc_zeroValue _) ?_
    | refine Loc.bind (loc_sizeOf _) ?_
    | refine Loc.bind (loc_isAgg _) ?_
    | refine Loc.bind (loc_loadCellsFrom _ _ _ _) ?_
    | refine Loc.bind (loc_loadCells _ _) ?_
    | refine Loc.bind (loc_storeCells _ _ _) ?_
    | refine Loc.bind (loc_loadVar _ _) ?_
    | refine Loc.bind (loc_storeVar _ _ _) ?_
    | refine Loc.bind (loc_newRow _ _) ?_
    | refine Loc.bind (loc_newVar _ _) ?_
    | refine Loc.bind (loc_elemOf _) ?_
    | refine Loc.bind (loc_part _ _ _) ?_
    | refine Loc.bind (loc_runtimePanic _) ?_
    | refine Loc.bind (loc_boundsPanic _ _ _ _) ?_
    | refine Loc.bind (loc_asIntOf _) ?_
    | refine Loc.bind (Q' := fun _ => True) ?_ ?_
    | (intro _ _; skip)
    | (extract_lets -underBinder +onlyGivenNames j; refine jpcut (j := j) ?_ ?_; intro u; subst j; dsimp -zeta only; rotate_left; intro hj; clear_value j)
    | (extract_lets -underBinder +onlyGivenNames j; refine jpcut0 (j := j) ?_ ?_; subst j; rotate_left; intro hj; clear_value j)
    | (extract_lets -underBinder +onlyGivenNames j; clear_value j)
    | split
    | (dsimp only; skip)))
theorem loc_asBool (v : Value) : Loc P B (fun _ => True) (asBool v) := by
  unfold asBool
  (repeat' (first
    | assumption
    | exact Loc.pure trivial
    | exact Loc.halt trivial
    | exact loc_stuck _
    | exact loc_unsupported _
    | exact loc_goPanic _
    | exact Loc.load _
    | exact Loc.store _ _
    | exact Loc.freeze _ _
    | exact Loc.frozen _
    | exact Loc.choose _
    | exact Loc.mono (Loc.shape _) (fun _ _ => trivial)
    | exact Loc.mono (Loc.newObj _) (fun _ _ => trivial)
    | exact Loc.mono Loc.program (fun _ _ => trivial)
    | exact loc_typeInfo _
    | exact loc_underlying _
    | exact loc_zeroValue _
    | exact loc_sizeOf _
    | exact loc_isAgg _
    | exact loc_loadCellsFrom _ _ _ _
    | exact loc_loadCells _ _
    | exact loc_storeCells _ _ _
    | exact loc_loadVar _ _
    | exact loc_storeVar _ _ _
    | exact loc_newRow _ _
    | exact loc_newVar _ _
    | exact loc_elemOf _
    | exact loc_part _ _ _
    | exact loc_runtimePanic _
    | exact loc_boundsPanic _ _ _ _
    | exact loc_asIntOf _
    | exact loc_asInt _
    | apply_assumption -exfalso -symm
    | refine Loc.bind (Loc.load _) ?_
    | refine Loc.bind (Loc.store _ _) ?_
    | refine Loc.bind Loc.program ?_
    | refine Loc.bind (Loc.shape _) ?_
    | refine Loc.bind (Loc.newObj _) ?_
    | refine Loc.bind (Loc.choose _) ?_
    | refine Loc.bind (loc_typeInfo _) ?_
    | refine Loc.bind (loc_underlying _) ?_
    | refine Loc.bind (loc_zeroValue _) ?_
    | refine Loc.bind (loc_sizeOf _) ?_
    | refine Loc.bind (loc_isAgg _) ?_
    | refine Loc.bind (loc_loadCellsFrom _ _ _ _) ?_
    | refine Loc.bind (loc_loadCells _ _) ?_
    | refine Loc.bind (loc_storeCells _ _ _) ?_
    | refine Loc.bind (loc_loadVar _ _) ?_
    | refine Loc.bind (loc_storeVar _ _ _) ?_
    | refine Loc.bind (loc_newRow _ _) ?_
    | refine Loc.bind (loc_newVar _ _) ?_
    | refine Loc.bind (loc_elemOf _) ?_
    | refine Loc.bind (loc_part _ _ _) ?_
    | refine Loc.bind (loc_runtimePanic _) ?_
    | refine Loc.bind (loc_boundsPanic _ _ _ _) ?_
    | refine Loc.bind (loc_asIntOf _) ?_
    | refine Loc.bind (loc_asInt _) ?_
    | refine Loc.bind (Q' := fun _ => True) ?_ ?_
    | (intro _ _; skip)
    | (extract_lets -underBinder +onlyGivenNames j; refine jpcut (j := j) ?_ ?_; intro u; subst j; dsimp -zeta only; rotate_left; intro hj; clear_value j)
    | (extract_lets -underBinder +onlyGivenNames j; refine jpcut0 (j := j) ?_ ?_; subst j; rotate_left; intro hj; clear_value j)
    | (extract_lets -underBinder +onlyGivenNames j; clear_value j)
    | split
    | (dsimp only; skip)))
theorem loc_asString (v : Value) : Loc P B (fun _ => True) (asString v) := by
  unfold asString
  (repeat' (first
    | assumption
    | exact Loc.pure trivial
    | exact Loc.halt trivial
    | exact loc_stuck _
    | exact loc_unsupported _
    | exact loc_goPanic _
    | exact Loc.load _
    | exact Loc.store _ _
    | exact Loc.freeze _ _
    | exact Loc.frozen _
    | exact Loc.choose _
    | exact Loc.mono (Loc.shape _) (fun _ _ => trivial)
    | exact Loc.mono (Loc.newObj _) (fun _ _ => trivial)
    | exact Loc.mono Loc.program (fun _ _ => trivial)
    | exact loc_typeInfo _
    | exact loc_underlying _
    | exact loc_zeroValue _
    | exact loc_sizeOf _
    | exact loc_isAgg _
    | exact loc_loadCellsFrom _ _ _ _
    | exact loc_loadCells _ _
    | exact loc_storeCells _ _ _
    | exact loc_loadVar _ _
    | exact loc_storeVar _ _ _
    | exact loc_newRow _ _
    | exact loc_newVar _ _
    | exact loc_elemOf _
    | exact loc_part _ _ _
    | exact loc_runtimePanic _
    | exact loc_boundsPanic _ _ _ _
    | exact loc_asIntOf _
    | exact loc_asInt _
    | exact loc_asBool _
    | apply_assumption -exfalso -symm
    | refine Loc.bind (Loc.load _) ?_
    | refine Loc.bind (Loc.store _ _) ?_
    | refine Loc.bind Loc.program ?_
    | refine Loc.bind (Loc.shape _) ?_
    | refine Loc.bind (Loc.newObj _) ?_
    | refine Loc.bind (Loc.choose _) ?_
    | refine Loc.bind (loc_typeInfo _) ?_
    | refine Loc.bind (loc_underlying _) ?_
    | refine Loc.bind (loc_zeroValue _) ?_
    | refine Loc.bind (loc_sizeOf _) ?_
    | refine Loc.bind (loc_isAgg _) ?_
    | refine Loc.bind (loc_loadCellsFrom _ _ _ _) ?_
    | refine Loc.bind (loc_loadCells _ _) ?_
    | refine Loc.bind (loc_storeCells _ _ _) ?_
    | refine Loc.bind (loc_loadVar _ _) ?_
    | refine Loc.bind (loc_storeVar _ _ _) ?_
    | refine Loc.bind (loc_newRow _ _) ?_
    | refine Loc.bind (loc_newVar _ _) ?_
    | refine Loc.bind (loc_elemOf _) ?_
    | refine Loc.bind (loc_part _ _ _) ?_
    | refine Loc.bind (loc_runtimePanic _) ?_
    | refine Loc.bind (loc_boundsPanic _ _ _ _) ?_
    | refine Loc.bind (loc_asIntOf _) ?_
    | refine Loc.bind (loc_asInt _) ?_
    | refine Loc.bind (loc_asBool _) ?_
    | refine Loc.bind (Q' := fun _ => True) ?_ ?_
    | (intro _ _; skip)
    | (extract_lets -underBinder +onlyGivenNames j; refine jpcut (j := j) ?_ ?_; intro u; subst j; dsimp -zeta only; rotate_left; intro hj; clear_value j)
    | (extract_lets -underBinder +onlyGivenNames j; refine jpcut0 (j := j) ?_ ?_; subst j; rotate_left; intro hj; clear_value j)
    | (extract_lets -underBinder +onlyGivenNames j; clear_value j)
    | split
    | (dsimp only; skip)))
theorem loc_asAgg (v : Value) : Loc P B (fun _ => True) (asAgg v) := by
  unfold asAgg
  (repeat' (first
    | assumption
    | exact Loc.pure trivial
    | exact Loc.halt trivial
    | exact loc_stuck _
    | exact loc_unsupported _
    | exact loc_goPanic _
    | exact Loc.load _
    | exact Loc.store _ _
    | exact Loc.freeze _ _
    | exact Loc.frozen _
    | exact Loc.choose _
    | exact Loc.mono (Loc.shape _) (fun _ _ => trivial)
    | exact Loc.mono (Loc.newObj _) (fun _ _ => trivial)
    | exact Loc.mono Loc.program (fun _ _ => trivial)
    | exact loc_typeInfo _
    | exact loc_underlying _
    | exact loc_zeroValue _
    | exact loc_sizeOf _
    | exact loc_isAgg _
    | exact loc_loadCellsFrom _ _ _ _
    | exact loc_loadCells _ _
    | exact loc_storeCells _ _ _
    | exact loc_loadVar _ _
    | exact loc_storeVar _ _ _
    | exact loc_newRow _ _
    | exact loc_newVar _ _
    | exact loc_elemOf _
    | exact loc_part _ _ _
    | exact loc_runtimePanic _
    | exact loc_boundsPanic _ _ _ _
    | exact loc_asIntOf _
    | exact loc_asInt _
    | exact loc_asBool _
    | exact loc_asString _
    | apply_assumption -exfalso -symm
    | refine Loc.bind (Loc.load _) ?_
    | refine Loc.bind (Loc.store _ _) ?_
    | refine Loc.bind Loc.program ?_
    | refine Loc.bind (Loc.shape _) ?_
    | refine Loc.bind (Loc.newObj _) ?_
    | refine Loc.bind (Loc.choose _) ?_
    | refine Loc.bind (loc_typeInfo _) ?_
    | refine Loc.bind (loc_underlying _) ?_
    | refine Loc.bind (loc_zeroValue _) ?_
    | refine Loc.bind (loc_sizeOf _) ?_
    | refine Loc.bind (loc_isAgg _) ?_
    | refine Loc.bind (loc_loadCellsFrom _ _ _ _) ?_
    | refine Loc.bind (loc_loadCells _ _) ?_
    | refine Loc.bind (loc_storeCells _ _ _) ?_
    | refine Loc.bind (loc_loadVar _ _) ?_
    | refine Loc.bind (loc_storeVar _ _ _) ?_
    | refine Loc.bind (loc_newRow _ _) ?_
    | refine Loc.bind (loc_newVar _ _) ?_
    | refine Loc.bind (loc_elemOf _) ?_
    | refine Loc.bind (loc_part _ _ _) ?_
    | refine Loc.bind (loc_runtimePanic _) ?_
    | refine Loc.bind (loc_boundsPanic _ _ _ _) ?_
    | refine Loc.bind (loc_asIntOf _) ?_
    | refine Loc.bind (loc_asInt _) ?_
    | refine Loc.bind (loc_asBool _) ?_
    | refine Loc.bind (loc_asString _) ?_
    | refine Loc.bind (Q' := fun _ => True) ?_ ?_
    | (intro _ _; skip)
    | (extract_lets -underBinder +onlyGivenNames j; refine jpcut (j := j) ?_ ?_; intro u; subst j; dsimp -zeta only; rotate_left; intro hj; clear_value j)
    | (extract_lets -underBinder +onlyGivenNames j; refine jpcut0 (j := j) ?_ ?_; subst j; rotate_left; intro hj; clear_value j)
    | (extract_lets -underBinder +onlyGivenNames j; clear_value j)
    | split
    | (dsimp only; skip)))
theorem loc_asAddr (v : Value) : Loc P B (fun _ => True) (asAddr v) := by
  unfold asAddr
  (repeat' (first
    | assumption
    | exact Loc.pure trivial
    | exact Loc.halt trivial
    | exact loc_stuck _
    | exact loc_unsupported _
    | exact loc_goPanic _
    | exact Loc.load _
    | exact Loc.store _ _
    | exact Loc.freeze _ _
    | exact Loc.frozen _
    | exact Loc.choose _
    | exact Loc.mono (Loc.shape _) (fun _ _ => trivial)
    | exact Loc.mono (Loc.newObj _) (fun _ _ => trivial)
    | exact Loc.mono Loc.program (fun _ _ => trivial)
    | exact loc_typeInfo _
    | exact loc_underlying _
    | exact loc_zeroValue _
    | exact loc_sizeOf _
    | exact loc_isAgg _
    | exact loc_loadCellsFrom _ _ _ _
    | exact loc_loadCells _ _
    | exact loc_storeCells _ _ _
    | exact loc_loadVar _ _
    | exact loc_storeVar _ _ _
    | exact loc_newRow _ _
    | exact loc_newVar _ _
    | exact loc_elemOf _
    | exact loc_part _ _ _
    | exact loc_runtimePanic _
    | exact loc_boundsPanic _ _ _ _
    | exact loc_asIntOf _
    | exact loc_asInt _
    | exact loc_asBool _
    | exact loc_asString _
    | exact loc_asAgg _
    | apply_assumption -exfalso -symm
    | refine Loc.bind (Loc.load _) ?_
    | refine Loc.bind (Loc.store _ _) ?_
    | refine Loc.bind Loc.program ?_
    | refine Loc.bind (Loc.shape _) ?_
    | refine Loc.bind (Loc.newObj _) ?_
    | refine Loc.bind (Loc.choose _) ?_
    | refine Loc.bind (loc_typeInfo _) ?_
    | refine Loc.bind (loc_underlying _) ?_
    | refine Loc.bind (loc_zeroValue _) ?_
    | refine Loc.bind (loc_sizeOf _) ?_
    | refine Loc.bind (loc_isAgg _) ?_
    | refine Loc.bind (loc_loadCellsFrom _ _ _ _) ?_
    | refine Loc.bind (loc_loadCells _ _) ?_
    | refine Loc.bind (loc_storeCells _ _ _) ?_
    | refine Loc.bind (loc_loadVar _ _) ?_
    | refine Loc.bind (loc_storeVar _ _ _) ?_
    | refine Loc.bind (loc_newRow _ _) ?_
    | refine Loc.bind (loc_newVar _ _) ?_
    | refine Loc.bind (loc_elemOf _) ?_
    | refine Loc.bind (loc_part _ _ _) ?_
    | refine Loc.bind (loc_runtimePanic _) ?_
    | refine Loc.bind (loc_boundsPanic _ _ _ _) ?_
    | refine Loc.bind (loc_asIntOf _) ?_
    | refine Loc.bind (loc_asInt _) ?_
    | refine Loc.bind (loc_asBool _) ?_
    | refine Loc.bind (loc_asString _) ?_
    | refine Loc.bind (loc_asAgg _) ?_
    | refine Loc.bind (Q' := fun _ => True) ?_ ?_
    | (intro _ _; skip)
    | (extract_lets -underBinder +onlyGivenNames j; refine jpcut (j := j) ?_ ?_; intro u; subst j; dsimp -zeta only; rotate_left; intro hj; clear_value j)
    | (extract_lets -underBinder +onlyGivenNames j; refine jpcut0 (j := j) ?_ ?_; subst j; rotate_left; intro hj; clear_value j)
    | (extract_lets -underBinder +onlyGivenNames j; clear_value j)
    | split
    | (dsimp only; skip)))
theorem loc_askRoom (n : Nat) : Loc P B (fun _ => True) (askRoom n) := by
  unfold askRoom
  split
  · exact Loc.mark trivial
  · exact Loc.pure trivial
theorem loc_markStringish (a : Addr) : Loc P B (fun _ => True) (markStringish a) := by
  unfold markStringish
  (repeat' (first
    | assumption
    | exact Loc.pure trivial
    | exact Loc.halt trivial
    | exact loc_stuck _
    | exact loc_unsupported _
    | exact loc_goPanic _
    | exact Loc.load _
    | exact Loc.store _ _
    | exact Loc.freeze _ _
    | exact Loc.frozen _
    | exact Loc.choose _
    | exact Loc.mono (Loc.shape _) (fun _ _ => trivial)
    | exact Loc.mono (Loc.newObj _) (fun _ _ => trivial)
    | exact Loc.mono Loc.program (fun _ _ => trivial)
    | exact loc_typeInfo _
    | exact loc_underlying _
    | exact loc_zeroValue _
    | exact loc_sizeOf _
    | exact loc_isAgg _
    | exact loc_loadCellsFrom _ _ _ _
    | exact loc_loadCells _ _
    | exact loc_storeCells _ _ _
    | exact loc_loadVar _ _
    | exact loc_storeVar _ _ _
    | exact loc_newRow _ _
    | exact loc_newVar _ _
    | exact loc_elemOf _
    | exact loc_part _ _ _
    | exact loc_runtimePanic _
    | exact loc_boundsPanic _ _ _ _
    | exact loc_asIntOf _
    | exact loc_asInt _
    | exact loc_asBool _
    | exact loc_asString _
    | exact loc_asAgg _
    | exact loc_asAddr _
    | exact loc_askRoom _
    | apply_assumption -exfalso -symm
    | refine Loc.bind (Loc.load _) ?_
    | refine Loc.bind (Loc.store _ _) ?_
    | refine Loc.bind Loc.program ?_
    | refine Loc.bind (Loc.shape _) ?_
    | refine Loc.bind (Loc.newObj _) ?_
    | refine Loc.bind (Loc.choose _) ?_
    | refine Loc.bind (loc_typeInfo _) ?_
    | refine Loc.bind (loc_underlying _) ?_
    | refine Loc.bind (loc_zeroValue _) ?_
    | refine Loc.bind (loc_sizeOf _) ?_
    | refine Loc.bind (loc_isAgg _) ?_
    | refine Loc.bind (loc_loadCellsFrom _ _ _ _) ?_
    | refine Loc.bind (loc_loadCells _ _) ?_
    | refine Loc.bind (loc_storeCells _ _ _) ?_
    | refine Loc.bind (loc_loadVar _ _) ?_
    | refine Loc.bind (loc_storeVar _ _ _) ?_
    | refine Loc.bind (loc_newRow _ _) ?_
    | refine Loc.bind (loc_newVar _ _) ?_
    | refine Loc.bind (loc_elemOf _) ?_
    | refine Loc.bind (loc_part _ _ _) ?_
    | refine Loc.bind (loc_runtimePanic _) ?_
    | refine Loc.bind (loc_boundsPanic _ _ _ _) ?_
    | refine Loc.bind (loc_asIntOf _) ?_
    | refine Loc.bind (loc_asInt _) ?_
    | refine Loc.bind (loc_asBool _) ?_
    | refine Loc.bind (loc_asString _) ?_
    | refine Loc.bind (loc_asAgg _) ?_
    | refine Loc.bind (loc_asAddr _) ?_
    | refine Loc.bind (loc_askRoom _) ?_
    | refine Loc.bind (Q' := fun _ => True) ?_ ?_
    | (intro _ _; skip)
    | (extract_lets -underBinder +onlyGivenNames j; refine jpcut (j := j) ?_ ?_; intro u; subst j; dsimp -zeta only; rotate_left; intro hj; clear_value j)
    | (extract_lets -underBinder +onlyGivenNames j; refine jpcut0 (j := j) ?_ ?_; subst j; rotate_left; intro hj; clear_value j)
    | (extract_lets -underBinder +onlyGivenNames j; clear_value j)
    | split
    | (dsimp only; skip)))
theorem loc_stringish (a : Addr) : Loc P B (fun _ => True) (stringish a) := by
  unfold stringish
  (repeat' (first
    | assumption
    | exact Loc.pure trivial
    | exact Loc.halt trivial
    | exact loc_stuck _
    | exact loc_unsupported _
    | exact loc_goPanic _
    | exact Loc.load _
    | exact Loc.store _ _
    | exact Loc.freeze _ _
    | exact Loc.frozen _
    | exact Loc.choose _
    | exact Loc.mono (Loc.shape _) (fun _ _ => trivial)
    | exact Loc.mono (Loc.newObj _) (fun _ _ => trivial)
    | exact Loc.mono Loc.program (fun _ _ => trivial)
    | exact loc_typeInfo _
    | exact loc_underlying _
    | exact loc_zeroValue _
    | exact loc_sizeOf _
    | exact loc_isAgg _
    | exact loc_loadCellsFrom _ _ _ _
    | exact loc_loadCells _ _
    | exact loc_storeCells _ _ _
    | exact loc_loadVar _ _
    | exact loc_storeVar _ _ _
    | exact loc_newRow _ _
    | exact loc_newVar _ _
    | exact loc_elemOf _
    | exact loc_part _ _ _
    | exact loc_runtimePanic _
    | exact loc_boundsPanic _ _ _ _
    | exact loc_asIntOf _
    | exact loc_asInt _
    | exact loc_asBool _
    | exact loc_asString _
    | exact loc_asAgg _
    | exact loc_asAddr _
    | exact loc_askRoom _
    | exact loc_markStringish _
    | apply_assumption -exfalso -symm
    | refine Loc.bind (Loc.load _) ?_
    | refine Loc.bind (Loc.store _ _) ?_
    | refine Loc.bind Loc.program ?_
    | refine Loc.bind (Loc.shape _) ?_
    | refine Loc.bind (Loc.newObj _) ?_
    | refine Loc.bind (Loc.choose _) ?_
    | refine Loc.bind (loc_typeInfo _) ?_
    | refine Loc.bind (loc_underlying _) ?_
    | refine Loc.bind (loc_zeroValue _) ?_
    | refine Loc.bind (loc_sizeOf _) ?_
    | refine Loc.bind (loc_isAgg _) ?_
    | refine Loc.bind (loc_loadCellsFrom _ _ _ _) ?_
    | refine Loc.bind (loc_loadCells _ _) ?_
    | refine Loc.bind (loc_storeCells _ _ _) ?_
    | refine Loc.bind (loc_loadVar _ _) ?_
    | refine Loc.bind (loc_storeVar _ _ _) ?_
    | refine Loc.bind (loc_newRow _ _) ?_
    | refine Loc.bind (loc_newVar _ _) ?_
    | refine Loc.bind (loc_elemOf _) ?_
    | refine Loc.bind (loc_part _ _ _) ?_
    | refine Loc.bind (loc_runtimePanic _) ?_
    | refine Loc.bind (loc_boundsPanic _ _ _ _) ?_
    | refine Loc.bind (loc_asIntOf _) ?_
    | refine Loc.bind (loc_asInt _) ?_
    | refine Loc.bind (loc_asBool _) ?_
    | refine Loc.bind (loc_asString _) ?_
    | refine Loc.bind (loc_asAgg _) ?_
    | refine Loc.bind (loc_asAddr _) ?_
    | refine Loc.bind (loc_askRoom _) ?_
    | refine Loc.bind (loc_markStringish _) ?_
    | refine Loc.bind (Q' := fun _ => True) ?_ ?_
    | (intro _ _; skip)
    | (extract_lets -underBinder +onlyGivenNames j; refine jpcut (j := j) ?_ ?_; intro u; subst j; dsimp -zeta only; rotate_left; intro hj; clear_value j)
    | (extract_lets -underBinder +onlyGivenNames j; refine jpcut0 (j := j) ?_ ?_; subst j; rotate_left; intro hj; clear_value j)
    | (extract_lets -underBinder +onlyGivenNames j; clear_value j)
    | split
    | (dsimp only; skip)))
theorem loc_mayBeOne (a b : Addr) : Loc P B (fun _ => True) (mayBeOne a b) := by
  unfold mayBeOne
  (repeat' (first
    | assumption
    | exact Loc.pure trivial
    | exact Loc.halt trivial
    | exact loc_stuck _
    | exact loc_unsupported _
    | exact loc_goPanic _
    | exact Loc.load _
    | exact Loc.store _ _
    | exact Loc.freeze _ _
    | exact Loc.frozen _
    | exact Loc.choose _
    | exact Loc.mono (Loc.shape _) (fun _ _ => trivial)
    | exact Loc.mono (Loc.newObj _) (fun _ _ => trivial)
    | exact Loc.mono Loc.program (fun _ _ => trivial)
    | exact loc_typeInfo _
    | exact loc_underlying _
    | exact loc_zeroValue _
    | exact loc_sizeOf _
    | exact loc_isAgg _
    | exact loc_loadCellsFrom _ _ _ _
    | exact loc_loadCells _ _
    | exact loc_storeCells _ _ _
    | exact loc_loadVar _ _
    | exact loc_storeVar _ _ _
    | exact loc_newRow _ _
    | exact loc_newVar _ _
    | exact loc_elemOf _
    | exact loc_part _ _ _
    | exact loc_runtimePanic _
    | exact loc_boundsPanic _ _ _ _
    | exact loc_asIntOf _
    | exact loc_asInt _
    | exact loc_asBool _
    | exact loc_asString _
    | exact loc_asAgg _
    | exact loc_asAddr _
    | exact loc_askRoom _
    | exact loc_markStringish _
    | exact loc_stringish _
    | apply_assumption -exfalso -symm
    | refine Loc.bind (Loc.load _) ?_
    | refine Loc.bind (Loc.store _ _) ?_
    | refine Loc.bind Loc.program ?_
    | refine Loc.bind (Loc.shape _) ?_
    | refine Loc.bind (Loc.newObj _) ?_
    | refine Loc.bind (Loc.choose _) ?_
    | refine Loc.bind (loc_typeInfo _) ?_
    | refine Loc.bind (loc_underlying _) ?_
    | refine Loc.bind (loc_zeroValue _) ?_
    | refine Loc.bind (loc_sizeOf _) ?_
    | refine Loc.bind (loc_isAgg _) ?_
    | refine Loc.bind (loc_loadCellsFrom _ _ _ _) ?_
    | refine Loc.bind (loc_loadCells _ _) ?_
    | refine Loc.bind (loc_storeCells _ _ _) ?_
    | refine Loc.bind (loc_loadVar _ _) ?_
    | refine Loc.bind (loc_storeVar _ _ _) ?_
    | refine Loc.bind (loc_newRow _ _) ?_
    | refine Loc.bind (loc_newVar _ _) ?_
    | refine Loc.bind (loc_elemOf _) ?_
    | refine Loc.bind (loc_part _ _ _) ?_
    | refine Loc.bind (loc_runtimePanic _) ?_
    | refine Loc.bind (loc_boundsPanic _ _ _ _) ?_
    | refine Loc.bind (loc_asIntOf _) ?_
    | refine Loc.bind (loc_asInt _) ?_
    | refine Loc.bind (loc_asBool _) ?_
    | refine Loc.bind (loc_asString _) ?_
    | refine Loc.bind (loc_asAgg _) ?_
    | refine Loc.bind (loc_asAddr _) ?_
    | refine Loc.bind (loc_askRoom _) ?_
    | refine Loc.bind (loc_markStringish _) ?_
    | refine Loc.bind (loc_stringish _) ?_
    | refine Loc.bind (Q' := fun _ => True) ?_ ?_
    | (intro _ _; skip)
    | (extract_lets -underBinder +onlyGivenNames j; refine jpcut (j := j) ?_ ?_; intro u; subst j; dsimp -zeta only; rotate_left; intro hj; clear_value j)
    | (extract_lets -underBinder +onlyGivenNames j; refine jpcut0 (j := j) ?_ ?_; subst j; rotate_left; intro hj; clear_value j)
    | (extract_lets -underBinder +onlyGivenNames j; clear_value j)
    | split
    | (dsimp only; skip)))

/-- A place seen: another's is told as a view. -/
theorem loc_viewAt (r : Nat) {β : Type} {Q : β → Prop} {f : Option (Addr × TypeId) → Sem β} (hd : B r → ∀ x, Dead P B (f (some x))) (hf : ∀ o, ¬ B r → Loc P B Q (f o)) : Loc P B Q (viewAt r >>= f) := by
  have e : (viewAt r >>= f) = (shape r >>= fun s => if s.isSome then f none else getObj r >>= fun o => match o with | .view a t => f (some (a, t)) | _ => f none) := by
    unfold viewAt
    show Sem.bind _ _ = Sem.bind _ _
    simp only [shape, Bind.bind, Sem.bind]
    congr 1
    funext s
    cases s with
    | some x => rfl
    | none =>
      show Sem.bind (Sem.bind (getObj r) _) f = Sem.bind (getObj r) _
      simp only [getObj, Sem.bind]
      congr 1
      funext o
      cases o <;> rfl
  rw [e]
  refine Loc.bind (Loc.shape r) fun s hs => ?_
  by_cases hb : B r
  · rw [hs hb]
    exact Loc.getObj (fun _ => hd hb _) (fun o h => absurd hb h)
  · split
    · exact hf _ hb
    · refine Loc.getObj (fun h => absurd h hb) fun o _ => ?_
      split
      · exact hf _ hb
      · exact hf _ hb

theorem loc_noView (a : Addr) : Loc P B (fun _ => ¬ B a.block) (noView a) := by
  unfold noView
  refine loc_viewAt _ (fun hb x => ?_) fun o hb => ?_
  · exact dead_unsupported _
  · split
    · exact loc_unsupported _
    · exact Loc.pure hb
theorem loc_noView' (a : Addr) : Loc P B (fun _ => True) (noView a) := Loc.mono (loc_noView a) fun _ _ => trivial

theorem loc_sameAddr (a b : Addr) : Loc P B (fun _ => True) (sameAddr a b) := by
  unfold sameAddr
  (repeat' (first
    | assumption
    | exact Loc.pure trivial
    | exact Loc.halt trivial
    | exact loc_stuck _
    | exact loc_unsupported _
    | exact loc_goPanic _
    | exact Loc.load _
    | exact Loc.store _ _
    | exact Loc.freeze _ _
    | exact Loc.frozen _
    | exact Loc.choose _
    | exact Loc.mono (Loc.shape _) (fun _ _ => trivial)
    | exact Loc.mono (Loc.newObj _) (fun _ _ => trivial)
    | exact Loc.mono Loc.program (fun _ _ => trivial)
    | exact loc_typeInfo _
    | exact loc_underlying _
    | exact loc_zeroValue _
    | exact loc_sizeOf _
    | exact loc_isAgg _
    | exact loc_loadCellsFrom _ _ _ _
    | exact loc_loadCells _ _
    | exact loc_storeCells _ _ _
    | exact loc_loadVar _ _
    | exact loc_storeVar _ _ _
    | exact loc_newRow _ _
    | exact loc_newVar _ _
    | exact loc_elemOf _
    | exact loc_part _ _ _
    | exact loc_runtimePanic _
    | exact loc_boundsPanic _ _ _ _
    | exact loc_asIntOf _
    | exact loc_asInt _
    | exact loc_asBool _
    | exact loc_asString _
    | exact loc_asAgg _
    | exact loc_asAddr _
    | exact loc_askRoom _
    | exact loc_markStringish _
    | exact loc_stringish _
    | exact loc_mayBeOne _ _
    | exact loc_noView _
    | exact loc_noView' _
    | apply_assumption -exfalso -symm
    | refine Loc.bind (Loc.load _) ?_
    | refine Loc.bind (Loc.store _ _) ?_
    | refine Loc.bind Loc.program ?_
    | refine Loc.bind (Loc.shape _) ?_
    | refine Loc.bind (Loc.newObj _) ?_
    | refine Loc.bind (Loc.choose _) ?_
    | refine Loc.bind (loc_typeInfo _) ?_
    | refine Loc.bind (loc_underlying _) ?_
    | refine Loc.bind (loc_zeroValue _) ?_
    | refine Loc.bind (loc_sizeOf _) ?_
    | refine Loc.bind (loc_isAgg _) ?_
    | refine Loc.bind (loc_loadCellsFrom _ _ _ _) ?_
    | refine Loc.bind (loc_loadCells _ _) ?_
    | refine Loc.bind (loc_storeCells _ _ _) ?_
    | refine Loc.bind (loc_loadVar _ _) ?_
    | refine Loc.bind (loc_storeVar _ _ _) ?_
    | refine Loc.bind (loc_newRow _ _) ?_
    | refine Loc.bind (loc_newVar _ _) ?_
    | refine Loc.bind (loc_elemOf _) ?_
    | refine Loc.bind (loc_part _ _ _) ?_
    | refine Loc.bind (loc_runtimePanic _) ?_
    | refine Loc.bind (loc_boundsPanic _ _ _ _) ?_
    | refine Loc.bind (loc_asIntOf _) ?_
    | refine Loc.bind (loc_asInt _) ?_
    | refine Loc.bind (loc_asBool _) ?_
    | refine Loc.bind (loc_asString _) ?_
    | refine Loc.bind (loc_asAgg _) ?_
    | refine Loc.bind (loc_asAddr _) ?_
    | refine Loc.bind (loc_askRoom _) ?_
    | refine Loc.bind (loc_markStringish _) ?_
    | refine Loc.bind (loc_stringish _) ?_
    | refine Loc.bind (loc_mayBeOne _ _) ?_
    | refine Loc.bind (loc_noView _) ?_
    | refine Loc.bind (loc_noView' _) ?_
    | refine Loc.bind (Q' := fun _ => True) ?_ ?_
    | (intro _ _; skip)
    | (extract_lets -underBinder +onlyGivenNames j; refine jpcut (j := j) ?_ ?_; intro u; subst j; dsimp -zeta only; rotate_left; intro hj; clear_value j)
    | (extract_lets -underBinder +onlyGivenNames j; refine jpcut0 (j := j) ?_ ?_; subst j; rotate_left; intro hj; clear_value j)
    | (extract_lets -underBinder +onlyGivenNames j; clear_value j)
    | split
    | (dsimp only; skip)))
theorem loc_samePointer (a b : Option Addr) : Loc P B (fun _ => True) (samePointer a b) := by
  unfold samePointer
  (repeat' (first
    | assumption
    | exact Loc.pure trivial
    | exact Loc.halt trivial
    | exact loc_stuck _
    | exact loc_unsupported _
    | exact loc_goPanic _
    | exact Loc.load _
    | exact Loc.store _ _
    | exact Loc.freeze _ _
    | exact Loc.frozen _
    | exact Loc.choose _
    | exact Loc.mono (Loc.shape _) (fun _ _ => trivial)
    | exact Loc.mono (Loc.newObj _) (fun _ _ => trivial)
    | exact Loc.mono Loc.program (fun _ _ => trivial)
    | exact loc_typeInfo _
    | exact loc_underlying _
    | exact loc_zeroValue _
    | exact loc_sizeOf _
    | exact loc_isAgg _
    | exact loc_loadCellsFrom _ _ _ _
    | exact loc_loadCells _ _
    | exact loc_storeCells _ _ _
    | exact loc_loadVar _ _
    | exact loc_storeVar _ _ _
    | exact loc_newRow _ _
    | exact loc_newVar _ _
    | exact loc_elemOf _
    | exact loc_part _ _ _
    | exact loc_runtimePanic _
    | exact loc_boundsPanic _ _ _ _
    | exact loc_asIntOf _
    | exact loc_asInt _
    | exact loc_asBool _
    | exact loc_asString _
    | exact loc_asAgg _
    | exact loc_asAddr _
    | exact loc_askRoom _
    | exact loc_markStringish _
    | exact loc_stringish _
    | exact loc_mayBeOne _ _
    | exact loc_noView _
    | exact loc_noView' _
    | exact loc_sameAddr _ _
    | apply_assumption -exfalso -symm
    | refine Loc.bind (Loc.load _) ?_
    | refine Loc.bind (Loc.store _ _) ?_
    | refine Loc.bind Loc.program ?_
    | refine Loc.bind (Loc.shape _) ?_
    | refine Loc.bind (Loc.newObj _) ?_
    | refine Loc.bind (Loc.choose _) ?_
    | refine Loc.bind (loc_typeInfo _) ?_
    | refine Loc.bind (loc_underlying _) ?_
    | refine Loc.bind (loc_zeroValue _) ?_
    | refine Loc.bind (loc_sizeOf _) ?_
    | refine Loc.bind (loc_isAgg _) ?_
    | refine Loc.bind (loc_loadCellsFrom _ _ _ _) ?_
    | refine Loc.bind (loc_loadCells _ _) ?_
    | refine Loc.bind (loc_storeCells _ _ _) ?_
    | refine Loc.bind (loc_loadVar _ _) ?_
    | refine Loc.bind (loc_storeVar _ _ _) ?_
    | refine Loc.bind (loc_newRow _ _) ?_
    | refine Loc.bind (loc_newVar _ _) ?_
    | refine Loc.bind (loc_elemOf _) ?_
    | refine Loc.bind (loc_part _ _ _) ?_
    | refine Loc.bind (loc_runtimePanic _) ?_
    | refine Loc.bind (loc_boundsPanic _ _ _ _) ?_
    | refine Loc.bind (loc_asIntOf _) ?_
    | refine Loc.bind (loc_asInt _) ?_
    | refine Loc.bind (loc_asBool _) ?_
    | refine Loc.bind (loc_asString _) ?_
    | refine Loc.bind (loc_asAgg _) ?_
    | refine Loc.bind (loc_asAddr _) ?_
    | refine Loc.bind (loc_askRoom _) ?_
    | refine Loc.bind (loc_markStringish _) ?_
    | refine Loc.bind (loc_stringish _) ?_
    | refine Loc.bind (loc_mayBeOne _ _) ?_
    | refine Loc.bind (loc_noView _) ?_
    | refine Loc.bind (loc_noView' _) ?_
    | refine Loc.bind (loc_sameAddr _ _) ?_
    | refine Loc.bind (Q' := fun _ => True) ?_ ?_
    | (intro _ _; skip)
    | (extract_lets -underBinder +onlyGivenNames j; refine jpcut (j := j) ?_ ?_; intro u; subst j; dsimp -zeta only; rotate_left; intro hj; clear_value j)
    | (extract_lets -underBinder +onlyGivenNames j; refine jpcut0 (j := j) ?_ ?_; subst j; rotate_left; intro hj; clear_value j)
    | (extract_lets -underBinder +onlyGivenNames j; clear_value j)
    | split
    | (dsimp only; skip)))

/-- What stands behind a number: of another's block nothing. -/
theorem loc_numberAt (r : Nat) {β : Type} {Q : β → Prop} {f : Option (Addr × Bool) → Sem β} (hd : B r → Dead P B (f none)) (hf : ∀ o, ¬ B r → Loc P B Q (f o)) : Loc P B Q (numberAt r >>= f) := by
  have e : (numberAt r >>= f) = (shape r >>= fun s => if s.isSome then f none else getObj r >>= fun o => match o with | .number a t => f (some (a, t)) | _ => f none) := by
    unfold numberAt
    show Sem.bind _ _ = Sem.bind _ _
    simp only [shape, Bind.bind, Sem.bind]
    congr 1
    funext s
    cases s with
    | some x => rfl
    | none =>
      show Sem.bind (Sem.bind (getObj r) _) f = Sem.bind (getObj r) _
      simp only [getObj, Sem.bind]
      congr 1
      funext o
      cases o <;> rfl
  rw [e]
  refine Loc.bind (Loc.shape r) fun s hs => ?_
  by_cases hb : B r
  · rw [hs hb]
    exact Loc.getObj (fun _ => hd hb) (fun o h => absurd hb h)
  · split
    · exact hf _ hb
    · refine Loc.getObj (fun h => absurd h hb) fun o _ => ?_
      split
      · exact hf _ hb
      · exact hf _ hb
end
end Go.Co
