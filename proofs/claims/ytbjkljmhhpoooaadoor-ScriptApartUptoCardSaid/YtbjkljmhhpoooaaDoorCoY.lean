/-
  ONE STEP IN COMPANY, in the walk's own form.
-/
import Derived.Test.YtbjkljmhhpoooaaDoorCoM
import Derived.Conc.CrowdComm
import Derived.Conc.Know
import Derived.Conc.Beside
import Derived.KernelRfl

/-
  THE BAR: a lone walk that comes to its end on every tape.
-/
namespace Go.Co

section
variable {P : Program} {S : Sets} {B : Nat → Prop}

/-- A place of the walled walk. -/
structure Spot where
  fr : Frame
  L : List Frame
  v : World

def Spot.lone (s : Spot) (T : Nat → Question → Nat) (D : Nat) : Machine := Go.lone s.fr (s.L ++ [c0]) (s.v.on T D)

/-- It goes on to 's'' if the tape's next answers are those of 't' from 'd' on. -/
def Goes' (P : Program) (body : Bool) (s s' : Spot) (t : Nat → Question → Nat) (d : Nat) : Prop := ¬ Final body s.fr s.L ∧ ∃ es, stepG P true (vg c0 s.fr s.L) (s.v.on t d) = .go (vg c0 s'.fr s'.L) s'.v es

theorem runN_succ' (n : Nat) (m : Machine) : runN P (n + 1) m = match runN P n m with | .next m' => step P m' | e => e := by
  rw [runN_add]
  cases runN P n m with
  | next m' =>
    simp only [runN]
    cases step P m' <;> rfl
  | ended o w => rfl

theorem on_on (v : World) (t t' : Nat → Question → Nat) (d d' : Nat) : (v.on t d).on t' d' = v.on t' d' := rfl

theorem bar_of_lone (hR : Ready P S B) (hC : Codes P S) {body : Bool} {Fin : Frame → World → Prop} (hI : ∀ fr v t d, Fin fr v → Fin fr (v.on t d)) {fr : Frame} {L : List Frame} {v : World} (hf : Fit P S fr L) (hm : Masked B v)
    (h : ∀ T, ∃ m fr' v', runN P m (lone fr (L ++ [c0]) (v.on T 0)) = .next (lone fr' [c0] v') ∧ Endp body fr' ∧ Fin fr' v') : Bar P body Fin fr L v := by
  classical
  refine Classical.byContradiction fun hnb => ?_
  let Bad : Spot → Prop := fun s => ¬ Bar P body Fin s.fr s.L s.v ∧ Fit P S s.fr s.L ∧ Masked B s.v
  let Good : Spot → Prop := fun s => ∃ r : Spot × (Nat → Question → Nat) × Nat, Goes' P body s r.1 r.2.1 r.2.2 ∧ Bad r.1
  obtain ⟨nx, hnx⟩ : ∃ nx : Spot → Spot × (Nat → Question → Nat) × Nat, ∀ s, Good s → Goes' P body s (nx s).1 (nx s).2.1 (nx s).2.2 ∧ Bad (nx s).1 := by
    refine ⟨fun s => if h : Good s then Classical.choose h else (s, fun _ _ => 0, 0), fun s hs => ?_⟩
    simp only [dif_pos hs]
    exact Classical.choose_spec hs
  let s0 : Spot := ⟨fr, L, v⟩
  let s : Nat → Spot := fun n => Nat.rec s0 (fun _ x => (nx x).1) n
  have s_succ : ∀ n, s (n + 1) = (nx (s n)).1 := fun n => rfl
  let cnt : Nat → Nat := fun n => (s (n + 1)).v.drawn - (nx (s n)).2.2
  let f : Nat → Nat → Question → Nat := fun n j => (nx (s n)).2.1 ((nx (s n)).2.2 + j)
  have bad : ∀ n, (∀ m, m < n → Good (s m)) → Bad (s n) := by
    intro n
    cases n with
    | zero => exact fun _ => ⟨hnb, hf, hm⟩
    | succ n => exact fun hg => (hnx (s n) (hg n (by omega))).2
  have run : ∀ T n, (∀ m, m < n → Good (s m)) → (∀ m j, m < n → j < cnt m → T (sums cnt m + j) = f m j) → runN P n (s0.lone T 0) = .next ((s n).lone T (sums cnt n)) := by
    intro T n
    induction n with
    | zero => intro _ _; rfl
    | succ n ih =>
      intro hg hT
      rw [runN_succ', ih (fun m hm => hg m (by omega)) (fun m j hm => hT m j (by omega))]
      obtain ⟨⟨hnf, es, hstep⟩, _⟩ := hnx (s n) (hg n (by omega))
      obtain ⟨_, hfit, hmask⟩ := bad n (fun m hm => hg m (by omega))
      obtain ⟨_, _, _, hle, hloc⟩ := step_local hR hC hfit hmask hnf hstep
      have := hloc T (sums cnt n) (fun j hj => hT n j (by omega) hj)
      exact step_lone_of this
  have endpoint : ∀ n, (∀ m, m < n → Good (s m)) → ∀ T, (∀ m j, m < n → j < cnt m → T (sums cnt m + j) = f m j) → ∀ fr' v', runN P n (s0.lone T 0) = .next (lone fr' [c0] v') → (s n).L = [] ∧ fr' = (s n).fr ∧ v' = (s n).v.on T (sums cnt n) := by
    intro n hg T hT fr' v' hr
    rw [run T n hg hT] at hr
    have e := Stepped.next.inj hr
    unfold Spot.lone lone at e
    have e1 := congrArg Machine.gs e
    have e2 := congrArg Machine.world e
    simp only [Array.mk.injEq, List.cons.injEq, and_true, Goroutine.mk.injEq] at e1 e2
    have h1 := e1.1
    have h2 := e1.2
    refine ⟨?_, h1.symm, e2.symm⟩
    have := congrArg List.length h2
    simp only [List.length_append, List.length_cons, List.length_nil] at this
    exact List.eq_nil_of_length_eq_zero (by omega)
  by_cases hall : ∀ n, Good (s n)
  · obtain ⟨T, hT⟩ := splice cnt f
    obtain ⟨m, fr', v', hr, hmo, hfin⟩ := h T
    obtain ⟨hL, he, hv⟩ := endpoint m (fun m _ => hall m) T (fun m j _ hj => hT m j hj) fr' v' hr
    exact (hnx (s m) (hall m)).1.1 (by rw [hL, ← he]; exact hmo.final)
  · obtain ⟨n, hng, hlt⟩ : ∃ n, ¬ Good (s n) ∧ ∀ m, m < n → Good (s m) := by
      refine Classical.byContradiction fun hno => hall fun n => ?_
      induction n using Nat.strongRecOn with
      | _ n ih => exact Classical.byContradiction fun hg => hno ⟨n, hg, ih⟩
    obtain ⟨hnbar, hfit, hmask⟩ := bad n hlt
    by_cases hfinal : Final body (s n).fr (s n).L
    · have hnF : ¬ Fin (s n).fr (s n).v := fun hF => hnbar (.fin hfinal hF)
      obtain ⟨T, hT, _⟩ := splice_tail n cnt f (fun _ _ => 0)
      obtain ⟨m, fr', v', hr, hmo, hfin⟩ := h T
      rcases Nat.lt_trichotomy m n with hmn | rfl | hmn
      · obtain ⟨hL, he, hv⟩ := endpoint m (fun i hi => hlt i (by omega)) T (fun i j hi hj => hT i j (by omega) hj) fr' v' hr
        exact (hnx (s m) (hlt m hmn)).1.1 (by rw [hL, ← he]; exact hmo.final)
      · obtain ⟨hL, he, hv⟩ := endpoint m hlt T hT fr' v' hr
        subst he hv
        exact hnF (hI _ ((s m).v.on T (sums cnt m)) (s m).v.tape (s m).v.drawn hfin)
      · have hrn := run T n hlt hT
        obtain ⟨j, rfl⟩ : ∃ j, m = n + (j + 1) := ⟨m - n - 1, by omega⟩
        have hr' : runN P (n + (j + 1)) (s0.lone T 0) = .next (lone fr' [c0] v') := hr
        rw [runN_add, hrn] at hr'
        simp only [Spot.lone] at hr'
        rw [hfinal.1, List.nil_append] at hr'
        exact final_stuck (body := body) hfit.top ⟨rfl, hfinal.2⟩ _ j fr' v' hr' hmo
    · -- some tape ends the run here
      obtain ⟨t, d, o, w, es, hend⟩ : ∃ t d o w es, stepG P true (vg c0 (s n).fr (s n).L) ((s n).v.on t d) = .ended o w es := by
        refine Classical.byContradiction fun hno => hnbar (.step hfinal (fun t d o w es he => hno ⟨t, d, o, w, es, he⟩) fun t d fr' L' v' es hs => ?_)
        refine Classical.byContradiction fun hb => hng ⟨(⟨fr', L', v'⟩, t, d), ⟨hfinal, es, hs⟩, hb, ?_⟩
        obtain ⟨h1, h2, _⟩ := step_local hR hC hfit hmask hfinal hs
        exact ⟨h1, h2⟩
      obtain ⟨T, hT, htail⟩ := splice_tail n cnt f (fun j => t (d + j))
      obtain ⟨m, fr', v', hr, hmo, hfin⟩ := h T
      rcases Nat.lt_trichotomy m n with hmn | rfl | hmn
      · obtain ⟨hL, he, hv⟩ := endpoint m (fun i hi => hlt i (by omega)) T (fun i j hi hj => hT i j (by omega) hj) fr' v' hr
        exact (hnx (s m) (hlt m hmn)).1.1 (by rw [hL, ← he]; exact hmo.final)
      · obtain ⟨hL, he, hv⟩ := endpoint m hlt T hT fr' v' hr
        exact hfinal (by rw [hL, ← he]; exact hmo.final)
      · have hrn := run T n hlt hT
        obtain ⟨j, rfl⟩ : ∃ j, m = n + (j + 1) := ⟨m - n - 1, by omega⟩
        have hr' : runN P (n + (j + 1)) (s0.lone T 0) = .next (lone fr' [c0] v') := hr
        rw [runN_add, hrn] at hr'
        simp only at hr'
        have hlive : ((s n).fr.mode = .run ∧ ((s n).fr.todo ≠ [] ∨ ek [] (s n).L = [])) ∨ (s n).L ≠ [] := by
          by_cases hL : (s n).L = []
          · left
            by_cases hmm : (s n).fr.mode = .run
            · exact ⟨hmm, .inr (by cases (s n).L <;> rfl)⟩
            · exact absurd ⟨hL, .inl hmm⟩ hfinal
          · exact .inr hL
        rcases sim_step (k := []) (cs := [c0]) (c0 := c0) hR hC hfit (masked_on hmask T (sums cnt n)) hlive with ⟨o', w', es', he⟩ | ⟨fr2, L2, v2, es2, he, _⟩
        · have : step P ((s n).lone T (sums cnt n)) = .ended o' w' := step_lone_end he
          rw [runN_ended this] at hr'
          cases hr'
        · obtain ⟨_, _, _, _, hloc⟩ := step_local hR hC hfit hmask hfinal he
          have := hloc t d (fun j _ => (htail j).symm)
          rw [hend] at this
          cases this

end
end Go.Co

/-
  IN COMPANY: a goroutine is on its way to a stop, whatever the others do meanwhile ('Way'); A LONE WALK OF A PIECE OF CODE, IN THE WALLED WORLD, IS SUCH A WAY ('lift_code').
-/
namespace Go.Co
open Go.Conc (G)

/-- What the others may do meanwhile. -/
structure Rely (B : Nat → Prop) (w w1 : World) : Prop where
  tape : w1.tape = w.tape
  os : w1.os = w.os
  output : w1.output = w.output
  size : w1.heap.size = w.heap.size
  same : ∀ k, ¬ B k → w1.heap[k]? = w.heap[k]?
  dull : (∀ k, B k → ∀ c e f, w.heap[k]? ≠ some (.cells c e f)) → ∀ k, B k → ∀ c e f, w1.heap[k]? ≠ some (.cells c e f)

theorem Rely.refl (B : Nat → Prop) (w : World) : Rely B w w := ⟨rfl, rfl, rfl, rfl, fun _ _ => rfl, id⟩
theorem Rely.trans {B : Nat → Prop} {a b c : World} (h : Rely B a b) (k : Rely B b c) : Rely B a c :=
  ⟨k.tape.trans h.tape, k.os.trans h.os, k.output.trans h.output, k.size.trans h.size, fun i hi => (k.same i hi).trans (h.same i hi), fun hd => k.dull (h.dull hd)⟩
theorem Rely.at (B : Nat → Prop) (w : World) (d : Nat) : Rely B w (w.at d) := ⟨rfl, rfl, rfl, rfl, fun _ _ => rfl, id⟩

/-- What its own steps keep. -/
structure Guar (B : Nat → Prop) (w w' : World) (es : Array Event) : Prop where
  keep : ∀ k, B k → w'.heap[k]? = w.heap[k]?
  tape : w'.tape = w.tape
  size : w.heap.size ≤ w'.heap.size
  evs : ∀ e ∈ es, Kept B e

inductive Way (P : Program) (main : Bool) (R : World → World → Prop) (D : World → World → Array Event → Prop) (Stop : Goroutine → World → Prop) : Goroutine → World → Prop
  | stop {g : Goroutine} {w : World} (h : ∀ w1, R w w1 → Stop g w1) : Way P main R D Stop g w
  | step {g : Goroutine} {w : World} (hs : g.status = .running) (h : ∀ w1, R w w1 → ∃ g' w' es, stepG P main g w1 = .go g' w' es ∧ D w1 w' es)
      (hn : ∀ w1 g' w' es, R w w1 → stepG P main g w1 = .go g' w' es → Way P main R D Stop g' w') : Way P main R D Stop g w

section
variable {P : Program} {main : Bool} {R : World → World → Prop} {D : World → World → Array Event → Prop} {Stop Stop' : Goroutine → World → Prop}

theorem Way.rely (tr : ∀ a b c, R a b → R b c → R a c) {g : Goroutine} {w w1 : World} (h : Way P main R D Stop g w) (hr : R w w1) : Way P main R D Stop g w1 := by
  cases h with
  | stop h => exact .stop fun w2 h2 => h w2 (tr _ _ _ hr h2)
  | step hs h hn => exact .step hs (fun w2 h2 => h w2 (tr _ _ _ hr h2)) fun w2 g' w' es h2 => hn w2 g' w' es (tr _ _ _ hr h2)

theorem Way.then (rf : ∀ w, R w w) {g : Goroutine} {w : World} (h : Way P main R D Stop g w) (k : ∀ g w, Stop g w → Way P main R D Stop' g w) : Way P main R D Stop' g w := by
  induction h with
  | stop h => exact k _ _ (h _ (rf _))
  | step hs h _ ih => exact .step hs h ih

theorem Way.mono {g : Goroutine} {w : World} (h : Way P main R D Stop g w) (k : ∀ g w, Stop g w → Stop' g w) : Way P main R D Stop' g w := by
  induction h with
  | stop h => exact .stop fun w1 h1 => k _ _ (h w1 h1)
  | step hs h _ ih => exact .step hs h ih

/-- One step, the same in whatever world. -/
theorem Way.one {g : Goroutine} (hg : g.status = .running) {w : World} (h : ∀ w1, R w w1 → ∃ g' w' es, stepG P main g w1 = .go g' w' es ∧ D w1 w' es ∧ Way P main R D Stop g' w') : Way P main R D Stop g w := by
  refine .step hg (fun w1 h1 => ?_) fun w1 g' w' es h1 hs => ?_
  · obtain ⟨g', w', es, e, d, _⟩ := h w1 h1
    exact ⟨g', w', es, e, d⟩
  · obtain ⟨g2, w2, es2, e, _, k⟩ := h w1 h1
    rw [e] at hs
    cases hs
    exact k
end

section
variable {P : Program} {S : Sets} {B : Nat → Prop}

theorem Veil.rely {w w1 v : World} (h : Veil B w v) (hr : Rely B w w1) : Veil B w1 v :=
  ⟨hr.size.trans h.size, fun k hk => (hr.same k hk).trans (h.same k hk), h.mask, hr.dull h.dull, hr.os.trans h.os, hr.output.trans h.output⟩

theorem Veil.on {w v : World} (h : Veil B w v) (t : Nat → Question → Nat) (d : Nat) : Veil B w (v.on t d) := ⟨h.size, h.same, h.mask, h.dull, h.os, h.output⟩

theorem Bar.way (hR : Ready P S B) (hC : Codes P S) (main : Bool) (k : List Item) (cs : List Frame) {body : Bool} (hbk : body = true → k = []) {Fin : Frame → World → Prop} {fr : Frame} {L : List Frame} {v : World} (hb : Bar P body Fin fr L v) (hf : Fit P S fr L) {w : World} (hv : Veil B w v) :
    Way P main (Rely B) (Guar B) (fun g w' => ∃ fr' v', Fin fr' v' ∧ FrOk P S fr' ∧ g = rg k cs fr' [] ∧ Veil B w' v') (rg k cs fr L) w := by
  induction hb generalizing w with
  | @fin fr L v hfin h =>
    obtain ⟨hL, _⟩ := hfin
    subst hL
    exact .stop fun w1 h1 => ⟨fr, v, h, hf.top, rfl, hv.rely h1⟩
  | @step fr L v hnf hne hn ih =>
    have hlive : (fr.mode = .run ∧ (fr.todo ≠ [] ∨ ek k L = [])) ∨ L ≠ [] := by
      by_cases hL : L = []
      · left
        by_cases hm : fr.mode = .run
        · refine ⟨hm, ?_⟩
          cases hbd : body with
          | true => rw [hbk hbd]; exact .inr (by cases L <;> rfl)
          | false => exact .inl fun ht => hnf ⟨hL, .inr ⟨hbd, ht⟩⟩
        · exact absurd ⟨hL, .inl hm⟩ hnf
      · exact .inr hL
    have key : ∀ w1, Rely B w w1 → ∃ fr' L' v' es w', stepG P true (vg c0 fr L) (v.on w1.tape w1.drawn) = .go (vg c0 fr' L') v' es ∧ Fit P S fr' L' ∧ stepG P main (rg k cs fr L) w1 = .go (rg k cs fr' L') w' es ∧ Veil B w' v' ∧ Guar B w1 w' es := by
      intro w1 h1
      have hv1 : Veil B w1 (v.on w1.tape w1.drawn) := (hv.rely h1).on _ _
      rcases sim_step (k := k) (cs := cs) (c0 := c0) hR hC hf (masked_on hv.mask w1.tape w1.drawn) hlive with ⟨o, w2, es, he⟩ | ⟨fr', L', v', es, he, hf', haft, hev, hreal⟩
      · exact absurd he (hne _ _ _ _ _)
      · obtain ⟨w', h2, hk⟩ := hreal main w1 hv1 (fun j _ => rfl)
        refine ⟨fr', L', v', es, w', he, hf', h2, hk.veil, hk.keep, hk.tape, ?_, hev⟩
        have := haft.size
        rw [hk.veil.size, hv1.size]
        exact this
    refine .step rfl (fun w1 h1 => ?_) fun w1 g' w' es h1 hs => ?_
    · obtain ⟨fr', L', v', es, w', _, _, h2, _, hg⟩ := key w1 h1
      exact ⟨_, w', es, h2, hg⟩
    · obtain ⟨fr', L', v', es2, w2, he, hf', h2, hv', _⟩ := key w1 h1
      rw [h2] at hs
      cases hs
      exact ih _ _ _ _ _ _ he hf' hv'

/-- ████ A LONE WALK OF A PIECE OF CODE IS A WAY IN COMPANY. ████ -/
theorem lift_code (hR : Ready P S B) (hC : Codes P S) (main : Bool) (k : List Item) (cs : List Frame) {c : Code} {b : Frame} (hc : okCode P S b.fn c = true) (hbr : S.D b.fn = []) {a : Act} (ha : a.defers = []) {w v : World} (hv : Veil B w v)
    {Q : Act → World → Prop} (hQ : ∀ a v t d, Q a v → Q a (v.on t d)) (h : ∀ t d, c.wp P (fun e a' v' => e = .normal ∧ Q a' v') a (v.on t d)) :
    Way P main (Rely B) (Guar B) (fun g w' => ∃ a' v', Q a' v' ∧ a'.defers = [] ∧ g = G (b.at a' k) cs ∧ Veil B w' v') (G (b.at a (.code c :: k)) cs) w := by
  have hfr : FrOk P S (b.at a [.code c]) := by
    refine ⟨fun i hi => ?_, ha, rfl, fun t ht => ?_⟩
    · simp only [Frame.at, List.mem_singleton] at hi
      subst hi
      exact hc
    · rw [show (b.at a [.code c]).fn = b.fn from rfl, hbr] at ht; cases ht
  have hfit : Fit P S (b.at a [.code c]) [] := ⟨hfr, fun c hc => (by cases hc), fun f hf => (by simp at hf)⟩
  have hbar : Bar P false (fun fr v' => ∃ a', fr = b.at a' [] ∧ Q a' v') (b.at a [.code c]) [] v := by
    refine bar_of_lone hR hC (fun fr v t d => ?_) hfit hv.mask fun T => ?_
    · rintro ⟨a', h1, h2⟩
      exact ⟨a', h1, hQ _ _ _ _ h2⟩
    · obtain ⟨e, a', w', ⟨rfl, hq⟩, n, hn⟩ := h T 0 b [] [c0]
      exact ⟨n, b.at a' [], w', hn, .inl ⟨rfl, rfl, rfl⟩, a', rfl, hq⟩
  have hw := hbar.way hR hC main k cs (by intro h; cases h) hfit hv
  have e : rg k cs (b.at a [.code c]) [] = G (b.at a (.code c :: k)) cs := by simp [rg, top, below, ek, G, Frame.at]
  rw [e] at hw
  refine hw.mono ?_
  rintro g w' ⟨fr', v', ⟨a', rfl, hq⟩, hok, rfl, hv'⟩
  exact ⟨a', v', hq, hok.defers, by simp [rg, top, below, ek, G, Frame.at], hv'⟩

/-- .. of a function's body, to its return. -/
theorem lift_body (hR : Ready P S B) (hC : Codes P S) (main : Bool) (cs : List Frame) {c : Code} {b : Frame} (hc : okCode P S b.fn c = true) (hbr : S.D b.fn = []) {a : Act} (ha : a.defers = []) {w v : World} (hv : Veil B w v)
    {Q : Act → World → Prop} (hQ : ∀ a v t d, Q a v → Q a (v.on t d)) (h : ∀ t d, c.wp P (fun e a' v' => e = .ret ∧ Q a' v') a (v.on t d)) :
    Way P main (Rely B) (Guar B) (fun g w' => ∃ a' todo v', Q a' v' ∧ a'.defers = [] ∧ g = { frame := { b.at a' todo with mode := .returning }, callers := cs, status := .running, dying := none } ∧ Veil B w' v') (G (b.at a [.code c]) cs) w := by
  have hfr : FrOk P S (b.at a [.code c]) := by
    refine ⟨fun i hi => ?_, ha, rfl, fun t ht => ?_⟩
    · simp only [Frame.at, List.mem_singleton] at hi
      subst hi
      exact hc
    · rw [show (b.at a [.code c]).fn = b.fn from rfl, hbr] at ht; cases ht
  have hfit : Fit P S (b.at a [.code c]) [] := ⟨hfr, fun c hc => (by cases hc), fun f hf => (by simp at hf)⟩
  have hbar : Bar P true (fun fr v' => ∃ a' todo, fr = { b.at a' todo with mode := .returning } ∧ Q a' v') (b.at a [.code c]) [] v := by
    refine bar_of_lone hR hC (fun fr v t d => ?_) hfit hv.mask fun T => ?_
    · rintro ⟨a', todo, h1, h2⟩
      exact ⟨a', todo, h1, hQ _ _ _ _ h2⟩
    · obtain ⟨e, a', w', ⟨rfl, hq⟩, todo, n, hn⟩ := h T 0 b [] [c0]
      exact ⟨n, _, w', hn, .inr ⟨rfl, rfl⟩, a', todo, rfl, hq⟩
  have hw := hbar.way hR hC main [] cs (fun _ => rfl) hfit hv
  have e : rg [] cs (b.at a [.code c]) [] = G (b.at a [.code c]) cs := by simp [rg, top, below, ek, G, Frame.at]
  rw [e] at hw
  refine hw.mono ?_
  rintro g w' ⟨fr', v', ⟨a', todo, rfl, hq⟩, hok, rfl, hv'⟩
  exact ⟨a', todo, v', hq, hok.defers, by simp [rg, top, below, ek], hv'⟩

end
end Go.Co

/-
  THE TRACE: one goroutine sends over a channel and closes it; goroutine 0 receives till it is closed; whatever was done before stands behind them.
-/
namespace Go.Co
open Go.Conc

/-- An entry that says no word. -/
def Quiet (e : Event) : Prop := ∀ m, e.loc = .mark m → Neutral m

theorem Kept.quiet {B : Nat → Prop} {e : Event} (h : Kept B e) : Quiet e := by
  intro m hm
  have h1 := h.1
  unfold Fine at h1
  rw [hm] at h1
  cases m with
  | noRoom => rfl
  | extern f => exact absurd hm (h.2 f)
  | _ => exact h1.elim

/-- Between two calls that start goroutines: 'n' there were; no data race; goroutine 0 knows all. -/
structure Tr (t : Trace) (n : Nat) : Prop where
  word : Wordless t
  clean : ∀ said, ¬ Race said t
  known : ∀ (i : Nat) (op : MemOp) (a : Touch), t[i]? = some op → op.act.touch? = some a → Knows t 0 i
  who : ∀ op ∈ t, op.g < n

/-- While goroutine 'k' sends: it touches 'Off' alone, and goroutine 0 keeps off that. -/
structure TrP (t : Trace) (k : Nat) (Off : Go.Loc → Prop) : Prop where
  word : Wordless t
  clean : ∀ said, ¬ Race said t
  others : ∀ (i : Nat) (op : MemOp) (a : Touch), t[i]? = some op → op.act.touch? = some a → op.g ≠ k → Knows t 0 i
  mine : ∀ (i : Nat) (op : MemOp) (a : Touch), t[i]? = some op → op.act.touch? = some a → Knows t k i ∨ (op.g = 0 ∧ ¬ Off a.loc)
  own : ∀ (i : Nat) (op : MemOp) (a : Touch), t[i]? = some op → op.act.touch? = some a → op.g = k → Off a.loc
  who : ∀ op ∈ t, op.g ≤ k
  pos : 0 < k

/-- It has closed the channel, at place 'pc', and does nothing more. -/
structure TrC (t : Trace) (k : Nat) (Off : Go.Loc → Prop) (c pc : Nat) : Prop where
  word : Wordless t
  clean : ∀ said, ¬ Race said t
  others : ∀ (i : Nat) (op : MemOp) (a : Touch), t[i]? = some op → op.act.touch? = some a → op.g ≠ k → Knows t 0 i
  close : ∃ op, t[pc]? = some op ∧ op.g = k ∧ op.act = .close c
  last : ∀ (i : Nat) (op : MemOp) (a : Touch), t[i]? = some op → op.act.touch? = some a → op.g = k → Before t i pc ∧ Off a.loc
  who : ∀ op ∈ t, op.g ≤ k
  pos : 0 < k

theorem mem_ofEv {g : Nat} {fn : FuncId} {pos : String} {es : Array Event} {op : MemOp} (h : op ∈ MemOp.ofEvents g fn pos es) : ∃ e ∈ es, op = { g, fn, pos, act := .ofEvent e } := by
  rw [ofEvents_eq] at h
  obtain ⟨e, he, rfl⟩ := Array.mem_map.1 h
  exact ⟨e, he, rfl⟩

theorem word_ofEv {g : Nat} {fn : FuncId} {pos : String} {es : Array Event} (h : ∀ e ∈ es, Quiet e) : Wordless (MemOp.ofEvents g fn pos es) := by
  intro op hop
  obtain ⟨e, he, rfl⟩ := mem_ofEv hop
  exact ofEvent_noMark (h e he)

theorem touch_ofEv {g : Nat} {fn : FuncId} {pos : String} {es : Array Event} (h : ∀ e ∈ es, Quiet e) {op : MemOp} (hop : op ∈ MemOp.ofEvents g fn pos es) {a : Touch} (ha : op.act.touch? = some a) : ∃ e ∈ es, a.loc = e.loc := by
  obtain ⟨e, he, rfl⟩ := mem_ofEv hop
  exact ⟨e, he, (ofEvent_touch (h e he) ha).1⟩

theorem g_ofEv {g : Nat} {fn : FuncId} {pos : String} {es : Array Event} {op : MemOp} (hop : op ∈ MemOp.ofEvents g fn pos es) : op.g = g := by
  obtain ⟨e, he, rfl⟩ := mem_ofEv hop
  rfl

theorem tr_nil : Tr #[] 1 :=
  ⟨fun op h => by simp at h, fun said => by rintro ⟨i, j, _, ⟨a, b, ha, _⟩, _⟩; simp [Trace.act?] at ha, fun i op a h => by simp at h, fun op h => by simp at h⟩

theorem Tr.over {t : Trace} {n : Nat} (h : Tr t n) : t.HandedOver := by
  intro i g hg hne hc
  obtain ⟨x, hx, _⟩ := hc
  obtain ⟨op, hop, hox⟩ := touch_of hx
  have hog : op.g = g := by simpa [Trace.g?, hop] using hg
  obtain ⟨q, z, h1, h2, h3⟩ := h.known i op x hop hox
  rcases h3 with rfl | h3
  · rw [hop] at h1; cases h1; omega
  · exact ⟨q, by simp [Trace.g?, h1, h2], h3⟩

/-- Goroutine 0's own operations. -/
theorem Tr.own {t : Trace} {n : Nat} (h : Tr t n) (hn : 0 < n) {fn : FuncId} {pos : String} {es : Array Event} (hes : ∀ e ∈ es, Quiet e) : Tr (t ++ MemOp.ofEvents 0 fn pos es) n := by
  refine ⟨h.word.append (word_ofEv hes), fun said => noRace_append (h.clean said) (fun op hop => g_ofEv hop) fun i a ha op _ b _ _ => ?_, fun i op a hop ha => ?_, fun op hop => ?_⟩
  · obtain ⟨x, hx, hxa⟩ := touch_of ha
    exact h.known i x a hx hxa
  · rcases getElem?_append_cases hop with ⟨_, h'⟩ | ⟨_, h'⟩
    · exact (h.known i op a h' ha).app _
    · have := knows_own hop
      rwa [g_ofEv h'] at this
  · rcases Array.mem_append.1 hop with h' | h'
    · exact h.who op h'
    · rw [g_ofEv h']; exact hn

/-- The go statement. -/
theorem Tr.spawn {t : Trace} {n : Nat} (h : Tr t n) (hn : 0 < n) (Off : Go.Loc → Prop) {x y : MemOp} (hx : x.g = 0 ∧ x.act = .go n) (hy : y.g = n ∧ y.act = .start) : TrP ((t.push x).push y) n Off := by
  have e : (t.push x).push y = t ++ #[x, y] := by
    rw [Array.push_eq_append, Array.push_eq_append, Array.append_assoc]; rfl
  have gx : (t ++ #[x, y])[t.size]? = some x := by rw [Array.getElem?_append_right (Nat.le_refl _)]; simp
  have gy : (t ++ #[x, y])[t.size + 1]? = some y := by rw [Array.getElem?_append_right (Nat.le_succ _)]; simp
  rw [e]
  have hw : Wordless (t ++ #[x, y]) := h.word.append (by
    intro op hop m
    simp only [List.mem_toArray, List.mem_cons, List.not_mem_nil, or_false] at hop
    rcases hop with rfl | rfl
    · rw [hx.2]; simp
    · rw [hy.2]; simp)
  have nt : ∀ op ∈ (#[x, y] : Array MemOp), op.act.touch? = none := by
    intro op hop
    simp only [List.mem_toArray, List.mem_cons, List.not_mem_nil, or_false] at hop
    rcases hop with rfl | rfl
    · rw [hx.2]; rfl
    · rw [hy.2]; rfl
  have old : ∀ (i : Nat) (op : MemOp) (a : Touch), (t ++ #[x, y])[i]? = some op → op.act.touch? = some a → t[i]? = some op := by
    intro i op a hop ha
    rcases getElem?_append_cases hop with ⟨_, h'⟩ | ⟨_, h'⟩
    · exact h'
    · rw [nt op h'] at ha; cases ha
  refine ⟨hw, fun said => ?_, fun i op a hop ha _ => (h.known i op a (old i op a hop ha) ha).app _, fun i op a hop ha => .inl ?_, fun i op a hop ha hg => ?_, fun op hop => ?_, hn⟩
  · rintro ⟨i, j, hij, ⟨a, b, ha, hb, hc⟩, n1, n2⟩
    obtain ⟨oi, hoi, hai⟩ := touch_of ha
    obtain ⟨oj, hoj, haj⟩ := touch_of hb
    have h1 := old i oi a hoi hai
    have h2 := old j oj b hoj haj
    exact h.clean said ⟨i, j, hij, ⟨a, b, by simp [Trace.act?, h1, hai], by simp [Trace.act?, h2, haj], hc⟩, fun e => n1 (hb_app _ e), fun e => n2 (hb_app _ e)⟩
  · have hk := (h.known i op a (old i op a hop ha) ha)
    have e1 : HappensBefore (t ++ #[x, y]) i t.size := hk.hb_new (Nat.le_refl _) gx hx.1
    have e2 : HappensBefore (t ++ #[x, y]) t.size (t.size + 1) := .single (.inr ⟨.spawn (child := n) (by rw [act?_of gx, hx.2]) (by rw [act?_of gy, hy.2]) (by unfold Trace.g?; rw [gy]; exact congrArg some hy.1), hw.heard gx, hw.heard gy⟩)
    exact ⟨t.size + 1, y, gy, hy.1, .inr (e1.trans e2)⟩
  · have := h.who op (mem_of_getElem? (old i op a hop ha))
    omega
  · rcases Array.mem_append.1 hop with h' | h'
    · exact Nat.le_of_lt (h.who op h')
    · simp only [List.mem_toArray, List.mem_cons, List.not_mem_nil, or_false] at h'
      rcases h' with rfl | rfl
      · rw [hx.1]; omega
      · rw [hy.1]; exact Nat.le_refl _

section
variable {t : Trace} {k c pc : Nat} {Off : Go.Loc → Prop}

theorem conf_loc {said : Bool} {a b : Touch} (h : a.conflicts said b) : a.loc = b.loc := h.1

theorem TrP.own0 (h : TrP t k Off) {fn : FuncId} {pos : String} {es : Array Event} (hes : ∀ e ∈ es, Quiet e) (ho : ∀ e ∈ es, ¬ Off e.loc) : TrP (t ++ MemOp.ofEvents 0 fn pos es) k Off := by
  have hk := h.pos
  refine ⟨h.word.append (word_ofEv hes), fun said => noRace_append (h.clean said) (fun op hop => g_ofEv hop) fun i a ha op hop b hb hc => ?_, fun i op a hop ha hg => ?_, fun i op a hop ha => ?_, fun i op a hop ha hg => ?_, fun op hop => ?_, hk⟩
  · obtain ⟨x, hx, hxa⟩ := touch_of ha
    by_cases hxk : x.g = k
    · obtain ⟨e, he, hl⟩ := touch_ofEv hes hop hb
      exact absurd (h.own i x a hx hxa hxk) (by rw [hc.1, hl]; exact ho e he)
    · exact h.others i x a hx hxa hxk
  · rcases getElem?_append_cases hop with ⟨_, h'⟩ | ⟨_, h'⟩
    · exact (h.others i op a h' ha hg).app _
    · have := knows_own hop
      rwa [g_ofEv h'] at this
  · rcases getElem?_append_cases hop with ⟨_, h'⟩ | ⟨_, h'⟩
    · exact (h.mine i op a h' ha).imp (·.app _) id
    · obtain ⟨e, he, hl⟩ := touch_ofEv hes h' ha
      exact .inr ⟨g_ofEv h', by rw [hl]; exact ho e he⟩
  · rcases getElem?_append_cases hop with ⟨_, h'⟩ | ⟨_, h'⟩
    · exact h.own i op a h' ha hg
    · rw [g_ofEv h'] at hg; omega
  · rcases Array.mem_append.1 hop with h' | h'
    · exact h.who op h'
    · rw [g_ofEv h']; omega

theorem TrP.ownk (h : TrP t k Off) {fn : FuncId} {pos : String} {es : Array Event} (hes : ∀ e ∈ es, Quiet e) (ho : ∀ e ∈ es, Off e.loc) : TrP (t ++ MemOp.ofEvents k fn pos es) k Off := by
  have hk := h.pos
  refine ⟨h.word.append (word_ofEv hes), fun said => noRace_append (h.clean said) (fun op hop => g_ofEv hop) fun i a ha op hop b hb hc => ?_, fun i op a hop ha hg => ?_, fun i op a hop ha => ?_, fun i op a hop ha hg => ?_, fun op hop => ?_, hk⟩
  · obtain ⟨x, hx, hxa⟩ := touch_of ha
    rcases h.mine i x a hx hxa with h1 | ⟨_, h1⟩
    · exact h1
    · obtain ⟨e, he, hl⟩ := touch_ofEv hes hop hb
      exact absurd (ho e he) (by rw [← hl, ← hc.1]; exact h1)
  · rcases getElem?_append_cases hop with ⟨_, h'⟩ | ⟨_, h'⟩
    · exact (h.others i op a h' ha hg).app _
    · exact absurd (g_ofEv h') hg
  · rcases getElem?_append_cases hop with ⟨_, h'⟩ | ⟨_, h'⟩
    · exact (h.mine i op a h' ha).imp (·.app _) id
    · have := knows_own hop
      rw [g_ofEv h'] at this
      exact .inl this
  · rcases getElem?_append_cases hop with ⟨_, h'⟩ | ⟨_, h'⟩
    · exact h.own i op a h' ha hg
    · obtain ⟨e, he, hl⟩ := touch_ofEv hes h' ha
      rw [hl]; exact ho e he
  · rcases Array.mem_append.1 hop with h' | h'
    · exact h.who op h'
    · rw [g_ofEv h']; exact Nat.le_refl _

/-- Operations on a channel touch no memory. -/
theorem TrP.comm (h : TrP t k Off) {u : Trace} (hu : ∀ op ∈ u, op.g ≤ k ∧ op.act.touch? = none ∧ ∀ m, op.act = .mark m → Neutral m) : TrP (t ++ u) k Off := by
  have old : ∀ (i : Nat) (op : MemOp) (a : Touch), (t ++ u)[i]? = some op → op.act.touch? = some a → t[i]? = some op := by
    intro i op a hop ha
    rcases getElem?_append_cases hop with ⟨_, h'⟩ | ⟨_, h'⟩
    · exact h'
    · rw [(hu op h').2.1] at ha; cases ha
  refine ⟨h.word.append fun op hop => (hu op hop).2.2, fun said => ?_, fun i op a hop ha hg => (h.others i op a (old i op a hop ha) ha hg).app _, fun i op a hop ha => (h.mine i op a (old i op a hop ha) ha).imp (·.app _) id,
    fun i op a hop ha hg => h.own i op a (old i op a hop ha) ha hg, fun op hop => (Array.mem_append.1 hop).elim (h.who op) fun h' => (hu op h').1, h.pos⟩
  rintro ⟨i, j, hij, ⟨a, b, ha, hb, hc⟩, n1, n2⟩
  obtain ⟨oi, hoi, hai⟩ := touch_of ha
  obtain ⟨oj, hoj, haj⟩ := touch_of hb
  have h1 := old i oi a hoi hai
  have h2 := old j oj b hoj haj
  exact h.clean said ⟨i, j, hij, ⟨a, b, by simp [Trace.act?, h1, hai], by simp [Trace.act?, h2, haj], hc⟩, fun e => n1 (hb_app _ e), fun e => n2 (hb_app _ e)⟩

/-- It closes the channel. -/
theorem TrP.close (h : TrP t k Off) {y : MemOp} (hy : y.g = k ∧ y.act = .close c) : TrC (t.push y) k Off c t.size := by
  have h2 : TrP (t ++ #[y]) k Off := h.comm (by
    intro op hop
    simp only [List.mem_toArray, List.mem_cons, List.not_mem_nil, or_false] at hop
    subst hop
    exact ⟨by rw [hy.1]; exact Nat.le_refl _, by rw [hy.2]; rfl, fun m => by rw [hy.2]; simp⟩)
  have e : t.push y = t ++ #[y] := Array.push_eq_append ..
  rw [e]
  have gy : (t ++ #[y])[t.size]? = some y := by rw [Array.getElem?_append_right (Nat.le_refl _)]; simp
  refine ⟨h2.word, h2.clean, h2.others, ⟨y, gy, hy⟩, fun i op a hop ha hg => ⟨?_, h2.own i op a hop ha hg⟩, h2.who, h2.pos⟩
  rcases getElem?_append_cases hop with ⟨hi, _⟩ | ⟨_, h'⟩
  · exact .inr (hb_po hi hop gy (by rw [hg, hy.1]))
  · simp only [List.mem_toArray, List.mem_cons, List.not_mem_nil, or_false] at h'
    subst h'
    rw [hy.2] at ha
    cases ha

theorem TrC.own0 (h : TrC t k Off c pc) {fn : FuncId} {pos : String} {es : Array Event} (hes : ∀ e ∈ es, Quiet e) (ho : ∀ e ∈ es, ¬ Off e.loc) : TrC (t ++ MemOp.ofEvents 0 fn pos es) k Off c pc := by
  have hk := h.pos
  obtain ⟨z, hz, hz1⟩ := h.close
  refine ⟨h.word.append (word_ofEv hes), fun said => noRace_append (h.clean said) (fun op hop => g_ofEv hop) fun i a ha op hop b hb hc => ?_, fun i op a hop ha hg => ?_, ⟨z, by rw [getElem?_append_old (lt_size_of_getElem? hz)]; exact hz, hz1⟩, fun i op a hop ha hg => ?_, fun op hop => ?_, hk⟩
  · obtain ⟨x, hx, hxa⟩ := touch_of ha
    by_cases hxk : x.g = k
    · obtain ⟨e, he, hl⟩ := touch_ofEv hes hop hb
      exact absurd (h.last i x a hx hxa hxk).2 (by rw [hc.1, hl]; exact ho e he)
    · exact h.others i x a hx hxa hxk
  · rcases getElem?_append_cases hop with ⟨_, h'⟩ | ⟨_, h'⟩
    · exact (h.others i op a h' ha hg).app _
    · have := knows_own hop
      rwa [g_ofEv h'] at this
  · rcases getElem?_append_cases hop with ⟨_, h'⟩ | ⟨_, h'⟩
    · exact ⟨(h.last i op a h' ha hg).1.app _, (h.last i op a h' ha hg).2⟩
    · rw [g_ofEv h'] at hg; omega
  · rcases Array.mem_append.1 hop with h' | h'
    · exact h.who op h'
    · rw [g_ofEv h']; omega

/-- Goroutine 0 finds it closed. -/
theorem TrC.found (h : TrC t k Off c pc) {y : MemOp} (hy : y.g = 0 ∧ y.act = .recvClosed c) : Tr (t ++ #[y]) (k + 1) := by
  obtain ⟨z, hz, hz1, hz2⟩ := h.close
  have gy : (t ++ #[y])[t.size]? = some y := by rw [Array.getElem?_append_right (Nat.le_refl _)]; simp
  have gz : (t ++ #[y])[pc]? = some z := by rw [getElem?_append_old (lt_size_of_getElem? hz)]; exact hz
  have hw : Wordless (t ++ #[y]) := h.word.append (by
    intro op hop m
    simp only [List.mem_toArray, List.mem_cons, List.not_mem_nil, or_false] at hop
    subst hop
    rw [hy.2]; simp)
  have old : ∀ (i : Nat) (op : MemOp) (a : Touch), (t ++ #[y])[i]? = some op → op.act.touch? = some a → t[i]? = some op := by
    intro i op a hop ha
    rcases getElem?_append_cases hop with ⟨_, h'⟩ | ⟨_, h'⟩
    · exact h'
    · simp only [List.mem_toArray, List.mem_cons, List.not_mem_nil, or_false] at h'
      subst h'
      rw [hy.2] at ha; cases ha
  refine ⟨hw, fun said => ?_, fun i op a hop ha => ?_, fun op hop => ?_⟩
  · rintro ⟨i, j, hij, ⟨a, b, ha, hb, hc⟩, n1, n2⟩
    obtain ⟨oi, hoi, hai⟩ := touch_of ha
    obtain ⟨oj, hoj, haj⟩ := touch_of hb
    have h1 := old i oi a hoi hai
    have h2 := old j oj b hoj haj
    exact h.clean said ⟨i, j, hij, ⟨a, b, by simp [Trace.act?, h1, hai], by simp [Trace.act?, h2, haj], hc⟩, fun e => n1 (hb_app _ e), fun e => n2 (hb_app _ e)⟩
  · have hop' := old i op a hop ha
    by_cases hg : op.g = k
    · have e1 := (h.last i op a hop' ha hg).1.app #[y]
      have e2 : HappensBefore (t ++ #[y]) pc t.size := .single (.inr ⟨.closed (c := c) (by rw [act?_of gz, hz2]) (by rw [act?_of gy, hy.2]), hw.heard gz, hw.heard gy⟩)
      exact ⟨t.size, y, gy, hy.1, e1.trans (.inr e2)⟩
    · exact (h.others i op a hop' ha hg).app _
  · rcases Array.mem_append.1 hop with h' | h'
    · exact Nat.lt_succ_of_le (h.who op h')
    · simp only [List.mem_toArray, List.mem_cons, List.not_mem_nil, or_false] at h'
      subst h'
      rw [hy.1]; omega

end
end Go.Co

/-
  THE MACHINE: goroutine 0, a sender (the last), and between them goroutines that only leave. WHOEVER IS PICKED: it comes to a moment at which one of the two stands at its stop and is picked.
-/
namespace Go.Co
open Go.Conc
open Go.ConcN (sumTo upd sumTo_upd upd_ne upd_same)

def Ev (P : Program) (m : Machine) (t : Trace) (T : Machine → Trace → Prop) : Prop := ∃ N m' t', runNT P N m t = (.next m', t') ∧ T m' t'

section
variable {P : Program}

theorem Ev.now {m : Machine} {t : Trace} {T : Machine → Trace → Prop} (h : T m t) : Ev P m t T := ⟨0, m, t, rfl, h⟩
theorem Ev.step {m m' : Machine} {t : Trace} {ops : Array MemOp} {T : Machine → Trace → Prop} (hs : stepT P m = (.next m', ops)) (h : Ev P m' (t ++ ops) T) : Ev P m t T := by
  obtain ⟨N, m2, t2, h1, h2⟩ := h
  exact ⟨N + 1, m2, t2, by rw [runNT_succ_next hs]; exact h1, h2⟩
theorem Ev.then {m : Machine} {t : Trace} {T T' : Machine → Trace → Prop} (h : Ev P m t T) (k : ∀ m t, T m t → Ev P m t T') : Ev P m t T' := by
  obtain ⟨N, m', t', h1, h2⟩ := h
  obtain ⟨N2, m2, t2, h3, h4⟩ := k _ _ h2
  exact ⟨N + N2, m2, t2, by rw [runNT_add, h1]; exact h3, h4⟩
theorem Ev.mono {m : Machine} {t : Trace} {T T' : Machine → Trace → Prop} (h : Ev P m t T) (k : ∀ m t, T m t → T' m t) : Ev P m t T' := h.then fun _ _ x => .now (k _ _ x)

/-- 'k' goroutines: goroutine 0 and leavers. -/
structure Rest (P : Program) (k : Nat) (gs : Array Goroutine) (q : Nat → Nat) : Prop where
  pos : 0 < k
  size : k ≤ gs.size
  rest : ∀ i g, 0 < i → i < k → gs[i]? = some g → QuitsIn P (q i) g

theorem Rest.step {k : Nat} {gs : Array Goroutine} {q : Nat → Nat} (h : Rest P k gs q) {x x' : Goroutine} {w' : World} {j : Nat} {y : Goroutine} (hj : j = 0 ∨ k ≤ j) : Rest P k ((gs.map (woken P x x' w')).setIfInBounds j y) q := by
  refine ⟨h.pos, by simpa using h.size, fun i g h0 hk hi => ?_⟩
  have hne : j ≠ i := by omega
  rw [Array.getElem?_setIfInBounds_ne hne, Array.getElem?_map] at hi
  obtain ⟨z, hz, rfl⟩ := Option.map_eq_some_iff.1 hi
  have hq := h.rest i z h0 hk hz
  rw [woken_quits hq]
  exact hq

theorem Rest.set {k : Nat} {gs : Array Goroutine} {q : Nat → Nat} (h : Rest P k gs q) {j : Nat} {y : Goroutine} (hj : j = 0 ∨ k ≤ j) : Rest P k (gs.setIfInBounds j y) q := by
  refine ⟨h.pos, by simpa using h.size, fun i g h0 hk hi => ?_⟩
  have hne : j ≠ i := by omega
  rw [Array.getElem?_setIfInBounds_ne hne] at hi
  exact h.rest i g h0 hk hi

/-- A leaver slips. -/
theorem Rest.slip {k : Nat} {gs : Array Goroutine} {q : Nat → Nat} (h : Rest P k gs q) {i : Nat} {g g' : Goroutine} {w' : World} {n : Nat} (hk : i < k) (hq : QuitsIn P n g') :
    Rest P k ((gs.map (woken P g g' w')).setIfInBounds i g') (upd q i n) := by
  refine ⟨h.pos, by simpa using h.size, fun j x hj0 hjk hx => ?_⟩
  by_cases hji : i = j
  · subst hji
    rw [Array.getElem?_setIfInBounds_self_of_lt (by have := h.size; simp; omega)] at hx
    obtain rfl := Option.some.inj hx
    rw [upd_same]
    exact hq
  · rw [Array.getElem?_setIfInBounds_ne hji, Array.getElem?_map] at hx
    obtain ⟨z, hz, rfl⟩ := Option.map_eq_some_iff.1 hx
    have hqz := h.rest j z hj0 hjk hz
    rw [woken_quits hqz, upd_ne q n (Ne.symm hji)]
    exact hqz

theorem sum_slip {k i n : Nat} {q : Nat → Nat} (hi : i < k) (hq : q i = n + 1) : sumTo k (upd q i n) < sumTo k q := by
  have := sumTo_upd q n id hi
  change sumTo k (upd q i n) + q i = sumTo k q + n at this
  omega

theorem get_step {gs : Array Goroutine} {x x' y : Goroutine} {w' : World} {j i : Nat} {z : Goroutine} (hne : j ≠ i) (hz : gs[i]? = some z) (hw : woken P x x' w' z = z) : ((gs.map (woken P x x' w')).setIfInBounds j y)[i]? = some z := by
  rw [Array.getElem?_setIfInBounds_ne hne, Array.getElem?_map, hz, Option.map_some, hw]
theorem get_self {gs : Array Goroutine} {x x' y : Goroutine} {w' : World} {i : Nat} {z : Goroutine} (hz : gs[i]? = some z) : ((gs.map (woken P x x' w')).setIfInBounds i y)[i]? = some y := by
  have := (Array.getElem?_eq_some_iff.1 hz).1
  simp [this]

theorem awake_rest {k : Nat} {gs : Array Goroutine} {q : Nat → Nat} (h : Rest P k gs q) (h0 : ∀ g, gs[0]? = some g → awake g) (hk : ∀ i g, k ≤ i → gs[i]? = some g → awake g) : ∀ g ∈ gs, awake g := by
  intro g hg
  obtain ⟨i, hi, rfl⟩ := Array.mem_iff_getElem.1 hg
  rcases Nat.eq_zero_or_pos i with rfl | hpos
  · exact h0 _ (Array.getElem?_eq_getElem hi)
  · rcases Nat.lt_or_ge i k with hik | hik
    · exact awake_of ((h.rest i _ hpos hik (Array.getElem?_eq_getElem hi)).status.elim .inl fun x => .inr (.inr x))
    · exact hk i _ hik (Array.getElem?_eq_getElem hi)

/-- A running leaver's step. -/
theorem slip_step {k : Nat} {gs : Array Goroutine} {q : Nat → Nat} (h : Rest P k gs q) {w : World} {sl : Option (Nat × Nat)} {i : Nat} {g : Goroutine} (h0 : 0 < i) (hk : i < k) (hi : gs[i]? = some g) (hr : g.status = .running) :
    ∃ n g', q i = n + 1 ∧ QuitsIn P n g' ∧ runT P (crowd gs w sl) i = (.next (crowd ((gs.map (woken P g g' w)).setIfInBounds i g') w sl), #[]) := by
  have hq := h.rest i g h0 hk hi
  cases hqi : q i with
  | zero => rw [hqi] at hq; rw [show g.status = .finished from hq] at hr; cases hr
  | succ n =>
    rw [hqi] at hq
    rcases hq with hf | ⟨_, g', hst, hq'⟩
    · rw [hf] at hr; cases hr
    · refine ⟨n, g', rfl, hq', ?_⟩
      have hi0 : (i == 0) = false := by simp; omega
      rw [runT_crowd_go (P := P) (sl := sl) (i := i) hi (by rw [hi0]; exact hst w)]
      rfl

theorem run_go {gs : Array Goroutine} {w w' : World} {sl : Option (Nat × Nat)} {i : Nat} {g g' : Goroutine} {es : Array Event} {main : Bool} (hm : main = (i == 0)) (hi : gs[i]? = some g) (h : stepG P main g w = .go g' w' es) :
    runT P (crowd gs w sl) i = (.next (crowd ((gs.map (woken P g g' w')).setIfInBounds i g') w' sl), MemOp.ofEvents i g.frame.fn g.frame.place es) := by
  subst hm
  exact runT_crowd_go hi h

/-- What stands beside the one who moves does not move. -/
def Idle (P : Program) (W : World → Prop) (x : Goroutine) : Prop := x.status ≠ .running ∧ awake x ∧ ∀ y y' w', W w' → woken P y y' w' x = x

/-- ONE MOVES (number j), THE OTHERS LEAVE OR WAIT: it comes to its stop and is picked there. -/
theorem one_moves {R : World → World → Prop} {D : World → World → Array Event → Prop} {Stop : Goroutine → World → Prop} (tr : ∀ a b c, R a b → R b c → R a c) (rf : ∀ w, R w w) (hd : ∀ w d, R w (w.at d))
    {W : World → Prop} (hWd : ∀ w d, W w → W (w.at d)) (hWD : ∀ w w' es, W w → D w w' es → W w') {TI : Trace → Prop} {j k : Nat} (hTI : ∀ t w w' es fn pos, TI t → D w w' es → TI (t ++ MemOp.ofEvents j fn pos es)) (hj : j = 0 ∨ k ≤ j)
    (hst : ∀ g w, Stop g w → g.status = .running)
    {g : Goroutine} {wr : World} (h : Way P (j == 0) R D Stop g wr) : ∀ (M : Nat) (gs : Array Goroutine) (q : Nat → Nat) (w : World) (sl : Option (Nat × Nat)) (t : Trace), sumTo k q = M → Rest P k gs q → gs[j]? = some g → R wr w → W w → TI t →
      (∀ i x, (i = 0 ∨ k ≤ i) → i ≠ j → gs[i]? = some x → Idle P W x) →
      Ev P (crowd gs w sl) t (fun m t' => ∃ gs' q' w' sl' sl2 d g' wr', m = crowd gs' w' sl' ∧ Rest P k gs' q' ∧ gs'.size = gs.size ∧ gs'[j]? = some g' ∧ R wr' w' ∧ W w' ∧ TI t' ∧ (∀ w1, R wr' w1 → Stop g' w1) ∧
        (∀ i x, (i = 0 ∨ k ≤ i) → i ≠ j → gs[i]? = some x → gs'[i]? = some x) ∧ stepT P m = runT P (crowd gs' (w'.at d) sl2) j) := by
  have hw : ∀ {g : Goroutine} {wr w : World}, Way P (j == 0) R D Stop g wr → R wr w → g.status = .running := by
    intro g wr w h hr
    cases h with
    | stop h => exact hst _ _ (h w hr)
    | step hs _ _ => exact hs
  induction h with
  | @stop g wr hs =>
    intro M
    induction M using Nat.strongRecOn with
    | _ M ih =>
      intro gs q w sl t hM hR hg hr hW hT hidle
      have hrun := hst _ _ (hs w hr)
      have haw := awake_rest hR (fun x hx => by
        by_cases e : 0 = j
        · subst e; rw [hg] at hx; cases hx; exact awake_of (.inl hrun)
        · exact (hidle 0 x (.inl rfl) e hx).2.1) (fun i x hi hx => by
        by_cases e : i = j
        · subst e; rw [hg] at hx; cases hx; exact awake_of (.inl hrun)
        · exact (hidle i x (.inr hi) e hx).2.1)
      obtain ⟨i, x, d, sl', hi, hx, hstep⟩ := crowd_pick (P := P) (w := w) (sl := sl) haw ⟨j, g, hg, hrun⟩
      by_cases e : i = j
      · subst e
        exact .now ⟨gs, q, w, sl, sl', d, g, wr, rfl, hR, rfl, hg, hr, hW, hT, hs, fun _ _ _ _ h => h, hstep⟩
      · by_cases hik : i = 0 ∨ k ≤ i
        · exact absurd hx (hidle i x hik e hi).1
        · have h0 : 0 < i := by omega
          have hk : i < k := by omega
          obtain ⟨n, g', hqn, hqg, hrunT⟩ := slip_step (w := w.at d) (sl := sl') hR h0 hk hi hx
          have hlt := sum_slip hk hqn
          have hkeep : ∀ i' x', (i' = 0 ∨ k ≤ i') → gs[i']? = some x' → ((gs.map (woken P x g' (w.at d))).setIfInBounds i g')[i']? = some x' := by
            intro i' x' hi' hx'
            refine get_step (by omega) hx' ?_
            by_cases e' : i' = j
            · subst e'; rw [hg] at hx'; cases hx'; exact woken_running hrun
            · exact (hidle i' x' hi' e' hx').2.2 _ _ _ (hWd _ _ hW)
          refine Ev.step (hstep.trans hrunT) ?_
          rw [Array.append_empty]
          refine (ih _ (by omega) _ (upd q i n) (w.at d) sl' t rfl (hR.slip hk hqg) (hkeep j g hj hg) (tr _ _ _ hr (hd _ _)) (hWd _ _ hW) hT fun i' x' hi' he hx' => ?_).mono ?_
          · have hlt' : i' < gs.size := by
              have := (Array.getElem?_eq_some_iff.1 hx').1
              simpa using this
            have h2 := hkeep i' _ hi' (Array.getElem?_eq_getElem hlt')
            rw [h2] at hx'
            exact hidle i' x' hi' he (by rw [Array.getElem?_eq_getElem hlt']; exact hx')
          · rintro m t' ⟨gs', q', w', sl2, sl3, d', g2, wr', h1, h2, h3, h4, h5, h6, h7, h8, h9, h10⟩
            exact ⟨gs', q', w', sl2, sl3, d', g2, wr', h1, h2, by rw [h3]; simp, h4, h5, h6, h7, h8, fun i' x' hi' he hx' => h9 i' x' hi' he (hkeep i' x' hi' hx'), h10⟩
  | @step g wr hrun hs hn ihn =>
    intro M
    induction M using Nat.strongRecOn with
    | _ M ih =>
      intro gs q w sl t hM hR hg hr hW hT hidle
      have haw := awake_rest hR (fun x hx => by
        by_cases e : 0 = j
        · subst e; rw [hg] at hx; cases hx; exact awake_of (.inl hrun)
        · exact (hidle 0 x (.inl rfl) e hx).2.1) (fun i x hi hx => by
        by_cases e : i = j
        · subst e; rw [hg] at hx; cases hx; exact awake_of (.inl hrun)
        · exact (hidle i x (.inr hi) e hx).2.1)
      obtain ⟨i, x, d, sl', hi, hx, hstep⟩ := crowd_pick (P := P) (w := w) (sl := sl) haw ⟨j, g, hg, hrun⟩
      by_cases e : i = j
      · subst e
        rw [hg] at hi
        cases hi
        obtain ⟨g', w', es, hgo, hD⟩ := hs (w.at d) (tr _ _ _ hr (hd _ _))
        have hway := hn _ _ _ _ (tr _ _ _ hr (hd _ _)) hgo
        have hW' := hWD _ _ _ (hWd _ d hW) hD
        have hkeep : ∀ i' x', (i' = 0 ∨ k ≤ i') → i' ≠ i → gs[i']? = some x' → ((gs.map (woken P g g' w')).setIfInBounds i g')[i']? = some x' := by
          intro i' x' hi' he hx'
          exact get_step (fun h => he h.symm) hx' ((hidle i' x' hi' he hx').2.2 _ _ _ hW')
        refine Ev.step (hstep.trans (run_go rfl hg hgo)) ?_
        refine (ihn _ _ _ _ (tr _ _ _ hr (hd _ _)) hgo _ _ q w' sl' _ rfl (hR.step hj) (get_self hg) (rf _) hW' (hTI _ _ _ _ _ _ hT hD) fun i' x' hi' he hx' => ?_).mono ?_
        · have hlt' : i' < gs.size := by
            have := (Array.getElem?_eq_some_iff.1 hx').1
            simpa using this
          have h2 := hkeep i' _ hi' he (Array.getElem?_eq_getElem hlt')
          rw [h2] at hx'
          exact hidle i' x' hi' he (by rw [Array.getElem?_eq_getElem hlt']; exact hx')
        · rintro m t' ⟨gs', q', w', sl2, sl3, d', g2, wr', h1, h2, h3, h4, h5, h6, h7, h8, h9, h10⟩
          exact ⟨gs', q', w', sl2, sl3, d', g2, wr', h1, h2, by rw [h3]; simp, h4, h5, h6, h7, h8, fun i' x' hi' he hx' => h9 i' x' hi' he (hkeep i' x' hi' he hx'), h10⟩
      · by_cases hik : i = 0 ∨ k ≤ i
        · exact absurd hx (hidle i x hik e hi).1
        · have h0 : 0 < i := by omega
          have hk : i < k := by omega
          obtain ⟨n, g', hqn, hqg, hrunT⟩ := slip_step (w := w.at d) (sl := sl') hR h0 hk hi hx
          have hlt := sum_slip hk hqn
          have hkeep : ∀ i' x', (i' = 0 ∨ k ≤ i') → gs[i']? = some x' → ((gs.map (woken P x g' (w.at d))).setIfInBounds i g')[i']? = some x' := by
            intro i' x' hi' hx'
            refine get_step (by omega) hx' ?_
            by_cases e' : i' = j
            · subst e'; rw [hg] at hx'; cases hx'; exact woken_running hrun
            · exact (hidle i' x' hi' e' hx').2.2 _ _ _ (hWd _ _ hW)
          refine Ev.step (hstep.trans hrunT) ?_
          rw [Array.append_empty]
          refine (ih _ (by omega) _ (upd q i n) (w.at d) sl' t rfl (hR.slip hk hqg) (hkeep j g hj hg) (tr _ _ _ hr (hd _ _)) (hWd _ _ hW) hT fun i' x' hi' he hx' => ?_).mono ?_
          · have hlt' : i' < gs.size := by
              have := (Array.getElem?_eq_some_iff.1 hx').1
              simpa using this
            have h2 := hkeep i' _ hi' (Array.getElem?_eq_getElem hlt')
            rw [h2] at hx'
            exact hidle i' x' hi' he (by rw [Array.getElem?_eq_getElem hlt']; exact hx')
          · rintro m t' ⟨gs', q', w', sl2, sl3, d', g2, wr', h1, h2, h3, h4, h5, h6, h7, h8, h9, h10⟩
            exact ⟨gs', q', w', sl2, sl3, d', g2, wr', h1, h2, by rw [h3]; simp, h4, h5, h6, h7, h8, fun i' x' hi' he hx' => h9 i' x' hi' he (hkeep i' x' hi' hx'), h10⟩

end
end Go.Co

/-
  BOTH MOVE: it comes to a moment at which one of the two stands at its stop and is picked.
-/
namespace Go.Co
open Go.Conc
open Go.ConcN (sumTo upd sumTo_upd upd_ne upd_same)

theorem Way.ind {P : Program} {main : Bool} {R : World → World → Prop} {D : World → World → Array Event → Prop} {Stop : Goroutine → World → Prop} {C : Goroutine → World → Prop}
    (h : ∀ g w, Way P main R D Stop g w → ((∀ w1, R w w1 → Stop g w1) ∨ (g.status = .running ∧ ∀ w1, R w w1 → ∃ g' w' es, stepG P main g w1 = .go g' w' es ∧ D w1 w' es ∧ Way P main R D Stop g' w' ∧ C g' w')) → C g w) :
    ∀ {g : Goroutine} {w : World}, Way P main R D Stop g w → C g w := by
  intro g w hw
  induction hw with
  | stop hs => exact h _ _ (.stop hs) (.inl hs)
  | step hr hs hn ih =>
    refine h _ _ (.step hr hs hn) (.inr ⟨hr, fun w1 h1 => ?_⟩)
    obtain ⟨g', w', es, e, d⟩ := hs w1 h1
    exact ⟨g', w', es, e, d, hn w1 g' w' es h1 e, ih w1 g' w' es h1 e⟩

/-- How the two fit. -/
structure Pair (RA RB : World → World → Prop) (DA DB : World → World → Array Event → Prop) (W : World → Prop) (TI : Trace → Prop) (k : Nat) : Prop where
  rfA : ∀ w, RA w w
  rfB : ∀ w, RB w w
  trA : ∀ a b c, RA a b → RA b c → RA a c
  trB : ∀ a b c, RB a b → RB b c → RB a c
  atA : ∀ w d, RA w (w.at d)
  atB : ∀ w d, RB w (w.at d)
  atW : ∀ w d, W w → W (w.at d)
  ab : ∀ w w' es, W w → DA w w' es → RB w w'
  ba : ∀ w w' es, W w → DB w w' es → RA w w'
  wA : ∀ w w' es, W w → DA w w' es → W w'
  wB : ∀ w w' es, W w → DB w w' es → W w'
  tA : ∀ t w w' es fn pos, TI t → DA w w' es → TI (t ++ MemOp.ofEvents 0 fn pos es)
  tB : ∀ t w w' es fn pos, TI t → DB w w' es → TI (t ++ MemOp.ofEvents k fn pos es)

section
variable {P : Program}

/-- One of the two stands at its stop, and is picked. -/
def Meet (P : Program) (RA RB : World → World → Prop) (DA DB : World → World → Array Event → Prop) (NA NB : Goroutine → World → Prop) (W : World → Prop) (TI : Trace → Prop) (k : Nat) (m : Machine) (t' : Trace) : Prop :=
  ∃ gs' q' w' sl' sl2 d a' wa' b' wb', m = crowd gs' w' sl' ∧ Rest P k gs' q' ∧ gs'.size = k + 1 ∧ gs'[0]? = some a' ∧ gs'[k]? = some b' ∧ RA wa' w' ∧ RB wb' w' ∧ W w' ∧ TI t' ∧
    (((∀ w1, RA wa' w1 → NA a' w1) ∧ Way P false RB DB NB b' wb' ∧ stepT P m = runT P (crowd gs' (w'.at d) sl2) 0) ∨
     (Way P true RA DA NA a' wa' ∧ (∀ w1, RB wb' w1 → NB b' w1) ∧ stepT P m = runT P (crowd gs' (w'.at d) sl2) k))

theorem two_move {RA RB : World → World → Prop} {DA DB : World → World → Array Event → Prop} {W : World → Prop} {TI : Trace → Prop} {k : Nat} (hp : Pair RA RB DA DB W TI k) (hk : 0 < k) {NA NB : Goroutine → World → Prop}
    (hsA : ∀ g w, NA g w → g.status = .running) (hsB : ∀ g w, NB g w → g.status = .running) {a : Goroutine} {wa : World} (hA : Way P true RA DA NA a wa) :
    ∀ (b : Goroutine) (wb : World), Way P false RB DB NB b wb → ∀ (M : Nat) (gs : Array Goroutine) (q : Nat → Nat) (w : World) (sl : Option (Nat × Nat)) (t : Trace), sumTo k q = M → Rest P k gs q → gs.size = k + 1 → gs[0]? = some a → gs[k]? = some b →
      RA wa w → RB wb w → W w → TI t → Ev P (crowd gs w sl) t (Meet P RA RB DA DB NA NB W TI k) := by
  have runA : ∀ {g : Goroutine} {wr w : World}, Way P true RA DA NA g wr → RA wr w → g.status = .running := by
    intro g wr w h hr
    cases h with
    | stop h => exact hsA _ _ (h w hr)
    | step hs _ _ => exact hs
  have runB : ∀ {g : Goroutine} {wr w : World}, Way P false RB DB NB g wr → RB wr w → g.status = .running := by
    intro g wr w h hr
    cases h with
    | stop h => exact hsB _ _ (h w hr)
    | step hs _ _ => exact hs
  refine Way.ind (C := fun a wa => ∀ (b : Goroutine) (wb : World), Way P false RB DB NB b wb → ∀ (M : Nat) (gs : Array Goroutine) (q : Nat → Nat) (w : World) (sl : Option (Nat × Nat)) (t : Trace), sumTo k q = M → Rest P k gs q → gs.size = k + 1 → gs[0]? = some a → gs[k]? = some b →
      RA wa w → RB wb w → W w → TI t → Ev P (crowd gs w sl) t (Meet P RA RB DA DB NA NB W TI k)) ?_ hA
  intro a wa hA caseA b wb hB
  refine Way.ind (C := fun b wb => ∀ (M : Nat) (gs : Array Goroutine) (q : Nat → Nat) (w : World) (sl : Option (Nat × Nat)) (t : Trace), sumTo k q = M → Rest P k gs q → gs.size = k + 1 → gs[0]? = some a → gs[k]? = some b →
      RA wa w → RB wb w → W w → TI t → Ev P (crowd gs w sl) t (Meet P RA RB DA DB NA NB W TI k)) ?_ hB
  intro b wb hB caseB M
  induction M using Nat.strongRecOn with
  | _ M ih =>
    intro gs q w sl t hM hR hsz h0 hkk hra hrb hW hT
    have ra := runA hA hra
    have rb := runB hB hrb
    have haw := awake_rest hR (fun x hx => by rw [h0] at hx; cases hx; exact awake_of (.inl ra)) (fun i x hi hx => by
      have := (Array.getElem?_eq_some_iff.1 hx).1
      have e : i = k := by omega
      subst e
      rw [hkk] at hx; cases hx; exact awake_of (.inl rb))
    obtain ⟨i, x, d, sl', hi, hx, hstep⟩ := crowd_pick (P := P) (w := w) (sl := sl) haw ⟨0, a, h0, ra⟩
    have hra' := hp.trA _ _ _ hra (hp.atA w d)
    have hrb' := hp.trB _ _ _ hrb (hp.atB w d)
    have hW1 := hp.atW _ d hW
    by_cases e0 : i = 0
    · subst e0
      rw [h0] at hi
      cases hi
      rcases caseA with hs | ⟨_, hs⟩
      · exact .now ⟨gs, q, w, sl, sl', d, a, wa, b, wb, rfl, hR, hsz, h0, hkk, hra, hrb, hW, hT, .inl ⟨hs, hB, hstep⟩⟩
      · obtain ⟨a', w', es, hgo, hD, hway, hC⟩ := hs (w.at d) hra'
        refine Ev.step (hstep.trans (run_go rfl h0 hgo)) ?_
        exact hC _ _ (hB.rely hp.trB (hp.trB _ _ _ hrb' (hp.ab _ _ _ hW1 hD))) _ _ q w' sl' _ rfl (hR.step (.inl rfl)) (by simpa using hsz) (get_self h0) (get_step (by omega) hkk (woken_running rb)) (hp.rfA _) (hp.rfB _)
          (hp.wA _ _ _ hW1 hD) (hp.tA _ _ _ _ _ _ hT hD)
    · by_cases ek : i = k
      · subst ek
        rw [hkk] at hi
        cases hi
        rcases caseB with hs | ⟨_, hs⟩
        · exact .now ⟨gs, q, w, sl, sl', d, a, wa, b, wb, rfl, hR, hsz, h0, hkk, hra, hrb, hW, hT, .inr ⟨hA, hs, hstep⟩⟩
        · obtain ⟨b', w', es, hgo, hD, hway, hC⟩ := hs (w.at d) hrb'
          refine Ev.step (hstep.trans (run_go (by simp; omega) hkk hgo)) ?_
          exact hC _ _ q w' sl' _ rfl (hR.step (.inr (Nat.le_refl _))) (by simpa using hsz) (get_step (by omega) h0 (woken_running ra)) (get_self hkk) (hp.trA _ _ _ hra' (hp.ba _ _ _ hW1 hD)) (hp.rfB _)
            (hp.wB _ _ _ hW1 hD) (hp.tB _ _ _ _ _ _ hT hD)
      · have hlt := (Array.getElem?_eq_some_iff.1 hi).1
        have hpos : 0 < i := by omega
        have hik : i < k := by omega
        obtain ⟨n, g', hqn, hqg, hrunT⟩ := slip_step (w := w.at d) (sl := sl') hR hpos hik hi hx
        have hl := sum_slip hik hqn
        refine Ev.step (hstep.trans hrunT) ?_
        rw [Array.append_empty]
        exact ih _ (by omega) _ (upd q i n) (w.at d) sl' t rfl (hR.slip hik hqg) (by simpa using hsz) (get_step (by omega) h0 (woken_running ra)) (get_step (by omega) hkk (woken_running rb)) hra' hrb' hW1 hT

end
end Go.Co

/-
  ONE EXCHANGE OVER THE CHANNEL; THE CLOSING; WHOEVER IS PICKED WHEN.
-/
namespace Go.Co
open Go.Conc
open Go.ConcN (sumTo upd sumTo_upd upd_ne upd_same)

def OpenC (c : Nat) (w : World) : Prop := ∃ s r tm, w.heap[c]? = some (.chan 0 #[] false s r tm)

/-- The channel between the two. -/
structure Line (RA RB : World → World → Prop) (W : World → Prop) (TI : Trace → Prop) (k c : Nat) : Prop where
  opn : ∀ w, W w → OpenC c w
  putA : ∀ w s r tm, W w → RA w (w.setChan c 0 #[] false s r tm)
  putB : ∀ w s r tm, W w → RB w (w.setChan c 0 #[] false s r tm)
  putW : ∀ w s r tm, W w → W (w.setChan c 0 #[] false s r tm)
  com : ∀ t u, TI t → (∀ op ∈ u, op.g ≤ k ∧ op.act.touch? = none ∧ ∀ m, op.act = .mark m → Neutral m) → TI (t ++ u)

/-- Goroutine 0's stop: it stands at the receive. -/
def Recv0 (P : Program) (c : Nat) (z : Value) (g : Goroutine) (w : World) : Prop := g.status = .running ∧ stepG P true g w = .comm (core g) #[rcase c z] true (.recv true) w #[]
/-- The sender's: it stands at a send of 'v'. -/
def Send0 (P : Program) (c : Nat) (v : Value) (g : Goroutine) (w : World) : Prop := g.status = .running ∧ ∃ z', stepG P false g w = .comm (core g) #[scase c v z'] true .send w #[]

section
variable {P : Program} {RA RB : World → World → Prop} {DA DB : World → World → Array Event → Prop} {W : World → Prop} {TI : Trace → Prop} {k c : Nat} {z v : Value} {NA NB : Goroutine → World → Prop}

/-- Behind an exchange. -/
def Exch (P : Program) (RA RB : World → World → Prop) (NA NB : Goroutine → World → Prop) (W : World → Prop) (TI : Trace → Prop) (k : Nat) (v : Value) (m : Machine) (t' : Trace) : Prop :=
  ∃ gs' q' w' sl' ga wa gb wb, m = crowd gs' w' sl' ∧ Rest P k gs' q' ∧ gs'.size = k + 1 ∧ gs'[0]? = some (Conc.served (core ga) (.tuple #[v, .bool true])) ∧ gs'[k]? = some (Conc.served (core gb) undef) ∧
    (∀ w1, RA wa w1 → NA ga w1) ∧ RA wa w' ∧ (∀ w1, RB wb w1 → NB gb w1) ∧ RB wb w' ∧ W w' ∧ TI t'

theorem idle_recv (hl : Line RA RB W TI k c) (g : Goroutine) : Idle P W (parked (core g) #[rcase c z] (.recv true)) := by
  refine ⟨by simp [parked], fun t ht => by simp [parked] at ht, fun y y' w' hw => ?_⟩
  obtain ⟨s, r, tm, hc⟩ := hl.opn _ hw
  exact woken_recv_open y y' hc
theorem idle_send (hl : Line RA RB W TI k c) (g : Goroutine) (z' : Value) : Idle P W (parked (core g) #[scase c v z'] .send) := by
  refine ⟨by simp [parked], fun t ht => by simp [parked] at ht, fun y y' w' hw => ?_⟩
  obtain ⟨s, r, tm, hc⟩ := hl.opn _ hw
  exact woken_send_open y y' hc

theorem quiet_ops {k : Nat} {u : Array MemOp} (h : ∀ op ∈ u, op.g ≤ k ∧ op.act.touch? = none ∧ ∀ m, op.act ≠ .mark m) : ∀ op ∈ u, op.g ≤ k ∧ op.act.touch? = none ∧ ∀ m, op.act = .mark m → Neutral m :=
  fun op hop => ⟨(h op hop).1, (h op hop).2.1, fun m hm => absurd hm ((h op hop).2.2 m)⟩

theorem rest_quiet {gs : Array Goroutine} {q : Nat → Nat} (hR : Rest P k gs q) {i : Nat} {x : Goroutine} (h0 : 0 < i) (hk : i < k) (hi : gs[i]? = some x) (send : Bool) : offersAt x c send = [] := by
  refine offersAt_of_not_blocked (fun hb => ?_) _ _
  rcases (hR.rest i x h0 hk hi).status with h | h <;> rw [h] at hb <;> cases hb

/-- Goroutine 0 waits, the sender comes. -/
theorem exch_parked (hp : Pair RA RB DA DB W TI k) (hl : Line RA RB W TI k c) (hk : 0 < k) (hNB : ∀ g w, NB g w → Send0 P c v g w) {ga : Goroutine} {wa : World} (hA : ∀ w1, RA wa w1 → NA ga w1)
    {b : Goroutine} {wb : World} (hB : Way P false RB DB NB b wb) (M : Nat) (gs : Array Goroutine) (q : Nat → Nat) (w : World) (sl : Option (Nat × Nat)) (t : Trace) (hM : sumTo k q = M) (hR : Rest P k gs q) (hsz : gs.size = k + 1)
    (h0 : gs[0]? = some (parked (core ga) #[rcase c z] (.recv true))) (hkk : gs[k]? = some b) (hra : RA wa w) (hrb : RB wb w) (hW : W w) (hT : TI t) : Ev P (crowd gs w sl) t (Exch P RA RB NA NB W TI k v) := by
  have hj : (k == 0) = false := by simp; omega
  -- the sender's steps turn goroutine 0's world by RA: carried along in the world's invariant
  refine Ev.then (one_moves (R := RB) (D := DB) (Stop := NB) (W := fun w => W w ∧ RA wa w) (TI := TI) (j := k) (k := k) hp.trB hp.rfB hp.atB (fun w d h => ⟨hp.atW w d h.1, hp.trA _ _ _ h.2 (hp.atA w d)⟩)
    (fun w w' es h hD => ⟨hp.wB _ _ _ h.1 hD, hp.trA _ _ _ h.2 (hp.ba _ _ _ h.1 hD)⟩) (fun t w w' es fn pos => hp.tB t w w' es fn pos) (.inr (Nat.le_refl k)) (fun g w h => (hNB g w h).1) (by rw [hj]; exact hB) M gs q w sl t hM hR hkk hrb ⟨hW, hra⟩ hT ?_) ?_
  · intro i x hi hne hx
    have := (Array.getElem?_eq_some_iff.1 hx).1
    have e : i = 0 := by omega
    subst e
    rw [h0] at hx
    cases hx
    obtain ⟨i1, i2, i3⟩ := idle_recv (P := P) (z := z) hl ga
    exact ⟨i1, i2, fun y y' w' hw => i3 y y' w' hw.1⟩
  · rintro m t' ⟨gs', q', w', sl', sl2, d, g', wr', rfl, hR', hsz', hg', hr', ⟨hW', hra'⟩, hT', hs', hkeep, hstep⟩
    have h0' := hkeep 0 _ (.inl rfl) (by omega) h0
    obtain ⟨hrun, z', hcomm⟩ := hNB _ _ (hs' (w'.at d) (hp.trB _ _ _ hr' (hp.atB _ _)))
    obtain ⟨s, r, tm, hc⟩ := hl.opn _ (hp.atW _ d hW')
    have hpart : partners (gs'.setIfInBounds k ph) c false = [(0, 0)] := by
      have hz0 : (gs'.setIfInBounds k ph)[0]? = some (parked (core ga) #[rcase c z] (.recv true)) := by rw [Array.getElem?_setIfInBounds_ne (by omega)]; exact h0'
      rw [partners_one hz0, offersAt_parked_recv]
      · simp
      · intro i x hne hx
        rcases getElem?_stand _ _ _ _ hx with ⟨_, rfl⟩ | ⟨hik, hx'⟩
        · exact offersAt_ph _ _
        · have := (Array.getElem?_eq_some_iff.1 hx').1
          exact rest_quiet hR' (by omega) (by omega) hx' _
    have hrunT := crowd_send_meets (P := P) (w := w'.at d) (sl := sl2) (i := k) (j := 0) (g := g') (shj := .recv true) (zj := z) hg' (by rw [hj]; exact hcomm) hc (by omega) h0' hpart
    refine Ev.step (hstep.trans hrunT) (.now ?_)
    refine ⟨_, q', _, sl2, ga, wa, g', wr', rfl, (hR'.set (.inl rfl)).set (.inr (Nat.le_refl _)), by simpa using (hsz'.trans hsz), ?_, ?_, hA, ?_, hs', ?_, hl.putW _ _ _ _ (hp.atW _ _ hW'), ?_⟩
    · rw [Array.getElem?_setIfInBounds_ne (by omega)]
      have := (Array.getElem?_eq_some_iff.1 h0').1
      rw [Array.getElem?_setIfInBounds_self_of_lt this]
      rfl
    · rw [Array.getElem?_setIfInBounds_self_of_lt (by simp; omega)]
      rfl
    · exact hp.trA _ _ _ (hp.trA _ _ _ hra' (hp.atA _ _)) (hl.putA _ _ _ _ (hp.atW _ _ hW'))
    · exact hp.trB _ _ _ (hp.trB _ _ _ hr' (hp.atB _ _)) (hl.putB _ _ _ _ (hp.atW _ _ hW'))
    · refine hl.com _ _ hT' (quiet_ops fun op hop => ?_)
      rcases Array.mem_append.1 hop with h | h
      · exact absurd h (by simp [MemOp.ofEvents])
      · simp only [List.mem_toArray, List.mem_cons, List.not_mem_nil, or_false] at h
        rcases h with rfl | rfl | rfl | rfl <;> exact ⟨by simp, rfl, by simp⟩

/-- Both are on their way. -/
theorem exch_way (hp : Pair RA RB DA DB W TI k) (hl : Line RA RB W TI k c) (hk : 0 < k) (hNA : ∀ g w, NA g w → Recv0 P c z g w) (hNB : ∀ g w, NB g w → Send0 P c v g w)
    {a : Goroutine} {wa : World} (hA : Way P true RA DA NA a wa) {b : Goroutine} {wb : World} (hB : Way P false RB DB NB b wb) (M : Nat) (gs : Array Goroutine) (q : Nat → Nat) (w : World) (sl : Option (Nat × Nat)) (t : Trace) (hM : sumTo k q = M) (hR : Rest P k gs q) (hsz : gs.size = k + 1)
    (h0 : gs[0]? = some a) (hkk : gs[k]? = some b) (hra : RA wa w) (hrb : RB wb w) (hW : W w) (hT : TI t) : Ev P (crowd gs w sl) t (Exch P RA RB NA NB W TI k v) := by
  have hj : (k == 0) = false := by simp; omega
  refine (two_move hp hk (fun g w h => (hNA g w h).1) (fun g w h => (hNB g w h).1) hA b wb hB M gs q w sl t hM hR hsz h0 hkk hra hrb hW hT).then ?_
  rintro m t' ⟨gs', q', w', sl', sl2, d, a', wa', b', wb', rfl, hR', hsz', h0', hk', hra', hrb', hW', hT', hcase⟩
  have hW1 := hp.atW _ d hW'
  obtain ⟨s, r, tm, hc⟩ := hl.opn _ hW1
  rcases hcase with ⟨hs, hway, hstep⟩ | ⟨hway, hs, hstep⟩
  · -- goroutine 0 waits
    obtain ⟨hrun, hcomm⟩ := hNA _ _ (hs (w'.at d) (hp.trA _ _ _ hra' (hp.atA _ _)))
    have hbrun : b'.status = .running := by
      cases hway with
      | stop h => exact (hNB _ _ (h w' hrb')).1
      | step h _ _ => exact h
    have hpart : partners (gs'.setIfInBounds 0 ph) c true = [] := partners_nil fun i x hx => by
      rcases getElem?_stand _ _ _ _ hx with ⟨_, rfl⟩ | ⟨hik, hx'⟩
      · exact offersAt_ph _ _
      · have := (Array.getElem?_eq_some_iff.1 hx').1
        by_cases e : i = k
        · subst e
          rw [hk'] at hx'
          cases hx'
          exact offersAt_of_not_blocked (by rw [hbrun]; simp) _ _
        · exact rest_quiet hR' (by omega) (by omega) hx' _
    have hrunT := crowd_waits (P := P) (w := w'.at d) (sl := sl2) (i := 0) (g := a') h0' (show stepG P (0 == 0) a' (w'.at d) = _ from hcomm) (fun cc hcc => by
      have e : cc = rcase c z := by simpa using hcc
      subst e
      exact ways_recv_none hc hpart)
    refine Ev.step (hstep.trans hrunT) ?_
    have hks : (gs'.setIfInBounds 0 (parked (core a') #[rcase c z] (.recv true)))[k]? = some b' := by rw [Array.getElem?_setIfInBounds_ne (by omega)]; exact hk'
    exact exch_parked hp hl hk hNB hs hway _ _ q' _ _ _ rfl (hR'.set (.inl rfl)) (by simpa using hsz') (by rw [Array.getElem?_setIfInBounds_self_of_lt (by omega)]) hks (hp.trA _ _ _ hra' (hp.atA _ _)) (hp.trB _ _ _ hrb' (hp.atB _ _)) hW1
      (hl.com _ _ hT' fun op hop => absurd hop (by simp [MemOp.ofEvents]))
  · -- the sender waits; goroutine 0 comes
    obtain ⟨hrun, z', hcomm⟩ := hNB _ _ (hs (w'.at d) (hp.trB _ _ _ hrb' (hp.atB _ _)))
    have harun : a'.status = .running := by
      cases hway with
      | stop h => exact (hNA _ _ (h w' hra')).1
      | step h _ _ => exact h
    have hpart : partners (gs'.setIfInBounds k ph) c false = [] := partners_nil fun i x hx => by
      rcases getElem?_stand _ _ _ _ hx with ⟨_, rfl⟩ | ⟨hik, hx'⟩
      · exact offersAt_ph _ _
      · have := (Array.getElem?_eq_some_iff.1 hx').1
        by_cases e : i = 0
        · subst e
          rw [h0'] at hx'
          cases hx'
          exact offersAt_of_not_blocked (by rw [harun]; simp) _ _
        · exact rest_quiet hR' (by omega) (by omega) hx' _
    have hrunT := crowd_waits (P := P) (w := w'.at d) (sl := sl2) (i := k) (g := b') hk' (by rw [hj]; exact hcomm) (fun cc hcc => by
      have e : cc = scase c v z' := by simpa using hcc
      subst e
      exact ways_send_none hc (Nat.zero_le _) hpart)
    refine Ev.step (hstep.trans hrunT) ?_
    have h0s : (gs'.setIfInBounds k (parked (core b') #[scase c v z'] .send))[0]? = some a' := by rw [Array.getElem?_setIfInBounds_ne (by omega)]; exact h0'
    have hks : (gs'.setIfInBounds k (parked (core b') #[scase c v z'] .send))[k]? = some (parked (core b') #[scase c v z'] .send) := by rw [Array.getElem?_setIfInBounds_self_of_lt (by omega)]
    refine Ev.then (one_moves (R := RA) (D := DA) (Stop := NA) (W := fun w => W w ∧ RB wb' w) (TI := TI) (j := 0) (k := k) hp.trA hp.rfA hp.atA (fun w d h => ⟨hp.atW w d h.1, hp.trB _ _ _ h.2 (hp.atB w d)⟩)
      (fun w w' es h hD => ⟨hp.wA _ _ _ h.1 hD, hp.trB _ _ _ h.2 (hp.ab _ _ _ h.1 hD)⟩) (fun t w w' es fn pos => hp.tA t w w' es fn pos) (.inl rfl) (fun g w h => (hNA g w h).1) hway _ _ q' _ _ _ rfl (hR'.set (.inr (Nat.le_refl _))) h0s (hp.trA _ _ _ hra' (hp.atA _ d)) ⟨hW1, hp.trB _ _ _ hrb' (hp.atB _ _)⟩
      (hl.com _ _ hT' fun op hop => absurd hop (by simp [MemOp.ofEvents])) ?_) ?_
    · intro i x hi hne hx
      have := (Array.getElem?_eq_some_iff.1 hx).1
      have e : i = k := by simp at this; omega
      subst e
      rw [hks] at hx
      cases hx
      obtain ⟨i1, i2, i3⟩ := idle_send (P := P) (v := v) hl b' z'
      exact ⟨i1, i2, fun y y' w' hw => i3 y y' w' hw.1⟩
    · rintro m t2 ⟨gs2, q2, w2, sl3, sl4, d2, g2, wr2, rfl, hR2, hsz2, hg2, hr2, ⟨hW2, hrb2⟩, hT2, hs2, hkeep, hstep2⟩
      have hk2 := hkeep k _ (.inr (Nat.le_refl _)) (by omega) hks
      obtain ⟨hrun2, hcomm2⟩ := hNA _ _ (hs2 (w2.at d2) (hp.trA _ _ _ hr2 (hp.atA _ _)))
      obtain ⟨s2, r2, tm2, hc2⟩ := hl.opn _ (hp.atW _ d2 hW2)
      have hsz2' : gs2.size = k + 1 := by simpa using hsz2.trans (by simpa using hsz')
      have hpart2 : partners (gs2.setIfInBounds 0 ph) c true = [(k, 0)] := by
        have hz0 : (gs2.setIfInBounds 0 ph)[k]? = some (parked (core b') #[scase c v z'] .send) := by rw [Array.getElem?_setIfInBounds_ne (by omega)]; exact hk2
        rw [partners_one hz0, offersAt_parked_send]
        · simp
        · intro i x hne hx
          rcases getElem?_stand _ _ _ _ hx with ⟨_, rfl⟩ | ⟨hik, hx'⟩
          · exact offersAt_ph _ _
          · have := (Array.getElem?_eq_some_iff.1 hx').1
            exact rest_quiet hR2 (by omega) (by omega) hx' _
      have hrunT2 := crowd_recv_meets (P := P) (w := w2.at d2) (sl := sl4) (i := 0) (j := k) (g := g2) (shj := .send) (zj := z') hg2 (show stepG P (0 == 0) g2 (w2.at d2) = _ from hcomm2) hc2 (by omega) hk2 hpart2
      refine Ev.step (hstep2.trans hrunT2) (.now ?_)
      refine ⟨_, q2, _, sl4, g2, wr2, b', wb', rfl, (hR2.set (.inr (Nat.le_refl _))).set (.inl rfl), by simpa using hsz2', ?_, ?_, hs2, ?_, hs, ?_, hl.putW _ _ _ _ (hp.atW _ _ hW2), ?_⟩
      · rw [Array.getElem?_setIfInBounds_self_of_lt (by simp; omega)]
        rfl
      · rw [Array.getElem?_setIfInBounds_ne (by omega), Array.getElem?_setIfInBounds_self_of_lt (by omega)]
        rfl
      · exact hp.trA _ _ _ (hp.trA _ _ _ hr2 (hp.atA _ _)) (hl.putA _ _ _ _ (hp.atW _ _ hW2))
      · exact hp.trB _ _ _ (hp.trB _ _ _ hrb2 (hp.atB _ _)) (hl.putB _ _ _ _ (hp.atW _ _ hW2))
      · refine hl.com _ _ hT2 (quiet_ops fun op hop => ?_)
        rcases Array.mem_append.1 hop with h | h
        · exact absurd h (by simp [MemOp.ofEvents])
        · simp only [List.mem_toArray, List.mem_cons, List.not_mem_nil, or_false] at h
          rcases h with rfl | rfl | rfl | rfl <;> exact ⟨by simp, rfl, by simp⟩

end
end Go.Co

/-
  THE SENDER CLOSES THE CHANNEL; GOROUTINE 0 FINDS IT CLOSED.
-/
namespace Go.Co
open Go.Conc
open Go.ConcN (sumTo upd sumTo_upd upd_ne upd_same)

def ClosedC (c : Nat) (w : World) : Prop := ∃ s r tm, w.heap[c]? = some (.chan 0 #[] true s r tm)

/-- The sender stands at the close; behind it, it only leaves. -/
def Close0 (P : Program) (c : Nat) (g : Goroutine) (w : World) : Prop :=
  g.status = .running ∧ mayWake P g = true ∧ ∃ g2 n, QuitsIn P n g2 ∧ ∀ s r tm, w.heap[c]? = some (.chan 0 #[] false s r tm) → stepG P false g w = .go g2 (w.shut c s r tm) #[⟨.obj c, false, true⟩, ⟨.obj c, true, true⟩]

/-- Goroutine 0 has found it closed. -/
def Found (P : Program) (RA : World → World → Prop) (NA : Goroutine → World → Prop) (Cl : World → Prop) (k : Nat) (z : Value) (m : Machine) (t' : Trace) : Prop :=
  ∃ gs' q' w' sl' ga wa, m = crowd gs' w' sl' ∧ Rest P (k + 1) gs' q' ∧ gs'.size = k + 1 ∧ gs'[0]? = some (Conc.served (core ga) (.tuple #[z, .bool false])) ∧ (∀ w1, RA wa w1 → NA ga w1) ∧ RA wa w' ∧ Cl w' ∧ Tr t' (k + 1)

/-- What is asked for the closing. -/
structure Shut (RA : World → World → Prop) (DA : World → World → Array Event → Prop) (W : World → Prop) (TI : Trace → Prop) (NA : Goroutine → World → Prop) (Cl : World → Prop) (k c : Nat) (z : Value) (Off : Go.Loc → Prop) : Prop where
  trp : ∀ t, TI t → TrP t k Off
  off : Off (.obj c)
  shutA : ∀ w s r tm, W w → RA w (w.shut c s r tm)
  keep : ∀ w w' es, Cl w → DA w w' es → Cl w'
  cl : ∀ w, Cl w → ClosedC c w
  clAt : ∀ w d, Cl w → Cl (w.at d)
  clShut : ∀ w s r tm, W w → w.heap[c]? = some (.chan 0 #[] false s r tm) → Cl (w.shut c s r tm)
  evs : ∀ w w' es, DA w w' es → ∀ e ∈ es, Quiet e ∧ ¬ Off e.loc
  again : ∀ g w, NA g w → NA { parked (core g) #[rcase c z] (.recv true) with status := .running } w

section
variable {P : Program} {RA RB : World → World → Prop} {DA DB : World → World → Array Event → Prop} {W : World → Prop} {TI : Trace → Prop} {k c : Nat} {z v : Value} {NA NB : Goroutine → World → Prop} {Off : Go.Loc → Prop} {Cl : World → Prop}

/-- Goroutine 0 on its way, the channel closed, all others leaving. -/
theorem found_way (trA : ∀ a b c, RA a b → RA b c → RA a c) (rfA : ∀ w, RA w w) (atA : ∀ w d, RA w (w.at d)) (hs : Shut RA DA W TI NA Cl k c z Off) (hNA : ∀ g w, NA g w → Recv0 P c z g w) {a : Goroutine} {wa : World} (hA : Way P true RA DA NA a wa)
    (gs : Array Goroutine) (q : Nat → Nat) (w : World) (sl : Option (Nat × Nat)) (t : Trace) (pc : Nat) (hR : Rest P (k + 1) gs q) (hsz : gs.size = k + 1) (h0 : gs[0]? = some a) (hra : RA wa w) (hc : Cl w) (hT : TrC t k Off c pc) : Ev P (crowd gs w sl) t (Found P RA NA Cl k z) := by
  refine Ev.then (one_moves (R := RA) (D := DA) (Stop := NA) (W := Cl) (TI := fun t => TrC t k Off c pc) (j := 0) (k := k + 1) trA rfA atA hs.clAt hs.keep (fun t w w' es fn pos h hD => h.own0 (fun e he => (hs.evs _ _ _ hD e he).1) (fun e he => (hs.evs _ _ _ hD e he).2)) (.inl rfl)
    (fun g w h => (hNA g w h).1) hA _ gs q w sl t rfl hR h0 hra hc hT ?_) ?_
  · intro i x hi hne hx
    have := (Array.getElem?_eq_some_iff.1 hx).1
    omega
  · rintro m t' ⟨gs', q', w', sl', sl2, d, g', wr', rfl, hR', hsz', hg', hr', hc', hT', hs', _, hstep⟩
    obtain ⟨hrun, hcomm⟩ := hNA _ _ (hs' (w'.at d) (trA _ _ _ hr' (atA _ _)))
    obtain ⟨s, r, tm, hcc⟩ := hs.cl _ (hs.clAt _ d hc')
    have hsz2 : gs'.size = k + 1 := hsz'.trans hsz
    have hpart : partners (gs'.setIfInBounds 0 ph) c true = [] := partners_nil fun i x hx => by
      rcases getElem?_stand _ _ _ _ hx with ⟨_, rfl⟩ | ⟨hik, hx'⟩
      · exact offersAt_ph _ _
      · have := (Array.getElem?_eq_some_iff.1 hx').1
        exact rest_quiet hR' (by omega) (by omega) hx' _
    have hrunT := crowd_recv_closed (P := P) (w := w'.at d) (w₁ := w'.at d) (sl := sl2) (i := 0) (g := g') hg' (show stepG P (0 == 0) g' (w'.at d) = _ from hcomm) hcc hpart
    refine Ev.step (hstep.trans hrunT) (.now ?_)
    refine ⟨_, q', _, sl2, g', wr', rfl, hR'.set (.inl rfl), by simpa using hsz2, ?_, hs', trA _ _ _ hr' (atA _ _), hs.clAt _ d hc', ?_⟩
    · rw [Array.getElem?_setIfInBounds_self_of_lt (by omega)]
      rfl
    · rw [show MemOp.ofEvents 0 g'.frame.fn g'.frame.place #[] = #[] from rfl, Array.empty_append]
      exact hT'.found ⟨rfl, rfl⟩

theorem close_trace {t : Trace} (h : TrP t k Off) (ho : Off (.obj c)) (fn : FuncId) (pos : String) : ∃ pc, TrC (t ++ MemOp.ofEvents k fn pos #[⟨.obj c, false, true⟩, ⟨.obj c, true, true⟩]) k Off c pc := by
  have h1 := h.ownk (fn := fn) (pos := pos) (es := #[⟨.obj c, false, true⟩]) (by intro e he; simp at he; subst he; intro m hm; cases hm) (by intro e he; simp at he; subst he; exact ho)
  have e : t ++ MemOp.ofEvents k fn pos #[⟨.obj c, false, true⟩, ⟨.obj c, true, true⟩] = (t ++ MemOp.ofEvents k fn pos #[⟨.obj c, false, true⟩]).push { g := k, fn, pos, act := .close c } := by
    have e1 : MemOp.ofEvents k fn pos #[⟨.obj c, false, true⟩, ⟨.obj c, true, true⟩] = MemOp.ofEvents k fn pos #[⟨.obj c, false, true⟩] ++ #[{ g := k, fn, pos, act := .close c }] := by
      simp [MemOp.ofEvents, MemAct.ofEvent]
    rw [e1, ← Array.append_assoc]
    exact (Array.push_eq_append ..).symm
  rw [e]
  exact ⟨_, h1.close ⟨rfl, rfl⟩⟩

/-- The close itself, picked: goroutine 0 on its way. -/
theorem close_step (hp : Pair RA RB DA DB W TI k) (hl : Line RA RB W TI k c) (hk : 0 < k) (hs : Shut RA DA W TI NA Cl k c z Off) (hNA : ∀ g w, NA g w → Recv0 P c z g w) {gs : Array Goroutine} {q : Nat → Nat} {w : World} {sl sl2 : Option (Nat × Nat)} {t : Trace} {d : Nat} {b : Goroutine}
    (hR : Rest P k gs q) (hsz : gs.size = k + 1) (hkk : gs[k]? = some b) (hW : W w) (hT : TI t) (hb : Close0 P c b (w.at d)) (hstep : stepT P (crowd gs w sl) = runT P (crowd gs (w.at d) sl2) k)
    (a : Goroutine) (h0 : gs[0]? = some a) (hsit : (∃ wa, Way P true RA DA NA a wa ∧ RA wa w) ∨ ∃ ga wa, a = parked (core ga) #[rcase c z] (.recv true) ∧ (∀ w1, RA wa w1 → NA ga w1) ∧ RA wa w) : Ev P (crowd gs w sl) t (Found P RA NA Cl k z) := by
  obtain ⟨hrun, hmw, g2, n, hq, hgo⟩ := hb
  have hW1 := hp.atW _ d hW
  obtain ⟨s, r, tm, hc⟩ := hl.opn _ hW1
  have hgo' := hgo s r tm hc
  have hkb : (k == 0) = false := by simp; omega
  have hrunT := run_go (P := P) (sl := sl2) (main := false) hkb.symm hkk hgo'
  refine Ev.step (hstep.trans hrunT) ?_
  obtain ⟨pc, hTC⟩ := close_trace (t := t) (hs.trp t hT) hs.off b.frame.fn b.frame.place
  have hclosed : Cl ((w.at d).shut c s r tm) := hs.clShut _ s r tm hW1 hc
  have hheap : ((w.at d).shut c s r tm).heap[c]? = some (.chan 0 #[] true s r tm) := heap_put hc
  have hwk : ∀ o, woken P b g2 ((w.at d).shut c s r tm) o = o.again ((w.at d).shut c s r tm) := by
    intro o; unfold Go.Conc.woken; rcases hq.status with h | h <;> simp [hmw, h]
  have hR' : Rest P (k + 1) ((gs.map (woken P b g2 ((w.at d).shut c s r tm))).setIfInBounds k g2) (upd q k n) := by
    refine ⟨by omega, by simp; omega, fun i x hi0 hik hx => ?_⟩
    by_cases e : k = i
    · subst e
      rw [Array.getElem?_setIfInBounds_self_of_lt (by simp; omega)] at hx
      obtain rfl := Option.some.inj hx
      rw [upd_same]; exact hq
    · rw [Array.getElem?_setIfInBounds_ne e, Array.getElem?_map] at hx
      obtain ⟨y, hy, rfl⟩ := Option.map_eq_some_iff.1 hx
      have hqy := hR.rest i y hi0 (by omega) hy
      rw [woken_quits hqy, upd_ne q n (Ne.symm e)]
      exact hqy
  have hRAs : ∀ wa, RA wa w → RA wa ((w.at d).shut c s r tm) := fun wa h => hp.trA _ _ _ (hp.trA _ _ _ h (hp.atA _ _)) (hs.shutA _ _ _ _ hW1)
  rcases hsit with ⟨wa, hway, hra⟩ | ⟨ga, wa, rfl, hNg, hra⟩
  · have harun : a.status = .running := by
      cases hway with
      | stop h => exact (hNA _ _ (h w hra)).1
      | step h _ _ => exact h
    refine found_way hp.trA hp.rfA hp.atA hs hNA hway _ _ _ _ _ pc hR' (by simpa using hsz) ?_ (hRAs wa hra) hclosed hTC
    exact get_step (by omega) h0 (woken_running harun)
  · refine found_way (wa := wa) hp.trA hp.rfA hp.atA hs hNA (a := { parked (core ga) #[rcase c z] (.recv true) with status := .running }) (.stop fun w1 h1 => hs.again _ _ (hNg w1 h1)) _ _ _ _ _ pc hR' (by simpa using hsz) ?_ (hRAs wa hra) hclosed hTC
    rw [Array.getElem?_setIfInBounds_ne (by omega), Array.getElem?_map, h0, Option.map_some, hwk, again_parked_shut rfl hheap]

/-- Goroutine 0 waits; the sender comes and closes. -/
theorem close_parked (hp : Pair RA RB DA DB W TI k) (hl : Line RA RB W TI k c) (hk : 0 < k) (hs : Shut RA DA W TI NA Cl k c z Off) (hNA : ∀ g w, NA g w → Recv0 P c z g w) (hNB : ∀ g w, NB g w → Close0 P c g w) {ga : Goroutine} {wa : World} (hA : ∀ w1, RA wa w1 → NA ga w1)
    {b : Goroutine} {wb : World} (hB : Way P false RB DB NB b wb) (gs : Array Goroutine) (q : Nat → Nat) (w : World) (sl : Option (Nat × Nat)) (t : Trace) (hR : Rest P k gs q) (hsz : gs.size = k + 1)
    (h0 : gs[0]? = some (parked (core ga) #[rcase c z] (.recv true))) (hkk : gs[k]? = some b) (hra : RA wa w) (hrb : RB wb w) (hW : W w) (hT : TI t) : Ev P (crowd gs w sl) t (Found P RA NA Cl k z) := by
  have hj : (k == 0) = false := by simp; omega
  refine Ev.then (one_moves (R := RB) (D := DB) (Stop := NB) (W := fun w => W w ∧ RA wa w) (TI := TI) (j := k) (k := k) hp.trB hp.rfB hp.atB (fun w d h => ⟨hp.atW w d h.1, hp.trA _ _ _ h.2 (hp.atA w d)⟩)
    (fun w w' es h hD => ⟨hp.wB _ _ _ h.1 hD, hp.trA _ _ _ h.2 (hp.ba _ _ _ h.1 hD)⟩) (fun t w w' es fn pos => hp.tB t w w' es fn pos) (.inr (Nat.le_refl k)) (fun g w h => (hNB g w h).1) (by rw [hj]; exact hB) _ gs q w sl t rfl hR hkk hrb ⟨hW, hra⟩ hT ?_) ?_
  · intro i x hi hne hx
    have := (Array.getElem?_eq_some_iff.1 hx).1
    have e : i = 0 := by omega
    subst e
    rw [h0] at hx
    cases hx
    obtain ⟨i1, i2, i3⟩ := idle_recv (P := P) (z := z) hl ga
    exact ⟨i1, i2, fun y y' w' hw => i3 y y' w' hw.1⟩
  · rintro m t' ⟨gs', q', w', sl', sl2, d, g', wr', rfl, hR', hsz', hg', hr', ⟨hW', hra'⟩, hT', hs', hkeep, hstep⟩
    exact close_step hp hl hk hs hNA hR' (hsz'.trans hsz) hg' hW' hT' (hNB _ _ (hs' (w'.at d) (hp.trB _ _ _ hr' (hp.atB _ _)))) hstep _ (hkeep 0 _ (.inl rfl) (by omega) h0) (.inr ⟨ga, wa, rfl, hA, hra'⟩)

/-- Both on their way; the sender closes. -/
theorem close_way (hp : Pair RA RB DA DB W TI k) (hl : Line RA RB W TI k c) (hk : 0 < k) (hs : Shut RA DA W TI NA Cl k c z Off) (hNA : ∀ g w, NA g w → Recv0 P c z g w) (hNB : ∀ g w, NB g w → Close0 P c g w)
    {a : Goroutine} {wa : World} (hA : Way P true RA DA NA a wa) {b : Goroutine} {wb : World} (hB : Way P false RB DB NB b wb) (gs : Array Goroutine) (q : Nat → Nat) (w : World) (sl : Option (Nat × Nat)) (t : Trace) (hR : Rest P k gs q) (hsz : gs.size = k + 1)
    (h0 : gs[0]? = some a) (hkk : gs[k]? = some b) (hra : RA wa w) (hrb : RB wb w) (hW : W w) (hT : TI t) : Ev P (crowd gs w sl) t (Found P RA NA Cl k z) := by
  refine (two_move hp hk (fun g w h => (hNA g w h).1) (fun g w h => (hNB g w h).1) hA b wb hB _ gs q w sl t rfl hR hsz h0 hkk hra hrb hW hT).then ?_
  rintro m t' ⟨gs', q', w', sl', sl2, d, a', wa', b', wb', rfl, hR', hsz', h0', hk', hra', hrb', hW', hT', hcase⟩
  have hW1 := hp.atW _ d hW'
  obtain ⟨s, r, tm, hc⟩ := hl.opn _ hW1
  rcases hcase with ⟨hs', hway, hstep⟩ | ⟨hway, hs', hstep⟩
  · obtain ⟨hrun, hcomm⟩ := hNA _ _ (hs' (w'.at d) (hp.trA _ _ _ hra' (hp.atA _ _)))
    have hbrun : b'.status = .running := by
      cases hway with
      | stop h => exact (hNB _ _ (h w' hrb')).1
      | step h _ _ => exact h
    have hpart : partners (gs'.setIfInBounds 0 ph) c true = [] := partners_nil fun i x hx => by
      rcases getElem?_stand _ _ _ _ hx with ⟨_, rfl⟩ | ⟨hik, hx'⟩
      · exact offersAt_ph _ _
      · have := (Array.getElem?_eq_some_iff.1 hx').1
        by_cases e : i = k
        · subst e
          rw [hk'] at hx'
          cases hx'
          exact offersAt_of_not_blocked (by rw [hbrun]; simp) _ _
        · exact rest_quiet hR' (by omega) (by omega) hx' _
    have hrunT := crowd_waits (P := P) (w := w'.at d) (sl := sl2) (i := 0) (g := a') h0' (show stepG P (0 == 0) a' (w'.at d) = _ from hcomm) (fun cc hcc => by
      have e : cc = rcase c z := by simpa using hcc
      subst e
      exact ways_recv_none hc hpart)
    refine Ev.step (hstep.trans hrunT) ?_
    have hks : (gs'.setIfInBounds 0 (parked (core a') #[rcase c z] (.recv true)))[k]? = some b' := by rw [Array.getElem?_setIfInBounds_ne (by omega)]; exact hk'
    exact close_parked hp hl hk hs hNA hNB hs' hway _ q' _ _ _ (hR'.set (.inl rfl)) (by simpa using hsz') (by rw [Array.getElem?_setIfInBounds_self_of_lt (by omega)]) hks (hp.trA _ _ _ hra' (hp.atA _ _)) (hp.trB _ _ _ hrb' (hp.atB _ _)) hW1
      (hl.com _ _ hT' fun op hop => absurd hop (by simp [MemOp.ofEvents]))
  · exact close_step hp hl hk hs hNA hR' hsz' hk' hW' hT' (hNB _ _ (hs' (w'.at d) (hp.trB _ _ _ hrb' (hp.atB _ _)))) hstep a' h0' (.inl ⟨wa', hway, hra'⟩)

end
end Go.Co

/-
  A SENDER THAT RANGES OVER A TEXT; A RECEIVER THAT RANGES OVER THE CHANNEL: the two together, beside whoever leaves.
-/
namespace Go.Co
open Go.Conc
open Go.ConcN (sumTo upd sumTo_upd upd_ne upd_same)

def isIter (o : Option Obj) : Prop := ∃ s p, o = some (.stringIter s p)

def Two (b c : Nat) : Nat → Prop := fun i => i = b ∨ i = c

/-- What the others do to the sender's world, once it has its iterator (block b). -/
def RBb (b : Nat) (w w1 : World) : Prop := w.heap.size ≤ w1.heap.size ∧ w1.heap[b]? = w.heap[b]?
def DBb (b : Nat) (w w' : World) (es : Array Event) : Prop := (∀ e ∈ es, Quiet e ∧ e.loc = .obj b) ∧ (w' = w ∨ ∃ s p, w' = { w with heap := w.heap.setIfInBounds b (.stringIter s p) })
def W1 (N b c : Nat) (w : World) : Prop := OpenC c w ∧ b ≠ c ∧ N ≤ b ∧ isIter w.heap[b]?
def Cl1 (b c : Nat) (w : World) : Prop := ClosedC c w ∧ isIter w.heap[b]?
def Off (b c : Nat) (l : Go.Loc) : Prop := l = .obj b ∨ l = .obj c

theorem lt_of_get {w : World} {i : Nat} {o : Obj} (h : w.heap[i]? = some o) : i < w.heap.size := by
  rcases Nat.lt_or_ge i w.heap.size with h' | h'
  · exact h'
  · rw [Array.getElem?_eq_none h'] at h; cases h

theorem isIter.not_cells {o : Option Obj} (h : isIter o) : ∀ c e f, o ≠ some (.cells c e f) := by
  obtain ⟨s, p, rfl⟩ := h
  intro c e f h
  cases h

theorem set_iter {w : World} {b : Nat} (h : isIter w.heap[b]?) (s : ByteArray) (p : Nat) : ({ w with heap := w.heap.setIfInBounds b (.stringIter s p) } : World).heap[b]? = some (.stringIter s p) := by
  obtain ⟨s', p', h⟩ := h
  have := lt_of_get h
  simp [this]

theorem not_off {b c : Nat} {e : Event} (h : Kept (Two b c) e) : ¬ Off b c e.loc := by
  have h1 := h.1
  unfold Fine at h1
  rintro (ho | ho) <;> rw [ho] at h1
  · exact h1 (.inl rfl)
  · exact h1 (.inr rfl)

theorem set_other {w : World} {b i : Nat} {o : Obj} (h : b ≠ i) : ({ w with heap := w.heap.setIfInBounds b o } : World).heap[i]? = w.heap[i]? := by
  simp [Array.getElem?_setIfInBounds_ne h]

theorem pair1 {N b c k : Nat} : Pair (Rely (Two b c)) (RBb b) (Guar (Two b c)) (DBb b) (W1 N b c) (fun t => TrP t k (Off b c)) k where
  rfA := Rely.refl _
  rfB _ := ⟨Nat.le_refl _, rfl⟩
  trA _ _ _ h k := h.trans k
  trB _ _ _ h k := ⟨Nat.le_trans h.1 k.1, k.2.trans h.2⟩
  atA w d := Rely.at _ w d
  atB _ _ := ⟨Nat.le_refl _, rfl⟩
  atW _ _ h := h
  ab _ _ _ _ hD := ⟨hD.size, hD.keep b (.inl rfl)⟩
  ba w w' es hW hD := by
    rcases hD.2 with rfl | ⟨s, p, rfl⟩
    · exact Rely.refl _ _
    · refine ⟨rfl, rfl, rfl, by simp, fun i hi => set_other fun e => hi (.inl e.symm), fun hd i hi => ?_⟩
      by_cases e : b = i
      · subst e
        rw [set_iter hW.2.2.2]
        intro c e f h; cases h
      · rw [set_other e]; exact hd i hi
  wA w w' es hW hD := by
    obtain ⟨⟨s, r, tm, hc⟩, h2, h3, h4⟩ := hW
    exact ⟨⟨s, r, tm, (hD.keep c (.inr rfl)).trans hc⟩, h2, h3, by rw [hD.keep b (.inl rfl)]; exact h4⟩
  wB w w' es hW hD := by
    rcases hD.2 with rfl | ⟨s, p, rfl⟩
    · exact hW
    · obtain ⟨⟨s', r, tm, hc⟩, h2, h3, h4⟩ := hW
      exact ⟨⟨s', r, tm, (set_other h2).trans hc⟩, h2, h3, ⟨s, p, set_iter h4 s p⟩⟩
  tA t w w' es fn pos hT hD := hT.own0 (fun e he => (hD.evs e he).quiet) (fun e he => not_off (hD.evs e he))
  tB t w w' es fn pos hT hD := hT.ownk (fun e he => (hD.1 e he).1) (fun e he => .inl (hD.1 e he).2)

theorem put_chan {w : World} {b c : Nat} {o : Obj} (hbc : b ≠ c) (ho : ∀ x e f, o ≠ .cells x e f) : Rely (Two b c) w { w with heap := w.heap.setIfInBounds c o } := by
  refine ⟨rfl, rfl, rfl, by simp, fun i hi => set_other fun e => hi (.inr e.symm), fun hd i hi => ?_⟩
  rcases hi with rfl | rfl
  · rw [set_other (Ne.symm hbc)]; exact hd i (.inl rfl)
  · intro x e f h
    by_cases hlt : i < w.heap.size
    · simp [hlt] at h; exact ho _ _ _ h
    · rw [Array.getElem?_eq_none (by simp; omega)] at h; cases h

theorem line1 {N b c k : Nat} : Line (Rely (Two b c)) (RBb b) (W1 N b c) (fun t => TrP t k (Off b c)) k c where
  opn _ h := h.1
  putA _ _ _ _ h := put_chan h.2.1 (by intro x e f h; cases h)
  putB _ _ _ _ h := ⟨by simp [World.setChan], set_other (Ne.symm h.2.1)⟩
  putW w s r tm h := by
    obtain ⟨⟨s', r', tm', hc⟩, h2, h3, h4⟩ := h
    refine ⟨⟨s, r, tm, heap_put hc⟩, h2, h3, ?_⟩
    show isIter ({ w with heap := w.heap.setIfInBounds c _ } : World).heap[b]?
    rw [set_other (Ne.symm h2)]
    exact h4
  com _ _ h hu := h.comm hu

/-- A stop at the receive, and what is said of it behind the answer. -/
def RecvN (P : Program) (c : Nat) (z : Value) (K : Goroutine → World → Prop) (g : Goroutine) (w : World) : Prop := Recv0 P c z g w ∧ K (core g) w

theorem recv_again {P : Program} {c : Nat} {z : Value} {K : Goroutine → World → Prop} {g : Goroutine} {w : World} (h : RecvN P c z K g w) : RecvN P c z K { parked (core g) #[rcase c z] (.recv true) with status := .running } w := by
  obtain ⟨⟨h1, h2⟩, h3⟩ := h
  refine ⟨⟨rfl, ?_⟩, h3⟩
  have e : stepG P true { parked (core g) #[rcase c z] (.recv true) with status := .running } w = stepG P true g w := stepG_same rfl rfl rfl w
  rw [e, h2]
  rfl

theorem shut1 {P : Program} {N b c k : Nat} {z : Value} {K : Goroutine → World → Prop} : Shut (Rely (Two b c)) (Guar (Two b c)) (W1 N b c) (fun t => TrP t k (Off b c)) (RecvN P c z K) (Cl1 b c) k c z (Off b c) where
  trp _ h := h
  off := .inr rfl
  shutA _ _ _ _ h := put_chan h.2.1 (by intro x e f h; cases h)
  keep w w' es h hD := by
    obtain ⟨⟨s, r, tm, hc⟩, hi⟩ := h
    exact ⟨⟨s, r, tm, (hD.keep c (.inr rfl)).trans hc⟩, by rw [hD.keep b (.inl rfl)]; exact hi⟩
  cl _ h := h.1
  clAt _ _ h := h
  clShut w s r tm h hc := by
    refine ⟨⟨s, r, tm, heap_put hc⟩, ?_⟩
    show isIter ({ w with heap := w.heap.setIfInBounds c _ } : World).heap[b]?
    rw [set_other (Ne.symm h.2.1)]
    exact h.2.2.2
  evs _ _ _ hD e he := ⟨(hD.evs e he).quiet, not_off (hD.evs e he)⟩
  again _ _ h := recv_again h

/-- The sender's script. -/
def Sends (P : Program) (b c : Nat) : List Value → Goroutine → World → Prop
  | [] => fun g w => Way P false (RBb b) (DBb b) (Close0 P c) g w
  | v :: vs => fun g w => Way P false (RBb b) (DBb b) (fun g w => Send0 P c v g w ∧ Sends P b c vs (Conc.served (core g) undef) w) g w

/-- The receiver's. 'Fin': what is said of it once it has found the channel closed. -/
def Recvs (P : Program) (b c : Nat) (z : Value) (Fin : Goroutine → World → Prop) : List Value → Goroutine → World → Prop
  | [] => fun g w => Way P true (Rely (Two b c)) (Guar (Two b c)) (RecvN P c z fun g w => Fin (Conc.served g (.tuple #[z, .bool false])) w) g w
  | v :: vs => fun g w => Way P true (Rely (Two b c)) (Guar (Two b c)) (RecvN P c z fun g w => Recvs P b c z Fin vs (Conc.served g (.tuple #[v, .bool true])) w) g w

/-- Goroutine 0 goes on, all others leave. -/
def Done (P : Program) (Fin : Goroutine → World → Prop) (k : Nat) (m : Machine) (t : Trace) : Prop :=
  ∃ gs q w sl a, m = crowd gs w sl ∧ Rest P k gs q ∧ gs.size = k ∧ gs[0]? = some a ∧ Fin a w ∧ Tr t k

theorem pipe1 {P : Program} {N b c k : Nat} {z : Value} {Fin : Goroutine → World → Prop} (hk : 0 < k) : ∀ (vs : List Value) (a : Goroutine) (wa : World) (g : Goroutine) (wb : World), Recvs P b c z Fin vs a wa → Sends P b c vs g wb →
    ∀ (gs : Array Goroutine) (q : Nat → Nat) (w : World) (sl : Option (Nat × Nat)) (t : Trace), Rest P k gs q → gs.size = k + 1 → gs[0]? = some a → gs[k]? = some g → Rely (Two b c) wa w → RBb b wb w → W1 N b c w → TrP t k (Off b c) →
      Ev P (crowd gs w sl) t (Done P (fun a w => Fin a w ∧ Cl1 b c w) (k + 1)) := by
  intro vs
  induction vs with
  | nil =>
    intro a wa g wb hA hB gs q w sl t hR hsz h0 hkk hra hrb hW hT
    refine (close_way (z := z) pair1 line1 hk shut1 (fun g w h => h.1) (fun g w h => h) hA hB gs q w sl t hR hsz h0 hkk hra hrb hW hT).mono ?_
    rintro m t' ⟨gs', q', w', sl', ga, wa', rfl, hR', hsz', h0', hN, hra', hcl, hT'⟩
    exact ⟨gs', q', w', sl', _, rfl, hR', hsz', h0', ⟨(hN w' hra').2, hcl⟩, hT'⟩
  | cons v vs ih =>
    intro a wa g wb hA hB gs q w sl t hR hsz h0 hkk hra hrb hW hT
    refine (exch_way (z := z) (v := v) pair1 line1 hk (fun g w h => h.1) (fun g w h => h.1) hA hB _ gs q w sl t rfl hR hsz h0 hkk hra hrb hW hT).then ?_
    rintro m t' ⟨gs', q', w', sl', ga, wa', gb, wb', rfl, hR', hsz', h0', hk', hNa, hra', hNb, hrb', hW', hT'⟩
    exact ih _ w' _ w' (hNa w' hra').2 (hNb w' hrb').2 gs' q' w' sl' t' hR' hsz' h0' hk' (Rely.refl _ _) ⟨Nat.le_refl _, rfl⟩ hW' hT'

end Go.Co

/-
  BEFORE THE SENDER HAS ITS ITERATOR; THE WHOLE PIPELINE.
-/
namespace Go.Co
open Go.Conc
open Go.ConcN (sumTo upd sumTo_upd upd_ne upd_same)

structure RA0 (N c : Nat) (w w1 : World) : Prop where
  tape : w1.tape = w.tape
  os : w1.os = w.os
  output : w1.output = w.output
  size : w.heap.size ≤ w1.heap.size
  same : ∀ i, i < w.heap.size → i ≠ c → w1.heap[i]? = w.heap[i]? ∨ (N ≤ i ∧ isIter w.heap[i]? ∧ isIter w1.heap[i]?)

structure DA0 (w w' : World) (es : Array Event) : Prop where
  evs : es = #[]
  tape : w'.tape = w.tape
  os : w'.os = w.os
  output : w'.output = w.output
  size : w.heap.size ≤ w'.heap.size
  same : ∀ i, i < w.heap.size → w'.heap[i]? = w.heap[i]?

def RBN (N : Nat) (w w1 : World) : Prop := w.heap.size ≤ w1.heap.size ∧ ∀ i, N ≤ i → isIter w.heap[i]? → w1.heap[i]? = w.heap[i]?
def DB0 (w w' : World) (es : Array Event) : Prop := es = #[] ∧ (w' = w ∨ ∃ s, w' = { w with heap := w.heap.push (.stringIter s 0) })
def W0 (N c : Nat) (w : World) : Prop := OpenC c w ∧ c < N ∧ N ≤ w.heap.size

theorem RA0.refl (N c : Nat) (w : World) : RA0 N c w w := ⟨rfl, rfl, rfl, Nat.le_refl _, fun _ _ _ => .inl rfl⟩
theorem RA0.trans {N c : Nat} {x y z : World} (h : RA0 N c x y) (k : RA0 N c y z) : RA0 N c x z := by
  refine ⟨k.tape.trans h.tape, k.os.trans h.os, k.output.trans h.output, Nat.le_trans h.size k.size, fun i hi hc => ?_⟩
  rcases h.same i hi hc with h1 | ⟨h1, h2, h3⟩
  · rcases k.same i (Nat.lt_of_lt_of_le hi h.size) hc with k1 | ⟨k1, k2, k3⟩
    · exact .inl (k1.trans h1)
    · exact .inr ⟨k1, by rw [← h1]; exact k2, k3⟩
  · rcases k.same i (Nat.lt_of_lt_of_le hi h.size) hc with k1 | ⟨k1, k2, k3⟩
    · exact .inr ⟨h1, h2, by rw [k1]; exact h3⟩
    · exact .inr ⟨h1, h2, k3⟩

theorem lt_iter {w : World} {i : Nat} (h : isIter w.heap[i]?) : i < w.heap.size := by
  obtain ⟨s, p, h⟩ := h
  exact lt_of_get h

theorem push_old {w : World} {o : Obj} {i : Nat} (h : i < w.heap.size) : ({ w with heap := w.heap.push o } : World).heap[i]? = w.heap[i]? := by
  simp only [Array.getElem?_push]
  rw [if_neg (by omega)]

theorem open_keep {c : Nat} {w w' : World} (h : OpenC c w) (k : w'.heap[c]? = w.heap[c]?) : OpenC c w' := by
  obtain ⟨s, r, tm, hc⟩ := h
  exact ⟨s, r, tm, k.trans hc⟩

theorem open_lt {c : Nat} {w : World} (h : OpenC c w) : c < w.heap.size := by
  obtain ⟨s, r, tm, hc⟩ := h
  exact lt_of_get hc

theorem own_nil {t : Trace} {g : Nat} {fn : FuncId} {pos : String} : t ++ MemOp.ofEvents g fn pos #[] = t := by simp [MemOp.ofEvents]

theorem pair0 {N c k : Nat} : Pair (RA0 N c) (RBN N) DA0 DB0 (W0 N c) (fun t => ∀ O, TrP t k O) k where
  rfA := RA0.refl N c
  rfB _ := ⟨Nat.le_refl _, fun _ _ _ => rfl⟩
  trA _ _ _ h k := h.trans k
  trB _ _ _ h k := ⟨Nat.le_trans h.1 k.1, fun i hi hit => (k.2 i hi (by rw [h.2 i hi hit]; exact hit)).trans (h.2 i hi hit)⟩
  atA _ _ := ⟨rfl, rfl, rfl, Nat.le_refl _, fun _ _ _ => .inl rfl⟩
  atB _ _ := ⟨Nat.le_refl _, fun _ _ _ => rfl⟩
  atW _ _ h := h
  ab w w' _ _ hD := ⟨hD.size, fun i _ hit => hD.same i (lt_iter hit)⟩
  ba w w' es hW hD := by
    rcases hD.2 with rfl | ⟨s, rfl⟩
    · exact RA0.refl _ _ _
    · exact ⟨rfl, rfl, rfl, by simp, fun i hi _ => .inl (push_old hi)⟩
  wA w w' es hW hD := ⟨open_keep hW.1 (hD.same c (open_lt hW.1)), hW.2.1, Nat.le_trans hW.2.2 hD.size⟩
  wB w w' es hW hD := by
    rcases hD.2 with rfl | ⟨s, rfl⟩
    · exact hW
    · exact ⟨open_keep hW.1 (push_old (open_lt hW.1)), hW.2.1, by have := hW.2.2; simp; omega⟩
  tA t w w' es fn pos hT hD := by rw [hD.evs, own_nil]; exact hT
  tB t w w' es fn pos hT hD := by rw [hD.1, own_nil]; exact hT

theorem put0 {N c : Nat} {w : World} {o : Obj} : RA0 N c w { w with heap := w.heap.setIfInBounds c o } :=
  ⟨rfl, rfl, rfl, by simp, fun i _ hi => .inl (set_other (Ne.symm hi))⟩

theorem line0 {N c k : Nat} : Line (RA0 N c) (RBN N) (W0 N c) (fun t => ∀ O, TrP t k O) k c where
  opn _ h := h.1
  putA _ _ _ _ _ := put0
  putB w s r tm h := ⟨by simp [World.setChan], fun i hi _ => set_other (by have := h.2.1; omega)⟩
  putW w s r tm h := by
    obtain ⟨⟨s', r', tm', hc⟩, h2, h3⟩ := h
    exact ⟨⟨s, r, tm, heap_put hc⟩, h2, by simpa [World.setChan] using h3⟩
  com _ _ h hu O := (h O).comm hu

theorem pair2 {N b c k : Nat} : Pair (RA0 N c) (RBb b) DA0 (DBb b) (W1 N b c) (fun t => TrP t k (Off b c)) k where
  rfA := RA0.refl N c
  rfB _ := ⟨Nat.le_refl _, rfl⟩
  trA _ _ _ h k := h.trans k
  trB _ _ _ h k := ⟨Nat.le_trans h.1 k.1, k.2.trans h.2⟩
  atA _ _ := ⟨rfl, rfl, rfl, Nat.le_refl _, fun _ _ _ => .inl rfl⟩
  atB _ _ := ⟨Nat.le_refl _, rfl⟩
  atW _ _ h := h
  ab w w' _ hW hD := ⟨hD.size, hD.same b (lt_iter hW.2.2.2)⟩
  ba w w' es hW hD := by
    rcases hD.2 with rfl | ⟨s, p, rfl⟩
    · exact RA0.refl _ _ _
    · refine ⟨rfl, rfl, rfl, by simp, fun i hi _ => ?_⟩
      by_cases e : b = i
      · subst e
        exact .inr ⟨hW.2.2.1, hW.2.2.2, ⟨s, p, set_iter hW.2.2.2 s p⟩⟩
      · exact .inl (set_other e)
  wA w w' es hW hD := by
    obtain ⟨h1, h2, h3, h4⟩ := hW
    exact ⟨open_keep h1 (hD.same c (open_lt h1)), h2, h3, by rw [hD.same b (lt_iter h4)]; exact h4⟩
  wB w w' es hW hD := pair1 (k := 0) |>.wB w w' es hW hD
  tA t w w' es fn pos hT hD := by rw [hD.evs, own_nil]; exact hT
  tB t w w' es fn pos hT hD := hT.ownk (fun e he => (hD.1 e he).1) (fun e he => .inl (hD.1 e he).2)

theorem line2 {N b c k : Nat} : Line (RA0 N c) (RBb b) (W1 N b c) (fun t => TrP t k (Off b c)) k c where
  opn _ h := h.1
  putA _ _ _ _ _ := put0
  putB := (line1 (N := N) (b := b) (c := c) (k := k)).putB
  putW := (line1 (N := N) (b := b) (c := c) (k := k)).putW
  com _ _ h hu := h.comm hu

theorem shut2 {P : Program} {N b c k : Nat} {z : Value} {K : Goroutine → World → Prop} : Shut (RA0 N c) DA0 (W1 N b c) (fun t => TrP t k (Off b c)) (RecvN P c z K) (Cl1 b c) k c z (Off b c) where
  trp _ h := h
  off := .inr rfl
  shutA _ _ _ _ _ := put0
  keep w w' es h hD := by
    obtain ⟨⟨s, r, tm, hc⟩, hi⟩ := h
    exact ⟨⟨s, r, tm, (hD.same c (lt_of_get hc)).trans hc⟩, by rw [hD.same b (lt_iter hi)]; exact hi⟩
  cl _ h := h.1
  clAt _ _ h := h
  clShut := (shut1 (P := P) (N := N) (b := b) (c := c) (k := k) (z := z) (K := K)).clShut
  evs w w' es hD e he := by rw [hD.evs] at he; simp at he
  again _ _ h := recv_again h

/-- The sender has made its iterator. -/
def Made (P : Program) (N c : Nat) (vs : List Value) (g : Goroutine) (w : World) : Prop := ∃ b, N ≤ b ∧ isIter w.heap[b]? ∧ Sends P b c vs g w

theorem Sends.running {P : Program} {b c : Nat} {vs : List Value} {g : Goroutine} {w : World} (h : Sends P b c vs g w) : g.status = .running := by
  cases vs with
  | nil =>
    cases h with
    | stop h => exact (h w ⟨Nat.le_refl _, rfl⟩).1
    | step h _ _ => exact h
  | cons v vs =>
    cases h with
    | stop h => exact (h w ⟨Nat.le_refl _, rfl⟩).1.1
    | step h _ _ => exact h

/-- What goroutine 0 goes on with behind its first receive. -/
def Behind (P : Program) (c : Nat) (z : Value) (Fin : Goroutine → World → Prop) (b : Nat) : List Value → Goroutine → World → Prop
  | [] => fun g w => Fin (Conc.served g (.tuple #[z, .bool false])) w
  | v :: vs => fun g w => OpenC c w → Recvs P b c z Fin vs (Conc.served g (.tuple #[v, .bool true])) w

/-- Goroutine 0's first walk: to its first receive. -/
def First (P : Program) (N c : Nat) (z : Value) (Fin : Goroutine → World → Prop) (vs : List Value) (g : Goroutine) (w : World) : Prop :=
  Way P true (RA0 N c) DA0 (RecvN P c z fun g w => ∀ b, N ≤ b → b ≠ c → isIter w.heap[b]? → Behind P c z Fin b vs g w) g w

theorem first_made {P : Program} {N c k : Nat} {z : Value} {Fin : Goroutine → World → Prop} (hk : 0 < k) {vs : List Value} {gs : Array Goroutine} {q : Nat → Nat} {w : World} {sl : Option (Nat × Nat)} {t : Trace} {a g : Goroutine} {wa : World}
    (hM : Made P N c vs g w) (hcN : c < N) (hR : Rest P k gs q) (hsz : gs.size = k + 1) (h0 : gs[0]? = some a) (hkk : gs[k]? = some g) (hO : OpenC c w) (hT : ∀ O, TrP t k O) (hra : RA0 N c wa w)
    (hsit : First P N c z Fin vs a wa ∨ ∃ ga, a = parked (core ga) #[rcase c z] (.recv true) ∧ ∀ w1, RA0 N c wa w1 → RecvN P c z (fun g w => ∀ b, N ≤ b → b ≠ c → isIter w.heap[b]? → Behind P c z Fin b vs g w) ga w1) :
    Ev P (crowd gs w sl) t (Done P (fun a w => Fin a w ∧ ∃ b, N ≤ b ∧ Cl1 b c w) (k + 1)) := by
  obtain ⟨b, hNb, hit, hB⟩ := hM
  have hbc : b ≠ c := by omega
  have hW : W1 N b c w := ⟨hO, hbc, hNb, hit⟩
  cases vs with
  | nil =>
    have key : Ev P (crowd gs w sl) t (Found P (RA0 N c) (RecvN P c z fun g w => ∀ b, N ≤ b → b ≠ c → isIter w.heap[b]? → Behind P c z Fin b [] g w) (Cl1 b c) k z) := by
      rcases hsit with hA | ⟨ga, rfl, hA⟩
      · exact close_way (z := z) pair2 line2 hk shut2 (fun g w h => h.1) (fun g w h => h) hA hB gs q w sl t hR hsz h0 hkk hra ⟨Nat.le_refl _, rfl⟩ hW (hT _)
      · exact close_parked (z := z) pair2 line2 hk shut2 (fun g w h => h.1) (fun g w h => h) hA hB gs q w sl t hR hsz h0 hkk hra ⟨Nat.le_refl _, rfl⟩ hW (hT _)
    refine key.mono ?_
    rintro m t' ⟨gs', q', w', sl', ga, wa', rfl, hR', hsz', h0', hN, hra', hcl, hT'⟩
    exact ⟨gs', q', w', sl', _, rfl, hR', hsz', h0', ⟨(hN w' hra').2 b hNb hbc hcl.2, b, hNb, hcl⟩, hT'⟩
  | cons v vs =>
    have key : Ev P (crowd gs w sl) t (Exch P (RA0 N c) (RBb b) (RecvN P c z fun g w => ∀ b, N ≤ b → b ≠ c → isIter w.heap[b]? → Behind P c z Fin b (v :: vs) g w) (fun g w => Send0 P c v g w ∧ Sends P b c vs (Conc.served (core g) undef) w) (W1 N b c) (fun t => TrP t k (Off b c)) k v) := by
      rcases hsit with hA | ⟨ga, rfl, hA⟩
      · exact exch_way (z := z) (v := v) pair2 line2 hk (fun g w h => h.1) (fun g w h => h.1) hA hB _ gs q w sl t rfl hR hsz h0 hkk hra ⟨Nat.le_refl _, rfl⟩ hW (hT _)
      · exact exch_parked (z := z) (v := v) pair2 line2 hk (fun g w h => h.1) hA hB _ gs q w sl t rfl hR hsz h0 hkk hra ⟨Nat.le_refl _, rfl⟩ hW (hT _)
    refine key.then ?_
    rintro m t' ⟨gs', q', w', sl', ga, wa', gb, wb', rfl, hR', hsz', h0', hk', hNa, hra', hNb', hrb', hW', hT'⟩
    refine (pipe1 hk vs _ w' _ w' ((hNa w' hra').2 b hNb hbc hW'.2.2.2 hW'.1) (hNb' w' hrb').2 gs' q' w' sl' t' hR' hsz' h0' hk' (Rely.refl _ _) ⟨Nat.le_refl _, rfl⟩ hW' hT').mono ?_
    rintro m t2 ⟨gs2, q2, w2, sl2, a2, h1, h2, h3, h4, ⟨h5, h6⟩, h7⟩
    exact ⟨gs2, q2, w2, sl2, a2, h1, h2, h3, h4, ⟨h5, b, hNb, h6⟩, h7⟩

/-- ████ THE PIPELINE, from the moment at which the sender has been started. ████ -/
theorem pipeline {P : Program} {N c k : Nat} {z : Value} {Fin : Goroutine → World → Prop} (hk : 0 < k) {vs : List Value} {a g : Goroutine} {wa wb : World} (hA : First P N c z Fin vs a wa) (hB : Way P false (RBN N) DB0 (Made P N c vs) g wb)
    (gs : Array Goroutine) (q : Nat → Nat) (w : World) (sl : Option (Nat × Nat)) (t : Trace) (hR : Rest P k gs q) (hsz : gs.size = k + 1) (h0 : gs[0]? = some a) (hkk : gs[k]? = some g) (hra : RA0 N c wa w) (hrb : RBN N wb w) (hW : W0 N c w) (hT : ∀ O, TrP t k O) :
    Ev P (crowd gs w sl) t (Done P (fun a w => Fin a w ∧ ∃ b, N ≤ b ∧ Cl1 b c w) (k + 1)) := by
  have hrunM : ∀ (g : Goroutine) (w : World), Made P N c vs g w → g.status = .running := fun g w ⟨b, _, _, h⟩ => h.running
  refine (two_move pair0 hk (fun g w h => h.1.1) hrunM hA g wb hB _ gs q w sl t rfl hR hsz h0 hkk hra hrb hW hT).then ?_
  rintro m t' ⟨gs', q', w', sl', sl2, d, a', wa', b', wb', rfl, hR', hsz', h0', hk', hra', hrb', hW', hT', hcase⟩
  rcases hcase with ⟨hs', hway, hstep⟩ | ⟨hway, hs', hstep⟩
  · -- goroutine 0 waits
    have hW1 := (pair0 (N := N) (c := c) (k := k)).atW _ d hW'
    obtain ⟨s, r, tm, hc⟩ := hW1.1
    obtain ⟨⟨hrun, hcomm⟩, _⟩ := hs' (w'.at d) (hra'.trans (pair0 (N := N) (c := c) (k := k) |>.atA w' d))
    have hbrun : b'.status = .running := by
      cases hway with
      | stop h => exact hrunM _ _ (h w' hrb')
      | step h _ _ => exact h
    have hpart : partners (gs'.setIfInBounds 0 ph) c true = [] := partners_nil fun i x hx => by
      rcases getElem?_stand _ _ _ _ hx with ⟨_, rfl⟩ | ⟨hik, hx'⟩
      · exact offersAt_ph _ _
      · have := (Array.getElem?_eq_some_iff.1 hx').1
        by_cases e : i = k
        · subst e
          rw [hk'] at hx'
          cases hx'
          exact offersAt_of_not_blocked (by rw [hbrun]; simp) _ _
        · exact rest_quiet hR' (by omega) (by omega) hx' _
    have hrunT := crowd_waits (P := P) (w := w'.at d) (sl := sl2) (i := 0) (g := a') h0' (show stepG P (0 == 0) a' (w'.at d) = _ from hcomm) (fun cc hcc => by
      have e : cc = rcase c z := by simpa using hcc
      subst e
      exact ways_recv_none hc hpart)
    refine Ev.step (hstep.trans hrunT) ?_
    rw [own_nil]
    have hks : (gs'.setIfInBounds 0 (parked (core a') #[rcase c z] (.recv true)))[k]? = some b' := by rw [Array.getElem?_setIfInBounds_ne (by omega)]; exact hk'
    have h0s : (gs'.setIfInBounds 0 (parked (core a') #[rcase c z] (.recv true)))[0]? = some (parked (core a') #[rcase c z] (.recv true)) := by rw [Array.getElem?_setIfInBounds_self_of_lt (by omega)]
    have hj : (k == 0) = false := by simp; omega
    refine Ev.then (one_moves (R := RBN N) (D := DB0) (Stop := Made P N c vs) (W := fun w => W0 N c w ∧ RA0 N c wa' w) (TI := fun t => ∀ O, TrP t k O) (j := k) (k := k) (pair0 (N := N) (c := c) (k := k)).trB (pair0 (N := N) (c := c) (k := k)).rfB (pair0 (N := N) (c := c) (k := k)).atB
      (fun w d h => ⟨(pair0 (N := N) (c := c) (k := k)).atW w d h.1, h.2.trans ((pair0 (N := N) (c := c) (k := k)).atA w d)⟩)
      (fun w w' es h hD => ⟨(pair0 (N := N) (c := c) (k := k)).wB _ _ _ h.1 hD, h.2.trans ((pair0 (N := N) (c := c) (k := k)).ba _ _ _ h.1 hD)⟩) (fun t w w' es fn pos => (pair0 (N := N) (c := c) (k := k)).tB t w w' es fn pos) (.inr (Nat.le_refl k)) hrunM (by rw [hj]; exact hway) _ _ q' _ _ _ rfl (hR'.set (.inl rfl)) hks
      ((pair0 (N := N) (c := c) (k := k)).trB _ _ _ hrb' ((pair0 (N := N) (c := c) (k := k)).atB _ d)) ⟨hW1, hra'.trans ((pair0 (N := N) (c := c) (k := k)).atA _ _)⟩ hT' ?_) ?_
    · intro i x hi hne hx
      have := (Array.getElem?_eq_some_iff.1 hx).1
      have e : i = 0 := by simp at this; omega
      subst e
      rw [h0s] at hx
      cases hx
      obtain ⟨i1, i2, i3⟩ := idle_recv (P := P) (z := z) (line0 (N := N) (c := c) (k := k)) a'
      exact ⟨i1, i2, fun y y' w' hw => i3 y y' w' hw.1⟩
    · rintro m t2 ⟨gs2, q2, w2, sl3, sl4, d2, g2, wr2, rfl, hR2, hsz2, hg2, hr2, ⟨hW2, hra2⟩, hT2, hs2, hkeep, _⟩
      have h02 := hkeep 0 _ (.inl rfl) (by omega) h0s
      exact first_made hk (hs2 w2 hr2) hW2.2.1 hR2 (by rw [hsz2]; simpa using hsz') h02 hg2 hW2.1 hT2 hra2 (.inr ⟨a', rfl, hs'⟩)
  · exact first_made hk (hs' w' hrb') hW'.2.1 hR' hsz' h0' hk' hW'.1 hT' hra' (.inl hway)

end Go.Co

/-
  FROM STAGE TO STAGE: beside leavers; the go statement; the return.
-/
namespace Go.Co
open Go.Conc
open Go.ConcN (sumTo upd sumTo_upd upd_ne upd_same)

/-- Nobody's block. -/
def None' : Nat → Prop := fun _ => False

def EvEnd (P : Program) (m : Machine) (t : Trace) (Post : Value → World → Prop) : Prop :=
  ∃ N last o w' t', runNT P (N + 1) m t = (.ended o w', t') ∧ runN P N m = .next last ∧ step P last = .ended o w' ∧ Good P Post last o w' t'

section
variable {P : Program} {k : Nat}

theorem Ev.ends {m : Machine} {t : Trace} {T : Machine → Trace → Prop} {Post : Value → World → Prop} (h : Ev P m t T) (hk : ∀ m t, T m t → EvEnd P m t Post) : EvEnd P m t Post := by
  obtain ⟨N, m', t', h1, h2⟩ := h
  obtain ⟨N2, last, o, w', t2, h3, h4, h5, h6⟩ := hk _ _ h2
  refine ⟨N + N2, last, o, w', t2, ?_, ?_, h5, h6⟩
  · rw [Nat.add_assoc, runNT_add, h1]; exact h3
  · rw [runN_add, ← runNT_fst P N _ t, h1]; exact h4

/-- Goroutine 0 is picked at its stop. -/
theorem picked {Stop : Goroutine → World → Prop} (hst : ∀ g w, Stop g w → g.status = .running) {m : Machine} {t : Trace} (h : Done P (fun a w => Way P true (Rely None') (Guar None') Stop a w) k m t) :
    Ev P m t (fun m t => ∃ gs q w sl a d sl2, m = crowd gs w sl ∧ Rest P k gs q ∧ gs.size = k ∧ gs[0]? = some a ∧ Stop a w ∧ Stop a (w.at d) ∧ Tr t k ∧ stepT P m = runT P (crowd gs (w.at d) sl2) 0) := by
  obtain ⟨gs, q, w, sl, a, rfl, hR, hsz, h0, hway, hT⟩ := h
  refine (one_moves (R := Rely None') (D := Guar None') (Stop := Stop) (W := fun _ => True) (TI := fun t => Tr t k) (j := 0) (k := k) (fun _ _ _ h k => h.trans k) (Rely.refl _) (Rely.at _) (fun _ _ _ => trivial) (fun _ _ _ _ _ => trivial)
    (fun t w w' es fn pos h hD => h.own hR.pos fun e he => (hD.evs e he).quiet) (.inl rfl) hst hway _ gs q w sl t rfl hR h0 (Rely.refl _ _) trivial hT ?_).mono ?_
  · intro i x hi hne hx
    have := (Array.getElem?_eq_some_iff.1 hx).1
    omega
  · rintro m t' ⟨gs', q', w', sl', sl2, d, g', wr', rfl, hR', hsz', hg', hr', _, hT', hs', _, hstep⟩
    exact ⟨gs', q', w', sl', g', d, sl2, rfl, hR', hsz'.trans hsz, hg', hs' w' hr', hs' _ (hr'.trans (Rely.at _ _ _)), hT', hstep⟩

/-- Goroutine 0 goes on to its stop. -/
theorem beside {Stop : Goroutine → World → Prop} (hst : ∀ g w, Stop g w → g.status = .running) {m : Machine} {t : Trace} (h : Done P (fun a w => Way P true (Rely None') (Guar None') Stop a w) k m t) : Ev P m t (Done P Stop k) := by
  refine (picked hst h).mono ?_
  rintro m t ⟨gs, q, w, sl, a, d, sl2, h1, h2, h3, h4, h5, _, h6, _⟩
  exact ⟨gs, q, w, sl, a, h1, h2, h3, h4, h5, h6⟩

/-- Goroutine 0 stands at the go statement. -/
def AtGo (P : Program) (z : Value) (Fin : Goroutine → World → Prop) (vs : List Value) (g : Goroutine) (w : World) : Prop :=
  g.status = .running ∧ ∃ a' child w', stepG P true g w = .spawn a' child w' #[] ∧ ∃ N c, First P N c z Fin vs a' w' ∧ Way P false (RBN N) DB0 (Made P N c vs) child w' ∧ W0 N c w'

/-- ████ A CALL's PIPELINE, beside leavers. ████ -/
theorem spawned {z : Value} {Fin : Goroutine → World → Prop} {vs : List Value} {m : Machine} {t : Trace} (h : Done P (fun a w => Way P true (Rely None') (Guar None') (AtGo P z Fin vs) a w) k m t) : Ev P m t (Done P Fin (k + 1)) := by
  refine (picked (fun g w h => h.1) h).then ?_
  rintro m t ⟨gs, q, w, sl, a, d, sl2, rfl, hR, hsz, h0, _, ⟨_, a', child, w', hsp, N, c, hA, hB, hW⟩, hT, hstep⟩
  have hrunT := runT_crowd_spawn (P := P) (sl := sl2) (i := 0) h0 (show stepG P (0 == 0) a (w.at d) = _ from hsp)
  refine Ev.step (hstep.trans hrunT) ?_
  have hk := hR.pos
  have hlt := (Array.getElem?_eq_some_iff.1 h0).1
  have hR' : Rest P k ((gs.setIfInBounds 0 a').push child) q := by
    refine ⟨hk, by simp; omega, fun i g hi hik hx => ?_⟩
    rw [Array.getElem?_push] at hx
    rw [if_neg (by simp; omega)] at hx
    exact (hR.set (y := a') (.inl rfl)).rest i g hi hik hx
  have hTP : ∀ O, TrP (t ++ ((MemOp.ofEvents 0 a.frame.fn a.frame.place #[]).push { g := 0, fn := a.frame.fn, pos := a.frame.place, act := .go gs.size } |>.push { g := gs.size, fn := child.frame.fn, pos := a.frame.place, act := .start })) k O := by
    intro O
    have := hT.spawn hk O (x := { g := 0, fn := a.frame.fn, pos := a.frame.place, act := .go gs.size }) (y := { g := gs.size, fn := child.frame.fn, pos := a.frame.place, act := .start }) ⟨rfl, by rw [hsz]⟩ ⟨hsz, rfl⟩
    rw [Array.append_push, Array.append_push, own_nil]
    exact this
  refine (pipeline hk hA hB _ q w' sl2 _ hR' (by simp; omega) ?_ ?_ (RA0.refl _ _ _) ⟨Nat.le_refl _, fun _ _ _ => rfl⟩ hW hTP).mono ?_
  · rw [Array.getElem?_push, if_neg (by simp; omega), Array.getElem?_setIfInBounds_self_of_lt hlt]
  · rw [Array.getElem?_push, if_pos (by simp; omega)]
  · rintro m t' ⟨gs2, q2, w2, sl3, a2, h1, h2, h3, h4, ⟨h5, _⟩, h6⟩
    exact ⟨gs2, q2, w2, sl3, a2, h1, h2, h3, h4, h5, h6⟩

/-- Goroutine 0 stands at the step that ends the run. -/
def AtEnd' (P : Program) (Post : Value → World → Prop) (g : Goroutine) (w : World) : Prop :=
  g.status = .running ∧ ∃ v es, stepG P true g w = .ended (.done v) w es ∧ (∀ e ∈ es, Quiet e) ∧ Post v w

theorem ended {Post : Value → World → Prop} {m : Machine} {t : Trace} (h : Done P (fun a w => Way P true (Rely None') (Guar None') (AtEnd' P Post) a w) k m t) : EvEnd P m t Post := by
  refine (picked (fun g w h => h.1) h).ends ?_
  rintro m t ⟨gs, q, w, sl, a, d, sl2, rfl, hR, hsz, h0, _, ⟨_, v, es, hend, hes, hpost⟩, hT, hstep⟩
  have hrunT := runT_many_ended (P := P) (sl := sl2) (i := 0) h0 (show stepG P (0 == 0) a (w.at d) = _ from hend)
  have hT' := hT.own (fn := a.frame.fn) (pos := a.frame.place) hR.pos hes
  have hst := hstep.trans hrunT
  refine ⟨0, crowd gs w sl, .done v, w.at d, _, by simp only [runNT, hst], rfl, by simp [step, hst], v, rfl, hpost, hT'.clean, hT'.over, ⟨fun x hx => ?_, rfl⟩, fun j x hx hj => ?_⟩
  · obtain ⟨j, hj⟩ := List.mem_iff_getElem?.1 hx
    rw [List.getElem?_drop] at hj
    have hj' : gs[1 + j]? = some x := by simpa [crowd] using hj
    have := (Array.getElem?_eq_some_iff.1 hj').1
    exact ⟨_, (hR.rest (1 + j) x (by omega) (by omega) hj').leaves⟩
  · have hx' : gs[j]? = some x := hx
    have := (Array.getElem?_eq_some_iff.1 hx').1
    rw [hT'.word.deaf]
    exact ⟨_, (hR.rest j x (by omega) (by omega) hx').hears _ 0⟩

/-- The first stage: goroutine 0 alone. -/
theorem done_first {Fin : Goroutine → World → Prop} {a : Goroutine} {w : World} (h : Fin a w) : Done P Fin 1 (solo a w) #[] :=
  ⟨#[a], fun _ => 0, w, none, a, rfl, ⟨by omega, by simp, fun i g h0 h1 _ => by omega⟩, rfl, rfl, h, tr_nil⟩

theorem Done.mono {Fin Fin' : Goroutine → World → Prop} {m : Machine} {t : Trace} (h : Done P Fin k m t) (hf : ∀ a w, Fin a w → Fin' a w) : Done P Fin' k m t := by
  obtain ⟨gs, q, w, sl, a, h1, h2, h3, h4, h5, h6⟩ := h
  exact ⟨gs, q, w, sl, a, h1, h2, h3, h4, hf _ _ h5, h6⟩

end

#print axioms spawned
#print axioms ended
#print axioms lift_code
#print axioms lift_body
end Go.Co

/-
  ONE STEP IN COMPANY, in the walk's own form.
-/
namespace Go.Co
open Go.Conc

section
variable {P : Program} {main : Bool} {R : World → World → Prop} {D : World → World → Array Event → Prop} {Stop : Goroutine → World → Prop}

/-- How the silent steps fit. -/
structure Mild (R : World → World → Prop) (D : World → World → Array Event → Prop) : Prop where
  tr : ∀ a b c, R a b → R b c → R a c
  still : ∀ w, D w w #[]

theorem way_silent (hm : Mild R D) {g g' : Goroutine} {w : World} (hg : g.status = .running) (h : ∀ w, stepG P main g w = .go g' w #[]) (hw : Way P main R D Stop g' w) : Way P main R D Stop g w :=
  Way.one hg fun w1 h1 => ⟨g', w1, #[], h w1, hm.still w1, hw.rely hm.tr h1⟩

variable {b : Frame} {a : Act} {k : List Item} {cs : List Frame} {ops : Array Oper} {i : Nat} {rest : List Nat} {o : Oper}

theorem step_value {w w' : World} {v : Value} {es : Array Event} (ho : ops[i]? = some o) (hw : Region.wanted o (yielded ops a.tmps) = true) (hk : b.kind ≠ .early) (h : (execOp a.eval o).runT P w #[] = (.ok (.value v) w', es)) :
    stepG P main (G (b.at a (.inRegion ops (i :: rest) :: k)) cs) w = .go (G (b.at (a.put o.dst v) (.inRegion ops rest :: k)) cs) w' (Go.seen P b.fn es) := by
  have e1 : stepG P main (G (b.at a (.inRegion ops (i :: rest) :: k)) cs) w = stepG.apply P true (b.at a (.inRegion ops (i :: rest) :: k)) cs none (execOp a.eval o) w := by
    have he := Frame.eval_at' b a (.inRegion ops (i :: rest) :: k)
    simp only [Frame.at] at he
    simp [G, stepG, stepG.exec, stepG.oper, Frame.oper?, Frame.at, ho, hw, he]
  have hk' : ((b.at a (.inRegion ops (i :: rest) :: k)).kind == CallKind.early) = false := by simpa [Frame.at] using hk
  rw [e1, apply_value h, Frame.finish_at, ho]
  simp only [evs, hk']
  rfl

/-- A pure operation. -/
theorem way_pure (hm : Mild R D) {w : World} {v : Value} (ho : ops[i]? = some o) (hw : Region.wanted o (yielded ops a.tmps) = true) (hk : b.kind ≠ .early) (h : ∀ w es, (execOp a.eval o).runT P w es = (.ok (.value v) w, es))
    (hn : Way P main R D Stop (G (b.at (a.put o.dst v) (.inRegion ops rest :: k)) cs) w) : Way P main R D Stop (G (b.at a (.inRegion ops (i :: rest) :: k)) cs) w :=
  way_silent hm rfl (fun w => step_value ho hw hk (h w #[])) hn

/-- .. the state behind it written out. -/
theorem way_pure' (hm : Mild R D) {w : World} {v : Value} (a' : Act) (ho : ops[i]? = some o) (hw : Region.wanted o (yielded ops a.tmps) = true) (hk : b.kind ≠ .early) (h : ∀ w es, (execOp a.eval o).runT P w es = (.ok (.value v) w, es)) (ha : a.put o.dst v = a')
    (hn : Way P main R D Stop (G (b.at a' (.inRegion ops rest :: k)) cs) w) : Way P main R D Stop (G (b.at a (.inRegion ops (i :: rest) :: k)) cs) w :=
  way_pure hm ho hw hk h (ha ▸ hn)

/-- An operation that turns the world. -/
theorem way_value {w : World} (ho : ops[i]? = some o) (hw : Region.wanted o (yielded ops a.tmps) = true) (hk : b.kind ≠ .early)
    (h : ∀ w1, R w w1 → ∃ v w' es, (execOp a.eval o).runT P w1 #[] = (.ok (.value v) w', es) ∧ D w1 w' (Go.seen P b.fn es) ∧ Way P main R D Stop (G (b.at (a.put o.dst v) (.inRegion ops rest :: k)) cs) w') : Way P main R D Stop (G (b.at a (.inRegion ops (i :: rest) :: k)) cs) w :=
  Way.one rfl fun w1 h1 => by
    obtain ⟨v, w', es, e, d, n⟩ := h w1 h1
    exact ⟨_, w', _, step_value ho hw hk e, d, n⟩

/-- .. the value known ahead. -/
theorem way_value' {w : World} (v : Value) (a' : Act) (ho : ops[i]? = some o) (hw : Region.wanted o (yielded ops a.tmps) = true) (hk : b.kind ≠ .early) (ha : a.put o.dst v = a')
    (h : ∀ w1, R w w1 → ∃ w' es, (execOp a.eval o).runT P w1 #[] = (.ok (.value v) w', es) ∧ D w1 w' (Go.seen P b.fn es) ∧ Way P main R D Stop (G (b.at a' (.inRegion ops rest :: k)) cs) w') : Way P main R D Stop (G (b.at a (.inRegion ops (i :: rest) :: k)) cs) w := by
  subst ha
  refine way_value ho hw hk fun w1 h1 => ?_
  obtain ⟨w', es, e, d, n⟩ := h w1 h1
  exact ⟨v, w', es, e, d, n⟩

/-- A deferred call is laid by. -/
theorem step_defer {d : Deferred} (ho : ops[i]? = some o) (hw : Region.wanted o (yielded ops a.tmps) = true) (h : ∀ w es, (execOp a.eval o).runT P w es = (.ok (.defer d) w, es)) (w : World) :
    stepG P main (G (b.at a (.inRegion ops (i :: rest) :: k)) cs) w = .go (G (b.at (({ a with defers := d :: a.defers } : Act).put o.dst undef) (.inRegion ops rest :: k)) cs) w #[] := by
  have e1 : stepG P main (G (b.at a (.inRegion ops (i :: rest) :: k)) cs) w = stepG.apply P true (b.at a (.inRegion ops (i :: rest) :: k)) cs none (execOp a.eval o) w := by
    have he := Frame.eval_at' b a (.inRegion ops (i :: rest) :: k)
    simp only [Frame.at] at he
    simp [G, stepG, stepG.exec, stepG.oper, Frame.oper?, Frame.at, ho, hw, he]
  have hf : ({ (b.at a (.inRegion ops (i :: rest) :: k)) with defers := d :: (b.at a (.inRegion ops (i :: rest) :: k)).defers } : Frame) = b.at { a with defers := d :: a.defers } (.inRegion ops (i :: rest) :: k) := rfl
  rw [e1]
  unfold stepG.apply
  rw [if_pos rfl, h w #[]]
  simp only [hf, Frame.finish_at, ho]
  cases hke : ((b.at a (.inRegion ops (i :: rest) :: k)).kind == CallKind.early) <;> simp [GStep.after, Go.seen, G]

theorem way_defer' (hm : Mild R D) {w : World} {d : Deferred} (a' : Act) (ho : ops[i]? = some o) (hw : Region.wanted o (yielded ops a.tmps) = true) (h : ∀ w es, (execOp a.eval o).runT P w es = (.ok (.defer d) w, es)) (ha : (({ a with defers := d :: a.defers } : Act).put o.dst undef) = a')
    (hn : Way P main R D Stop (G (b.at a' (.inRegion ops rest :: k)) cs) w) : Way P main R D Stop (G (b.at a (.inRegion ops (i :: rest) :: k)) cs) w := by
  subst ha
  exact way_silent hm rfl (fun w => step_defer ho hw h w) hn

end

/-! ### what the operations come to -/
section
variable {P : Program}
theorem runT_pure' {α : Type} (x : α) (w : World) (es : Array Event) : (Pure.pure x : Sem α).runT P w es = (.ok x w, es) := rfl
theorem runT_underlying {t : TypeId} {d : TypeDesc} (h : P.underlying t = some d) (w : World) (es : Array Event) : (underlying t).runT P w es = (.ok d w, es) := by
  unfold underlying
  rw [runT_bind_eq]
  show (match P.underlying t with | some d => (Pure.pure d : Sem TypeDesc) | none => _).runT P w es = _
  rw [h]
  rfl
theorem runT_bind_ok {α β : Type} {x : Sem α} {f : α → Sem β} {w w1 : World} {es es1 : Array Event} {a : α} (h : x.runT P w es = (.ok a w1, es1)) : (x >>= f).runT P w es = (f a).runT P w1 es1 := by
  rw [runT_bind_eq, h]

theorem exec_slice2 {t : TypeId} (h : P.underlying t = some .string) {ρ : Operand → Value} {o : Oper} {x lo hi : Operand} (ho : o.op = .slice t x (some lo) (some hi) none) {s : ByteArray} {l u : Nat} (hx : ρ x = .string s) (hl : ρ lo = .int .i64 l) (hh : ρ hi = .int .i64 u)
    (h1 : l ≤ u) (h2 : u ≤ s.size) (w : World) (es : Array Event) : (execOp ρ o).runT P w es = (.ok (.value (.string (s.extract l u))) w, es) := by
  have e1 : (Instr.sliceBound (.int .i64 u) s.size .sliceAlen : Sem Nat) = pure u := by
    simp [Instr.sliceBound, asIntOf, h2]
  have e2 : (Instr.sliceBound (.int .i64 l) u .sliceB : Sem Nat) = pure l := by
    simp [Instr.sliceBound, asIntOf, h1]
  have e3 : Instr.sliceBounds false s.size s.size (some (.int .i64 l)) (some (.int .i64 u)) none = pure (l, u, s.size) := by
    simp [Instr.sliceBounds, e1, e2]
  unfold execOp
  simp only [ho, Option.map_some, Option.map_none, hx, hl, hh]
  unfold Instr.sliceAt
  rw [bind_assoc, runT_bind_ok (runT_underlying h w es)]
  simp only
  unfold Instr.slice
  rw [bind_assoc, runT_bind_ok (runT_underlying h w es)]
  simp only [Option.isSome_none, Bool.false_eq_true, if_false, e3, pure_bind]
  rfl

theorem exec_slice1 {t : TypeId} (h : P.underlying t = some .string) {ρ : Operand → Value} {o : Oper} {x lo : Operand} (ho : o.op = .slice t x (some lo) none none) {s : ByteArray} {l : Nat} (hx : ρ x = .string s) (hl : ρ lo = .int .i64 l)
    (h1 : l ≤ s.size) (w : World) (es : Array Event) : (execOp ρ o).runT P w es = (.ok (.value (.string (s.extract l s.size))) w, es) := by
  have e2 : (Instr.sliceBound (.int .i64 l) s.size .sliceB : Sem Nat) = pure l := by
    simp [Instr.sliceBound, asIntOf, h1]
  have e3 : Instr.sliceBounds false s.size s.size (some (.int .i64 l)) none none = pure (l, s.size, s.size) := by
    simp [Instr.sliceBounds, e2]
  unfold execOp
  simp only [ho, Option.map_some, Option.map_none, hx, hl]
  unfold Instr.sliceAt
  rw [bind_assoc, runT_bind_ok (runT_underlying h w es)]
  simp only
  unfold Instr.slice
  rw [bind_assoc, runT_bind_ok (runT_underlying h w es)]
  simp only [Option.isSome_none, Bool.false_eq_true, if_false, e3, pure_bind]
  rfl

theorem exec_len {t : TypeId} (h : P.underlying t = some .string) {ρ : Operand → Value} {o : Oper} {x : Operand} (ho : o.op = .call { callee := .builtin .len, args := #[x], argTypes := #[t] }) {s : ByteArray} (hx : ρ x = .string s) (w : World) (es : Array Event) :
    (execOp ρ o).runT P w es = (.ok (.value (goInt s.size)) w, es) := by
  unfold execOp
  simp only [ho, resolve, pure_bind]
  simp only [List.map_toArray, List.map_cons, List.map_nil, invoke, builtin, Builtin.len_, hx]
  show ((underlying t >>= fun d => _) >>= _).runT P w es = _
  rw [bind_assoc, runT_bind_ok (runT_underlying h w es)]
  rfl

end
end Go.Co
