/- A slice of entries of its own row, each entry's bytes in a row of their own; one more appended. -/
import Derived.Test.YtbjkljmhhpoooaaDoorHead
import Derived.Laws.AppendOwn
import Derived.Deep.AppendLies
import Derived.Deep.RegionLaw
namespace Go.Proofs.YtbjkljmhhpoooaaDoor
open Go.RowKit
set_option linter.unusedVariables false

/-- one entry's cells; its bytes lie in a row at lo or above -/
def EntC (w : World) (lo : Nat) (E : Ent) (V : List Value) : Prop := ∃ bv, V = (entVals E bv).toList ∧ w.ownsRow lo 5 1 bv E.by_.length (u8s E.by_)
def EntsC (w : World) (lo : Nat) : List Ent → List Value → Prop
  | [], L => L = []
  | E :: es, L => ∃ V L', L = V ++ L' ∧ EntC w lo E V ∧ EntsC w lo es L'
/-- a slice of entries -/
def EntsAt (w : World) (lo : Nat) (v : Value) (es : List Ent) : Prop := ∃ L, EntsC w lo es L ∧ w.ownsRow lo 25 8 v es.length L

/-- Blocks of bytes stay. -/
def BytesKept (lo : Nat) (w w' : World) : Prop := ∀ k cur, lo ≤ k → w.heap[k]? = some (.cells cur 5 (0, 0)) → w'.heap[k]? = w.heap[k]?
theorem BytesKept.below {lo : Nat} {w w' : World} (h : Below w.heap.size w w') : BytesKept lo w w' := fun k cur _ hk => h.block k (Array.getElem?_eq_some_iff.1 hk).1
theorem BytesKept.grown {lo g : Nat} {w w' : World} {cur : Array Value} {t : TypeId} {v : Value} (h : w.grownBy w' v.ownBlock) (hg : ∀ g, v.ownBlock = some g → ∃ cur t, t ≠ 5 ∧ w.heap[g]? = some (.cells cur t (0, 0))) : BytesKept lo w w' := by
  intro k cur _ hk
  refine h.block k (Array.getElem?_eq_some_iff.1 hk).1 fun e => ?_
  obtain ⟨c, t, ht, h2⟩ := hg k e.symm
  rw [hk] at h2
  injection h2 with h2
  injection h2 with _ h3 _
  exact ht h3.symm
theorem own_kept {w w' : World} {lo n : Nat} {v : Value} {xs : List Value} (h : w.ownsRow lo 5 1 v n xs) (hk : BytesKept lo w w') : w'.ownsRow lo 5 1 v n xs := by
  obtain ⟨h1, h2⟩ := h
  refine ⟨h1, ?_⟩
  rcases h2 with h2 | ⟨g, cap, cur, a, b', c, d⟩
  · exact .inl h2
  · exact .inr ⟨g, cap, cur, a, b', (hk g cur b' c).trans c, d⟩
theorem EntC.kept {w w' : World} {lo : Nat} {E : Ent} {V : List Value} (h : EntC w lo E V) (hk : BytesKept lo w w') : EntC w' lo E V := by
  obtain ⟨bv, h1, h2⟩ := h
  exact ⟨bv, h1, own_kept h2 hk⟩
theorem EntC.mono {w : World} {lo lo' : Nat} {E : Ent} {V : List Value} (h : EntC w lo E V) (hl : lo' ≤ lo) : EntC w lo' E V := by
  obtain ⟨bv, h1, h2⟩ := h
  exact ⟨bv, h1, own_mono h2 hl⟩
theorem EntsC.kept {w w' : World} {lo : Nat} (hk : BytesKept lo w w') : ∀ {es : List Ent} {L : List Value}, EntsC w lo es L → EntsC w' lo es L
  | [], _, h => h
  | _ :: _, _, ⟨V, L', h1, h2, h3⟩ => ⟨V, L', h1, h2.kept hk, EntsC.kept hk h3⟩
theorem EntsC.mono {w : World} {lo lo' : Nat} (hl : lo' ≤ lo) : ∀ {es : List Ent} {L : List Value}, EntsC w lo es L → EntsC w lo' es L
  | [], _, h => h
  | _ :: _, _, ⟨V, L', h1, h2, h3⟩ => ⟨V, L', h1, h2.mono hl, EntsC.mono hl h3⟩
theorem EntsC.snoc {w : World} {lo : Nat} {E : Ent} {V : List Value} (hV : EntC w lo E V) : ∀ {es : List Ent} {L : List Value}, EntsC w lo es L → EntsC w lo (es ++ [E]) (L ++ V)
  | [], L, h => by
    have h' : L = [] := h
    subst h'
    exact ⟨V, [], by simp, hV, rfl⟩
  | E' :: es, L, ⟨V', L', h1, h2, h3⟩ => ⟨V', L' ++ V, by rw [h1, List.append_assoc], h2, EntsC.snoc hV h3⟩
theorem EntC.length {w : World} {lo : Nat} {E : Ent} {V : List Value} (h : EntC w lo E V) : V.length = 8 := by
  obtain ⟨bv, h1, _⟩ := h
  rw [h1]; rfl
theorem EntC.one {w : World} {lo : Nat} {E : Ent} {V : List Value} (h : EntC w lo E V) : ∀ u ∈ V, u.oneCell' = true := by
  obtain ⟨bv, h1, h2⟩ := h
  rw [h1]
  exact List.all_eq_true.1 (entry_one h2 E)
theorem EntsAt.nil (w : World) (lo : Nat) : EntsAt w lo (.slice none 0 0) [] := ⟨[], rfl, World.ownsRow_nil _ _ _ _⟩
theorem EntsAt.below {w w' : World} {lo : Nat} {v : Value} {es : List Ent} (h : EntsAt w lo v es) (hb : Below w.heap.size w w') : EntsAt w' lo v es := by
  obtain ⟨L, h1, h2⟩ := h
  exact ⟨L, h1.kept (.below hb), own_below h2 hb⟩
theorem EntsAt.mono {w : World} {lo lo' : Nat} {v : Value} {es : List Ent} (h : EntsAt w lo v es) (hl : lo' ≤ lo) : EntsAt w lo' v es := by
  obtain ⟨L, h1, h2⟩ := h
  exact ⟨L, h1.mono hl, own_mono h2 hl⟩
/-- blocks of bytes and of entries stay -/
theorem EntsAt.keep {w w' : World} {lo : Nat} {v : Value} {es : List Ent} (h : EntsAt w lo v es) (hk : ∀ k cur t, lo ≤ k → w.heap[k]? = some (.cells cur t (0, 0)) → (t = 5 ∨ t = 25) → w'.heap[k]? = w.heap[k]?) : EntsAt w' lo v es := by
  obtain ⟨L, h1, h2, h3⟩ := h
  refine ⟨L, h1.kept fun k cur hl h => hk k cur _ hl h (.inl rfl), h2, ?_⟩
  rcases h3 with h3 | ⟨g, cap, cur, a, b', c, d⟩
  · exact .inl h3
  · exact .inr ⟨g, cap, cur, a, b', (hk g cur _ b' c (.inr rfl)).trans c, d⟩
theorem EntsAt.form {w : World} {lo : Nat} {v : Value} {es : List Ent} (h : EntsAt w lo v es) : ∃ A c, v = .slice A es.length c := by
  obtain ⟨L, h1, h2⟩ := h
  exact own_form h2

theorem ent_info : (Tryd.prog.info? 25).map (fun i => (i.zero.map (·.cells.size), i.size, i.bytes)) = some (some 8, 8, 80) := by kernel_rfl

/-- the row's own block is of entries -/
theorem own_block {w : World} {lo size n : Nat} {t : TypeId} {v : Value} {xs : List Value} (h : w.ownsRow lo t size v n xs) : ∀ g, v.ownBlock = some g → lo ≤ g ∧ ∃ cur, w.heap[g]? = some (.cells cur t (0, 0)) := by
  intro g hg
  obtain ⟨_, h2⟩ := h
  rcases h2 with ⟨rfl, _⟩ | ⟨g', cap, cur, rfl, b', c, d⟩
  · cases hg
  · simp [Value.ownBlock] at hg
    subst hg
    exact ⟨b', cur, c⟩

/-- ONE ENTRY APPENDED. -/
theorem wpList_append_entry (w : World) {ops : Array Oper} {rest : List Oper} {op : Oper} {a : Act} {Q : Exit → Act → World → Prop}
    (hgd : op.guard = none) (s x : Operand) (ho : op.op = .call { callee := .builtin .append, args := #[s, x], argTypes := #[29, 29] })
    {lo : Nat} {v : Value} {es : List Ent} {E : Ent} (hs : a.eval s = v) (hv : EntsAt w lo v es) (hlo : lo ≤ w.heap.size)
    (b : Nat) (c : Nat) (hx : a.eval x = .slice (some ⟨b, 0, none⟩) 1 c) (V : Array Value) (hV : EntC w lo E V.toList) (hb : ∀ j u, V[j]? = some u → w.cell? ⟨b, j, none⟩ = some u) (hn : es.length ≤ 1048576)
    (h : ∀ v' w', EntsAt w' lo v' (es ++ [E]) → w.grownBy w' v.ownBlock → (∀ g, v.ownBlock = some g → lo ≤ g ∧ ∃ cur, w.heap[g]? = some (.cells cur 25 (0, 0))) → wpList Tryd.prog ops Q rest (a.put op.dst v') w') : wpList Tryd.prog ops Q (op :: rest) a w := by
  obtain ⟨i, hi, he⟩ := Option.map_eq_some_iff.1 ent_info
  injection he with he1 he
  injection he with he2 he3
  obtain ⟨z, hz1, hz2⟩ := Option.map_eq_some_iff.1 he1
  obtain ⟨L, hL, hrow⟩ := hv
  refine wpList_append_own w hgd s x 29 ho lo 25 i z 8 80 Tryd.underlying29 hi hz1 he2 he3 hz2 (by decide) v es.length L hs hrow ⟨b, 0, none⟩ 1 c V.toList hx (by rw [hV.length]) (fun j u hu => by
    have h0 : (⟨b, 0, none⟩ : Addr).add j = ⟨b, j, none⟩ := by rw [Addr.add_mid, Nat.zero_add]
    rw [h0]
    exact hb j u (by simpa using hu)) hV.one (by unfold maxLen; omega) (by omega) hlo fun v' w' h1 h2 _ => ?_
  have hbl := own_block hrow
  refine h v' w' ⟨L ++ V.toList, ?_, by simpa using h1⟩ h2 hbl
  have hk : BytesKept lo w w' := BytesKept.grown (g := 0) (cur := #[]) (t := 0) h2 fun g hg => by
    obtain ⟨_, cur, hc⟩ := hbl g hg
    exact ⟨cur, _, by decide, hc⟩
  exact (hL.kept hk).snoc (hV.kept hk)
/-- AT A STEP OF A REGION THAT DRAWS. -/
theorem step_append_entry {w : World} {ops : Array Oper} {op : Oper} {a : Act} {K : Act → World → Prop} {Q : Exit → Act → World → Prop} {X : Prop}
    (hgd : op.guard = none) (s x : Operand) (ho : op.op = .call { callee := .builtin .append, args := #[s, x], argTypes := #[29, 29] })
    {lo : Nat} {v : Value} {es : List Ent} {E : Ent} (hs : a.eval s = v) (hv : EntsAt w lo v es) (hlo : lo ≤ w.heap.size)
    (b : Nat) (c : Nat) (hx : a.eval x = .slice (some ⟨b, 0, none⟩) 1 c) (V : Array Value) (hV : EntC w lo E V.toList) (hb : w.heap[b]? = some (.cells V 25 (0, 0))) (hn : es.length ≤ 1048576)
    (h : ∀ g cap w', EntsAt w' lo (.slice (some ⟨g, 0, none⟩) (es.length + 1) cap) (es ++ [E]) → w.grownBy w' v.ownBlock → (∀ g, v.ownBlock = some g → lo ≤ g ∧ ∃ cur, w.heap[g]? = some (.cells cur 25 (0, 0))) → K (a.put op.dst (.slice (some ⟨g, 0, none⟩) (es.length + 1) cap)) w') :
    if Region.wanted op (yielded ops a.tmps) = true then Oper.wp Tryd.prog op a w K Q else X := by
  obtain ⟨i, hi, he⟩ := Option.map_eq_some_iff.1 ent_info
  injection he with he1 he
  injection he with he2 he3
  obtain ⟨z, hz1, hz2⟩ := Option.map_eq_some_iff.1 he1
  obtain ⟨L, hL, hrow⟩ := hv
  refine step_append_lies w hgd s x 29 ho lo 25 i z 8 80 Tryd.underlying29 hi hz1 he2 he3 hz2 (by decide) v es.length L hs hrow ⟨b, 0, none⟩ 1 c V.toList hx (by rw [hV.length]) (World.news_of_block hb) hV.one (by decide) (by unfold maxLen; omega) (by omega) hlo _ rfl fun g cap w' h1 h2 _ _ => ?_
  have hbl := own_block hrow
  refine h g cap w' ⟨L ++ V.toList, ?_, by simpa using h1⟩ h2 hbl
  have hk : BytesKept lo w w' := BytesKept.grown (g := 0) (cur := #[]) (t := 0) h2 fun g hg => by
    obtain ⟨_, cur, hc⟩ := hbl g hg
    exact ⟨cur, _, by decide, hc⟩
  exact (hL.kept hk).snoc (hV.kept hk)

theorem EntRet.lay {w w' : World} {E : Ent} {e : Ending} (h : EntRet w.heap.size w E e w') : ∃ A c, e = .returned (.agg #[.int .i64 E.kind, .int .i64 E.site, .int .i64 E.a, .int .i64 E.b, .int .i64 E.c, .int .u8 E.ch, .slice A E.by_.length c, .int .i64 E.err]) ∧ w'.ownsRow w.heap.size 5 1 (.slice A E.by_.length c) E.by_.length (u8s E.by_) ∧ Below w.heap.size w w' := by
  obtain ⟨v, rfl, ⟨bv, rfl, ho⟩, hb⟩ := h
  obtain ⟨A, c, rfl⟩ := own_form ho
  exact ⟨A, c, rfl, ho, hb⟩
def entArr (E : Ent) (A : Option Addr) (c : Nat) : Array Value := #[.int .i64 E.kind, .int .i64 E.site, .int .i64 E.a, .int .i64 E.b, .int .i64 E.c, .int .u8 E.ch, .slice A E.by_.length c, .int .i64 E.err]
theorem EntC.of {w : World} {lo c : Nat} {E : Ent} {A : Option Addr} (h : w.ownsRow lo 5 1 (.slice A E.by_.length c) E.by_.length (u8s E.by_)) : EntC w lo E (entArr E A c).toList := ⟨_, rfl, h⟩
end Go.Proofs.YtbjkljmhhpoooaaDoor
