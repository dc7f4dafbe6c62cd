/- Laws of the walk for blocks that are known whole: a store of a struct or of one cell leaves a world of which just this is known: the block holds the new cells, all else is as it was. Of no program. -/
import Derived.Test.YtbjkljmhhpoooaaDoorWords
import Derived.Deep.MidRow
namespace Go.Proofs.YtbjkljmhhpoooaaDoor
open Go.RowKit
set_option linter.unusedVariables false

theorem cell_of_heap {w : World} {b i : Nat} {cs : Array Value} {t : TypeId} {fr : Nat × Nat} {v : Value} (h : w.heap[b]? = some (.cells cs t fr)) (hi : cs[i]? = some v) : w.cell? ⟨b, i, none⟩ = some v := by
  unfold World.cell?; simp only [h]; simpa using hi
theorem frozen_of_heap {w : World} {b i : Nat} {cs : Array Value} {t : TypeId} (h : w.heap[b]? = some (.cells cs t (0, 0))) : w.frozen? ⟨b, i, none⟩ = false := by
  unfold World.frozen?; simp only [h]; simp
theorem heap_set_same {w : World} {b i : Nat} {cs : Array Value} {t : TypeId} {fr : Nat × Nat} {v : Value} (h : w.heap[b]? = some (.cells cs t fr)) : (w.setCell ⟨b, i, none⟩ v).heap[b]? = some (.cells (cs.setIfInBounds i v) t fr) := by
  unfold World.setCell
  simp [Array.getElem?_modify, h]
theorem heap_set_other {w : World} {b k i : Nat} {v : Value} (h : k ≠ b) : (w.setCell ⟨b, i, none⟩ v).heap[k]? = w.heap[k]? := Below.heap_setCell w ⟨b, i, none⟩ v k h

/-- w2 is w but for block b, which holds these cells. -/
structure StoredAt (w w2 : World) (b : Nat) (cells : Array Value) (t : TypeId) : Prop where
  os : w2.os = w.os
  tape : w2.tape = w.tape
  output : w2.output = w.output
  size : w2.heap.size = w.heap.size
  at_ : w2.heap[b]? = some (.cells cells t (0, 0))
  other : ∀ k, k ≠ b → w2.heap[k]? = w.heap[k]?
theorem StoredAt.below {w w2 : World} {b : Nat} {cells : Array Value} {t : TypeId} (h : StoredAt w w2 b cells t) {B : Nat} (hb : B ≤ b) : Below B w w2 :=
  ⟨h.os, h.tape, h.output, by rw [h.size]; exact Nat.le_refl _, fun k hk => h.other k (by omega)⟩
theorem StoredAt.own {w w2 : World} {b : Nat} {cells : Array Value} {t : TypeId} (h : StoredAt w w2 b cells t) {base : Nat} {e : TypeId} {size : Nat} {v : Value} {n : Nat} {xs : List Value} (ho : w.ownsRow base e size v n xs) (hb : some b ≠ v.ownBlock) : w2.ownsRow base e size v n xs := by
  obtain ⟨h1, h2⟩ := ho
  refine ⟨h1, ?_⟩
  rcases h2 with h2 | ⟨g, cap, cur, a, b', c, d⟩
  · exact .inl h2
  · refine .inr ⟨g, cap, cur, a, b', ?_, d⟩
    rw [h.other]
    · exact c
    · rintro rfl; subst a; exact hb rfl
theorem StoredAt.cell {w w2 : World} {b : Nat} {cells : Array Value} {t : TypeId} (h : StoredAt w w2 b cells t) {k i : Nat} {v : Value} (hk : k ≠ b) (hc : w.cell? ⟨k, i, none⟩ = some v) : w2.cell? ⟨k, i, none⟩ = some v := by
  rw [World.cell?_of_block (w := w) (h.other k hk)]; exact hc

theorem setCells_facts (b : Nat) : ∀ (vs : List Value) (o : Nat) (w : World), (w.setCells b o vs).os = w.os ∧ (w.setCells b o vs).tape = w.tape ∧ (w.setCells b o vs).output = w.output ∧ (w.setCells b o vs).heap.size = w.heap.size ∧ (∀ k, k ≠ b → (w.setCells b o vs).heap[k]? = w.heap[k]?) ∧
    ∀ (cs : Array Value) (t : TypeId), w.heap[b]? = some (.cells cs t (0, 0)) → ∃ cs' : Array Value, (w.setCells b o vs).heap[b]? = some (.cells cs' t (0, 0)) ∧ cs'.size = cs.size ∧ ∀ j, cs'[j]? = if j < o ∨ o + vs.length ≤ j then cs[j]? else if j < cs.size then vs[j - o]? else none
  | [], o, w => ⟨rfl, rfl, rfl, rfl, fun _ _ => rfl, fun cs t h => ⟨cs, h, rfl, fun j => by
      rw [if_pos]; simp only [List.length_nil]; omega⟩⟩
  | v :: vs, o, w => by
    obtain ⟨h1, h2, h3, h4, h5, h6⟩ := setCells_facts b vs (o + 1) (w.setCell ⟨b, o, none⟩ v)
    refine ⟨h1, h2, h3, h4.trans (by simp [World.setCell]), fun k hk => (h5 k hk).trans (heap_set_other hk), fun cs t h => ?_⟩
    obtain ⟨cs', e1, e2, e3⟩ := h6 _ t (heap_set_same (i := o) (v := v) h)
    refine ⟨cs', e1, by simpa using e2, fun j => ?_⟩
    rw [e3 j]
    simp only [Array.size_setIfInBounds, List.length_cons]
    by_cases h1 : j < o
    · rw [if_pos (by omega), if_pos (by omega), Array.getElem?_setIfInBounds_ne (by omega)]
    · by_cases h2 : j = o
      · subst h2
        rw [if_pos (by omega), if_neg (by omega), Nat.sub_self]
        by_cases h3 : j < cs.size
        · rw [Array.getElem?_setIfInBounds_self_of_lt h3, if_pos h3]; rfl
        · rw [Array.getElem?_eq_none (by simp; omega), if_neg h3]
      · by_cases h3 : o + 1 + vs.length ≤ j
        · rw [if_pos (by omega), if_pos (by omega), Array.getElem?_setIfInBounds_ne (by omega)]
        · rw [if_neg (show ¬ (j < o + 1 ∨ o + 1 + vs.length ≤ j) by omega), if_neg (show ¬ (j < o ∨ o + (vs.length + 1) ≤ j) by omega)]
          obtain ⟨m, rfl⟩ : ∃ m, j = o + 1 + m := ⟨j - o - 1, by omega⟩
          rw [show o + 1 + m - (o + 1) = m by omega, show o + 1 + m - o = m + 1 by omega, List.getElem?_cons_succ]

theorem stored_setCells {w : World} {b : Nat} {old cells : Array Value} {t : TypeId} (h : w.heap[b]? = some (.cells old t (0, 0))) (hs : old.size = cells.size) : StoredAt w (w.setCells b 0 cells.toList) b cells t := by
  obtain ⟨h1, h2, h3, h4, h5, h6⟩ := setCells_facts b cells.toList 0 w
  obtain ⟨cs', e1, e2, e3⟩ := h6 old t h
  refine ⟨h1, h2, h3, h4, ?_, h5⟩
  rw [e1]
  have : cs' = cells := by
    apply Array.ext_getElem?
    intro j
    rw [e3 j]
    by_cases hj : j < cells.size
    · rw [if_neg (by simp; omega), if_pos (by omega)]; simp
    · rw [if_pos (by right; simp; omega), Array.getElem?_eq_none (by omega), Array.getElem?_eq_none (by omega)]
  rw [this]

theorem alloc_at {w : World} {b : Nat} {o : Obj} (h : b = w.heap.size) : (w.alloc o).heap[b]? = some o := by
  subst h; exact Array.getElem?_push_size
theorem alloc_old {w : World} {b : Nat} {o x : Obj} (h : w.heap[b]? = some x) : (w.alloc o).heap[b]? = some x := by
  rw [Below.heap_alloc w o b (Array.getElem?_eq_some_iff.1 h).1]; exact h
section
variable {P : Program}
theorem run_loadVar_block {w : World} {b : Nat} {cells : Array Value} {t ty : TypeId} (hh : w.heap[b]? = some (.cells cells t (0, 0)))
    (hd : (P.underlying ty).map TypeDesc.isRow = some true) (hi : (P.info? ty).map (·.size) = some cells.size) :
    (loadVar ty ⟨b, 0, none⟩).run P w = .ok (.agg cells) w := by
  obtain ⟨d, hu, hd⟩ := Option.map_eq_some_iff.1 hd
  have := run_loadVar_mid (P := P) w b 0 ty cells.toList d (fun j v hv => by rw [Nat.zero_add, cell_of_heap hh (v := v) (by simpa using hv)]) hu hd (by simpa using hi)
  simpa using this
/-- A STRUCT STORED INTO A BLOCK THAT IS KNOWN WHOLE. -/
theorem wpList_store_block {ops : Array Oper} {rest : List Oper} {op : Oper} {a : Act} {w : World} {Q : Exit → Act → World → Prop} (hgd : op.guard = none) (ty : TypeId) (x y : Operand) (ho : op.op = .store ty x y)
    (b : Nat) (cells old : Array Value) (t : TypeId) (hx : a.eval x = .pointer (some ⟨b, 0, none⟩)) (hy : a.eval y = .agg cells) (hh : w.heap[b]? = some (.cells old t (0, 0))) (hs : old.size = cells.size)
    (hi : (P.info? ty).map (·.size) = some cells.size) (h1 : cells.toList.all (·.oneCell') = true)
    (h : ∀ w2, StoredAt w w2 b cells t → wpList P ops Q rest (a.put op.dst undef) w2) : wpList P ops Q (op :: rest) a w := by
  refine wpList_store_mid hgd ty x y ho b 0 cells hx hy (fun j hj => ?_) hi (by simpa using h1) (h _ (stored_setCells hh hs))
  refine ⟨?_, ?_⟩
  · rw [Nat.zero_add, cell_of_heap hh (v := old[j]'(by omega)) (Array.getElem?_eq_getElem _)]; rfl
  · exact frozen_of_heap hh
/-- A STRUCT LOADED OUT OF A BLOCK THAT IS KNOWN WHOLE. -/
theorem wpList_load_block {ops : Array Oper} {rest : List Oper} {op : Oper} {a : Act} {w : World} {Q : Exit → Act → World → Prop} (hgd : op.guard = none) (ty : TypeId) (x : Operand) (ho : op.op = .load ty x)
    (b : Nat) (cells : Array Value) (t : TypeId) (hx : a.eval x = .pointer (some ⟨b, 0, none⟩)) (hh : w.heap[b]? = some (.cells cells t (0, 0)))
    (hd : (P.underlying ty).map TypeDesc.isRow = some true) (hi : (P.info? ty).map (·.size) = some cells.size)
    (h : wpList P ops Q rest (a.put op.dst (.agg cells)) w) : wpList P ops Q (op :: rest) a w := by
  obtain ⟨d, hu, hd⟩ := Option.map_eq_some_iff.1 hd
  refine wpList_load_mid hgd ty x ho b 0 hx cells.toList d (fun j v hv => ?_) hu hd (by simpa using hi) (by simpa using h)
  rw [Nat.zero_add, cell_of_heap hh (v := v) (by simpa using hv)]
theorem stored_setCell {w : World} {b i : Nat} {old : Array Value} {t : TypeId} (h : w.heap[b]? = some (.cells old t (0, 0))) (v : Value) : StoredAt w (w.setCell ⟨b, i, none⟩ v) b (old.setIfInBounds i v) t :=
  ⟨rfl, rfl, rfl, by simp [World.setCell], heap_set_same h, fun k hk => heap_set_other hk⟩
/-- THE RESULT IS A VARIABLE IN MEMORY: a block that is known whole. -/
theorem results_cell {fn : Func} {tmps : Array Value} {w : World} {i b : Nat} {cells : Array Value} {t ty : TypeId} (h : fn.results = #[.cell i ty]) (ha : tmps.getD i undef = .pointer (some ⟨b, 0, none⟩)) (hh : w.heap[b]? = some (.cells cells t (0, 0)))
    (hd : (P.underlying ty).map TypeDesc.isRow = some true) (hi : (P.info? ty).map (·.size) = some cells.size) : (results fn tmps).run P w = .ok (.agg cells) w := by
  have ha' : tmps[i]?.getD undef = .pointer (some ⟨b, 0, none⟩) := by rw [← ha]; simp
  simp [results, h, ha', asAddr, run_loadVar_block hh hd hi]
end
end Go.Proofs.YtbjkljmhhpoooaaDoor
