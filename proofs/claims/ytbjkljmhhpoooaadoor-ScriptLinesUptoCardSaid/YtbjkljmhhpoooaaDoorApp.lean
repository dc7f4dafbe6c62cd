/- An append of two bytes to a row that is full of one value: in place or in a new block: both rows read full of it. -/
import Derived.Test.YtbjkljmhhpoooaaDoorRow
import Derived.ArgAppend
import Derived.Deep.DeepAppendRoom
namespace Go.Proofs.YtbjkljmhhpoooaaDoor
open Go.RowKit
set_option linter.unusedVariables false

/-- nothing below but the blocks lo to hi has changed; blocks have come -/
structure Grown (lo hi : Nat) (w w' : World) : Prop where
  os : w'.os = w.os
  tape : w'.tape = w.tape
  output : w'.output = w.output
  size : w.heap.size ≤ w'.heap.size
  other : ∀ k, k < w.heap.size → (k < lo ∨ hi ≤ k) → w'.heap[k]? = w.heap[k]?
theorem Grown.below {lo hi B : Nat} {w w' : World} (h : Grown lo hi w w') (hB : B ≤ lo) (hs : B ≤ w.heap.size) : Below B w w' := ⟨h.os, h.tape, h.output, h.size, fun k hk => h.other k (by omega) (Or.inl (by omega))⟩
theorem Row.grown {W W' : World} {lo hi p lo' hi' : Nat} {E : Ent} {A : Option Addr} {c : Nat} {bs : List Nat} (h : Row W lo hi p E A c bs) (ho : Grown lo' hi' W W') (ha : hi ≤ lo' ∨ hi' ≤ lo) : Row W' lo hi p E A c bs :=
  h.keep (fun k h1 h2 => ho.other k (by have := h.size; omega) (by omega)) ho.size
/-- a slice of bytes, all v, outside the blocks lo to hi -/
def Full (W : World) (g N v : Nat) : Prop := g < W.heap.size ∧ ∀ j, j < N → W.cell? ⟨g, j, none⟩ = some (.int .u8 (v : Int))
theorem Full.keep {W W' : World} {g N v : Nat} (h : Full W g N v) (hk : W'.heap[g]? = W.heap[g]?) (hs : W.heap.size ≤ W'.heap.size) : Full W' g N v :=
  ⟨Nat.lt_of_lt_of_le h.1 hs, fun j hj => by rw [World.cell?_of_block (w := W) hk]; exact h.2 j hj⟩
theorem u8s_rep (n v : Nat) : u8s (List.replicate n v) = List.replicate n (Value.int .u8 (v : Int)) := by simp [u8s]
theorem full_of_own {W : World} {base : Nat} {e : TypeId} {g N c v : Nat} {xs : List Value} (h : W.ownsRow base e 1 (.slice (some ⟨g, 0, none⟩) N c) N xs) (hx : xs = List.replicate N (Value.int .u8 (v : Int))) (h0 : 0 < N) : Full W g N v := by
  have h2 : W.ownsRow base e 1 (.slice (some ⟨g, 0, none⟩) N c) N (u8s (List.replicate N v)) := by rw [u8s_rep, ← hx]; exact h
  obtain ⟨_, _, h3⟩ := own_in h2
  obtain ⟨b, o, e, hb, hc⟩ := h3 h0
  injection e with e
  injection e with e1 e2
  subst e1 e2
  refine ⟨hb, fun j hj => ?_⟩
  have := hc j hj
  rw [Nat.zero_add] at this
  rw [this]
  simp [List.getD_eq_getElem?_getD, hj]
theorem own_part {W : World} {base : Nat} {e : TypeId} {g N c n v : Nat} (h : W.ownsRow base e 1 (.slice (some ⟨g, 0, none⟩) N c) N (List.replicate N (Value.int .u8 (v : Int)))) (hn : n ≤ N) : W.ownsRow base e 1 (.slice (some ⟨g, 0, none⟩) n c) n (List.replicate n (Value.int .u8 (v : Int))) := by
  obtain ⟨h1, h2⟩ := h
  refine ⟨by simp, ?_⟩
  rcases h2 with ⟨h2, _⟩ | ⟨g', cap, cur, e', hg, hh, hc, hm, hs, ht⟩
  · cases h2
  · injection e' with e1 e2 e3
    injection e1 with e1
    injection e1 with e1 _ _
    subst e1 e3
    refine .inr ⟨g, c, cur, rfl, hg, hh, by omega, hm, hs, ?_⟩
    have h4 := congrArg (List.take n) ht
    rw [List.take_take, List.take_replicate] at h4
    rw [Nat.mul_one] at *
    rw [show min n N = n by omega] at h4
    exact h4
set_option maxHeartbeats 1000000 in
theorem wpList_append_two (w : World) {ops : Array Oper} {rest : List Oper} {op : Oper} {a : Act} {Q : Exit → Act → World → Prop}
    (hgd : op.guard = none) (s x : Operand) (ho : op.op = .call { callee := .builtin .append, args := #[s, x], argTypes := #[22, 22] })
    {lo hi p : Nat} {E : Ent} {A : Option Addr} {c : Nat} (hr : Row w lo hi p E A c (List.replicate E.by_.length 17)) (hs : a.eval s = .slice A E.by_.length c) (hlen : E.by_.length ≤ 1048576)
    (b : Nat) (hx : a.eval x = .slice (some ⟨b, 0, none⟩) 2 2) (hb0 : w.cell? ⟨b, 0, none⟩ = some (.int .u8 17)) (hb1 : w.cell? ⟨b, 1, none⟩ = some (.int .u8 17))
    (h : ∀ g c' w', Full w' g (E.by_.length + 2) 17 → Row w' lo hi p E A c (List.replicate E.by_.length 17) → ((lo ≤ g ∧ g < hi) ∨ w.heap.size ≤ g) → Grown lo hi w w' →
      wpList Tryd.prog ops Q rest (a.put op.dst (.slice (some ⟨g, 0, none⟩) (E.by_.length + 2) c')) w') : wpList Tryd.prog ops Q (op :: rest) a w := by
  obtain ⟨i0, hi0, he0⟩ := Option.map_eq_some_iff.1 info_u8
  injection he0 with hz0 he0
  injection he0 with hz1 hz2
  have hown := hr.own
  rw [u8s_rep] at hown
  have hcells : ∀ j u, [Value.int .u8 17, Value.int .u8 17][j]? = some u → w.cell? ((⟨b, 0, none⟩ : Addr).add j) = some u := by
    intro j u hu
    rcases j with _ | _ | j
    · simp at hu; subst hu; simpa [Addr.add] using hb0
    · simp at hu; subst hu; simpa [Addr.add] using hb1
    · simp at hu
  have hone : ∀ u ∈ [Value.int .u8 17, Value.int .u8 17], u.oneCell' = true := by intro u hu; simp at hu; subst hu; rfl
  have happ : List.replicate E.by_.length (Value.int .u8 ((17 : Nat) : Int)) ++ [Value.int .u8 17, Value.int .u8 17] = List.replicate (E.by_.length + 2) (Value.int .u8 ((17 : Nat) : Int)) := by
    rw [List.replicate_succ', List.replicate_succ', List.append_assoc]; rfl
  by_cases hroom : E.by_.length + 2 ≤ c ∧ A ≠ none
  · obtain ⟨g, rfl, hg1, hg2⟩ : ∃ g, A = some ⟨g, 0, none⟩ ∧ lo ≤ g ∧ g < p := by
      rcases hown.2 with ⟨hv, _⟩ | ⟨g', cap, cur, e, hg, _⟩
      · injection hv with hv; exact absurd hv hroom.2
      · injection e with e1 e2 e3
        exact ⟨g', e1, hg, hr.blk g' (by rw [e1]; rfl)⟩
    refine wpList_append_own_spare w hgd s x 22 ho lo 5 i0 1 Tryd.underlying22 hi0 hz1 g E.by_.length c _ hs hown ⟨b, 0, none⟩ 2 2 _ hx rfl hcells hone hroom.1 fun w' hw' hgr => ?_
    rw [happ] at hw'
    have hhi := hr.high
    refine h g c w' (full_of_own hw' rfl (by omega)) ⟨hr.low, hr.high, Nat.le_trans hr.size hgr.size, ?_, ?_, hr.blk⟩ (Or.inl ⟨hg1, by omega⟩) ⟨hgr.os, hgr.tape, hgr.output, hgr.size, fun k hk hk2 => hgr.block k hk (by intro e; injection e with e; omega)⟩
    · exact (hgr.block p (by have := hr.size; omega) (by intro e; injection e with e; omega)).trans hr.var
    · rw [u8s_rep]; exact own_part hw' (by omega)
  · have hfull : c < E.by_.length + 2 := by
      rcases hown.2 with ⟨hv, _⟩ | ⟨g', cap, cur, e, hg, _⟩
      · injection hv with h1 h2 h3; omega
      · injection e with e1 e2 e3
        by_cases hc : E.by_.length + 2 ≤ c
        · exact absurd ⟨hc, by rw [e1]; simp⟩ hroom
        · omega
    have hnone : A = none → E.by_.length = 0 ∧ c = 0 := by
      rintro rfl
      rcases hown.2 with ⟨hv, h0⟩ | ⟨g', cap, cur, e, hg, _⟩
      · injection hv with h1 h2 h3; exact ⟨h0, h3⟩
      · injection e with e1 e2 e3; cases e1
    have holds : ∀ b', A = some b' → ∀ j u, (List.replicate E.by_.length (Value.int .u8 ((17 : Nat) : Int)))[j]? = some u → w.cell? (b'.add j) = some u := by
      rintro b' rfl j u hu
      have hj : j < E.by_.length := by
        have := (List.getElem?_eq_some_iff.1 hu).1; simpa using this
      obtain ⟨_, _, h3⟩ := hr.bytes
      obtain ⟨b2, o2, e2, hb2, hc2⟩ := h3 (by omega)
      have e3 : b' = ⟨b2, o2, none⟩ := Option.some.inj e2
      subst e3
      have := hc2 j hj
      simp [hj] at hu
      subst hu
      have e4 : (List.replicate E.by_.length 17).getD j 0 = 17 := by simp [List.getD_eq_getElem?_getD, hj]
      rw [e4] at this
      rw [Addr.add_mid]
      exact this
    refine wpList_append_grows w hgd s x 22 ho 5 i0 (.int .u8 0) 1 1 Tryd.underlying22 hi0 hz0 hz1 hz2 rfl (by decide) A E.by_.length c _ hs hnone (by simp) holds ⟨b, 0, none⟩ 2 2 _ hx rfl hcells hone hfull (by unfold maxLen; omega) (by omega) fun v' w' hw' hgr => ?_
    rw [happ] at hw'
    obtain ⟨g, c', rfl, hgs⟩ : ∃ g c', v' = .slice (some ⟨g, 0, none⟩) (E.by_.length + 2) c' ∧ w.heap.size ≤ g := by
      rcases hw'.2 with ⟨_, h0⟩ | ⟨g', cap, cur, e, hg, _⟩
      · exact absurd h0 (Nat.succ_ne_zero _)
      · exact ⟨g', cap, e, hg⟩
    have hGr : Grown lo hi w w' := ⟨hgr.os, hgr.tape, hgr.output, hgr.size, fun k hk _ => hgr.block k hk (by simp)⟩
    refine h g c' w' (full_of_own hw' rfl (by omega)) ?_ (Or.inr hgs) hGr
    exact hr.keep (fun k _ hk => hgr.block k (by have := hr.size; omega) (by simp)) hgr.size
end Go.Proofs.YtbjkljmhhpoooaaDoor
