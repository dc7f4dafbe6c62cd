/- jotterlaw15.alike over entries that are the same: true. Rows of bytes, and what becomes of them. -/
import Derived.Test.YtbjkljmhhpoooaaDoorPlainF
import Derived.Test.YtbjkljmhhpoooaaDoorPScriptLinesx2
namespace Go.Proofs.YtbjkljmhhpoooaaDoor
open Go.RowKit Go.Proofs.YtbjkljmhhpoooaaDoor.PScriptLines Go.Proofs.YtbjkljmhhpoooaaDoorW.PrintWords
set_option linter.unusedVariables false

theorem alike_l0 (a b c d e f : Int) (l : List Int) (g : Int) (a' b' c' d' e' f' g' : Int) : ∀ (n i k : Nat), i + n = l.length → l.length ≤ 1099511627776 → n < k → jotterlaw15_alike.l0 k i a b c d e f l g a' b' c' d' e' f' l g' = some true
  | 0, i, k + 1, hi, hl, hk => by
    have h : ¬ (i : Int) < (l.length : Int) := by omega
    rw [jotterlaw15_alike.l0, if_neg h]
  | n + 1, i, k + 1, hi, hl, hk => by
    have h : (i : Int) < (l.length : Int) := by omega
    have h0 : (0 : Int) ≤ (i : Int) := by omega
    have hw : wrap64 ((i : Int) + 1) = ((i + 1 : Nat) : Int) := by rw [w64 _ (by omega)]; push_cast; rfl
    rw [jotterlaw15_alike.l0, if_pos h, if_pos h0, if_pos h, if_pos rfl, hw]
    exact alike_l0 a b c d e f l g a' b' c' d' e' f' g' n (i + 1) k (by omega) hl (by omega)
theorem alike_same (a b c d e f : Int) (l : List Int) (g : Int) (hl : l.length ≤ 1099511627776) : jotterlaw15_alike.f (l.length + 2) a b c d e f l g a b c d e f l g = some true := by
  have hb : ((l.length : Int) != (l.length : Int)) = false := by simp
  unfold jotterlaw15_alike.f
  rw [if_pos rfl, if_pos rfl, if_pos rfl, if_pos rfl, if_pos rfl, if_pos rfl, if_pos rfl, hb, jotterlaw15_alike.j0, if_neg (by decide)]
  exact alike_l0 a b c d e f l g a b c d e f g l.length 0 (l.length + 1) (by omega) hl (by omega)
/-- a slice of bytes that is read -/
def BytesIn (w : World) (A : Option Addr) (n c : Nat) (bs : List Nat) : Prop := n = bs.length ∧ n ≤ c ∧ (0 < n → ∃ b o, A = some ⟨b, o, none⟩ ∧ b < w.heap.size ∧ ∀ j, j < n → w.cell? ⟨b, o + j, none⟩ = some (.int .u8 ((bs.getD j 0 : Nat) : Int)))
theorem BytesIn.C {w : World} {A : Option Addr} {n c : Nat} {bs : List Nat} (h : BytesIn w A n c bs) (hn : n ≤ 1099511627776) : Kd.C (Kd.int .u8) w A (ints bs).length (ints bs) := by
  obtain ⟨rfl, h2, h3⟩ := h
  have hl : (ints bs).length = bs.length := by simp [ints]
  refine ⟨rfl, by omega, fun h0 => ?_⟩
  obtain ⟨b, o, rfl, hb, hc⟩ := h3 (by omega)
  refine ⟨_, rfl, fun j p hp => ?_⟩
  have hj : j < bs.length := by rw [← hl]; exact (List.getElem?_eq_some_iff.1 hp).1
  refine ⟨[.int .u8 p], rfl, rfl, fun i u hu => ?_⟩
  have hi : i = 0 := by
    rcases i with _ | i
    · rfl
    · simp at hu
  subst hi
  simp at hu
  subst hu
  have hpe : p = ((bs.getD j 0 : Nat) : Int) := by
    simp [ints, List.getElem?_eq_getElem hj] at hp
    simp [List.getD_eq_getElem?_getD, List.getElem?_eq_getElem hj, hp]
  have := hc j hj
  rw [hpe]
  have ha : (⟨b, o, none⟩ : Addr).add (j * (Kd.int .u8).sz + 0) = ⟨b, o + j, none⟩ := by
    have : (Kd.int .u8).sz = 1 := rfl
    rw [this]; simp [Addr.add]
  rw [ha]; exact this
theorem alike_calls (E : Ent) (A0 A1 : Option Addr) (c0 c1 : Nat) (w : World) (h0 : BytesIn w A0 E.by_.length c0 E.by_) (h1 : BytesIn w A1 E.by_.length c1 E.by_) (hl : E.by_.length ≤ 1099511627776) :
    Calls Tryd.prog 10 #[.agg #[.int .i64 E.kind, .int .i64 E.site, .int .i64 E.a, .int .i64 E.b, .int .i64 E.c, .int .u8 E.ch, .slice A0 E.by_.length c0, .int .i64 E.err], .agg #[.int .i64 E.kind, .int .i64 E.site, .int .i64 E.a, .int .i64 E.b, .int .i64 E.c, .int .u8 E.ch, .slice A1 E.by_.length c1, .int .i64 E.err]] w fun e w' => e = .returned (.bool true) ∧ Below w.heap.size w w' := by
  have hl2 : (ints E.by_).length = E.by_.length := by simp [ints]
  have := jotterlaw15_alike.calls ((ints E.by_).length + 2) E.kind E.site E.a E.b E.c E.ch A0 c0 (ints E.by_) E.err E.kind E.site E.a E.b E.c E.ch A1 c1 (ints E.by_) E.err true w (h0.C hl) (by rw [hl2]; exact h0.2.1) (h1.C hl) (by rw [hl2]; exact h1.2.1) (alike_same _ _ _ _ _ _ _ _ (by omega))
  rw [hl2] at this
  exact this
theorem own_in {w : World} {base : Nat} {e : TypeId} {A : Option Addr} {n c : Nat} {bs : List Nat} (h : w.ownsRow base e 1 (.slice A n c) n (u8s bs)) : BytesIn w A n c bs := by
  obtain ⟨h1, h2⟩ := h
  have hl : n = bs.length := by simpa [u8s] using h1.symm
  rcases h2 with ⟨hv, h0⟩ | ⟨g, cap, cur, hv, hg, hh, hc, hm, hs, ht⟩
  · injection hv with h1 h2 h3
    exact ⟨hl, by omega, fun h => by omega⟩
  · injection hv with h1 h2 h3
    subst h1 h3
    refine ⟨hl, hc, fun h0 => ⟨g, 0, rfl, (Array.getElem?_eq_some_iff.1 hh).1, fun j hj => ?_⟩⟩
    rw [Nat.zero_add]
    refine cell_of_heap hh ?_
    have h3 : (cur.toList.take (n * 1))[j]? = (u8s bs)[j]? := by rw [ht]
    rw [List.getElem?_take_of_lt (by omega)] at h3
    rw [← Array.getElem?_toList, h3]
    have hj2 : j < bs.length := by omega
    simp [u8s, List.getElem?_eq_getElem hj2, List.getD_eq_getElem?_getD]
theorem BytesIn.below {w w' : World} {A : Option Addr} {n c : Nat} {bs : List Nat} (h : BytesIn w A n c bs) (hb : Below w.heap.size w w') : BytesIn w' A n c bs :=
  ⟨h.1, h.2.1, fun h0 => let ⟨b, o, e, hl, hc⟩ := h.2.2 h0; ⟨b, o, e, Nat.lt_of_lt_of_le hl hb.size, fun j hj => by rw [hb.cell (by exact hl)]; exact hc j hj⟩⟩
end Go.Proofs.YtbjkljmhhpoooaaDoor
