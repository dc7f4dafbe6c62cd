/- Of two entries that are the same, script.same and the law's alike say so. -/
import Derived.Test.YtbjkljmhhpoooaaDoorWritF
import Derived.Laws.BytesArg
namespace Go.Proofs.YtbjkljmhhpoooaaDoor
open Go.RowKit
set_option linter.unusedVariables false

/-- a slice of bytes that is read -/
def BytesIn (w : World) (A : Option Addr) (bs : List Nat) : Prop :=
  (A = none ∧ bs = []) ∨ ∃ b o, A = some ⟨b, o, none⟩ ∧ b < w.heap.size ∧ ∀ j, j < bs.length → w.cell? ⟨b, o + j, none⟩ = some (.int .u8 ((bs.getD j 0 : Nat) : Int))
theorem BytesIn.below {w w' : World} {A : Option Addr} {bs : List Nat} (h : BytesIn w A bs) (hb : Below w.heap.size w w') : BytesIn w' A bs := by
  rcases h with h | ⟨b, o, h1, h2, h3⟩
  · exact .inl h
  · exact .inr ⟨b, o, h1, Nat.lt_of_lt_of_le h2 hb.size, fun j hj => (hb.cell (p := ⟨b, o + j, none⟩) h2).trans (h3 j hj)⟩
theorem own_in {w : World} {base : Nat} {e : TypeId} {A : Option Addr} {n c : Nat} {bs : List Nat} (h : w.ownsRow base e 1 (.slice A n c) n (u8s bs)) : BytesIn w A bs := by
  obtain ⟨h1, h2⟩ := h
  have hl : n = bs.length := by simpa [u8s] using h1.symm
  rcases h2 with ⟨hv, h0⟩ | ⟨g, cap, cur, hv, hg, hh, hc, hm, hs, ht⟩
  · injection hv with h1 h2 h3
    exact .inl ⟨h1, List.eq_nil_of_length_eq_zero (by omega)⟩
  · injection hv with h1 h2 h3
    subst h1 h3
    refine .inr ⟨g, 0, rfl, (Array.getElem?_eq_some_iff.1 hh).1, fun j hj => ?_⟩
    rw [Nat.zero_add]
    refine cell_of_heap hh ?_
    have h3 : (cur.toList.take (n * 1))[j]? = (u8s bs)[j]? := by rw [ht]
    rw [List.getElem?_take_of_lt (by omega)] at h3
    rw [← Array.getElem?_toList, h3]
    simp [u8s, List.getElem?_eq_getElem hj, List.getD_eq_getElem?_getD]
theorem BytesIn.some {w : World} {A : Option Addr} {bs : List Nat} (h : BytesIn w A bs) (h0 : 0 < bs.length) : ∃ b o, A = some ⟨b, o, none⟩ ∧ b < w.heap.size ∧ ∀ j, j < bs.length → w.cell? ⟨b, o + j, none⟩ = some (.int .u8 ((bs.getD j 0 : Nat) : Int)) := by
  rcases h with ⟨_, rfl⟩ | h
  · simp at h0
  · exact h
/-- string(b) -/
theorem conv_bytes {w : World} {A : Option Addr} {bs : List Nat} (h : BytesIn w A bs) (c : Nat) : ∃ S, ∀ w', Below w.heap.size w w' → (convert 22 9 (.slice A bs.length c)).run Tryd.prog w' = .ok (.string (strOfNums (intsN bs))) w' ∧ S = strOfNums (intsN bs) := by
  refine ⟨_, fun w' hb => ⟨?_, rfl⟩⟩
  have h' := h.below hb
  rcases h' with ⟨rfl, rfl⟩ | ⟨b, o, rfl, h2, h3⟩
  · exact run_convert_bytes_nil w' 22 5 Tryd.underlying22 Tryd.underlying5 _ _ 9 Tryd.underlying9
  · refine run_convert_bytes_arg w' 22 5 Tryd.underlying22 Tryd.underlying5 b o _ c (intsN bs) (by simp [intsN]) (fun i hi => ?_) 9 Tryd.underlying9
    rw [h3 i hi]
    simp [intsN, List.getD_eq_getElem?_getD, List.getElem?_eq_getElem hi]

set_option maxRecDepth 100000 in
set_option maxHeartbeats 1000000 in
theorem same_calls (e : Ent) (A0 A1 : Option Addr) (c0 c1 : Nat) (w : World) (h0 : BytesIn w A0 e.by_) (h1 : BytesIn w A1 e.by_) :
    Calls Tryd.prog 32 #[.agg (entArr e A0 c0), .agg (entArr e A1 c1)] w fun e' w' => e' = .returned (.bool true) ∧ Below w.heap.size w w' := by
  go_enter Tryd.func32, Tryd.ntmps32
  obtain ⟨S0, hS0⟩ := conv_bytes h0 c0
  obtain ⟨S1, hS1⟩ := conv_bytes h1 c1
  have hb : ∀ o1 o2, Below w.heap.size w ((w.alloc o1).alloc o2) := fun o1 o2 => ((Below.refl _ w).alloc (Nat.le_refl _) o1).alloc (by simp) o2
  have k0 := fun o1 o2 => (hS0 _ (hb o1 o2)).1
  have k1 := fun o1 o2 => (hS1 _ (hb o1 o2)).1
  generalize strOfNums (intsN e.by_) = S at k0 k1
  have HB := Lib.hid hb
  clear h0 h1 hS0 hS1 hb
  unfold entArr
  obtain ⟨kind, site, ea, eb, ec, ch, by_, err⟩ := e
  go_wp2_with fail
  go_ret
  exact ⟨rfl, HB.out _ _⟩
end Go.Proofs.YtbjkljmhhpoooaaDoor
