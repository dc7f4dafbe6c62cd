/- What jotterlaw15.alike says of two entries: whether they are one. -/
import Derived.Test.YtbjkljmhhpoooaaDoorSame
namespace Go.Proofs.YtbjkljmhhpoooaaDoor
open Go.RowKit
set_option linter.unusedVariables false

theorem bytes_at {w : World} {A : Option Addr} {bs : List Nat} (h : BytesIn w A bs) (j : Nat) (hj : j < bs.length) : ∃ b o : Nat, A = some (⟨b, o, none⟩ : Addr) ∧ w.cell? (⟨b, o + j, none⟩ : Addr) = some (.int .u8 ((bs.getD j 0 : Nat) : Int)) := by
  obtain ⟨b, o, h1, h2, h3⟩ := h.some (by omega)
  exact ⟨b, o, h1, h3 j hj⟩
theorem bne_nat {a b : Nat} (h : a ≠ b) : (((a : Nat) : Int) != ((b : Nat) : Int)) = true := by simp; omega
theorem bne_self (a : Int) : (a != a) = false := by simp

set_option maxRecDepth 100000 in
set_option maxHeartbeats 2000000 in
theorem alike_yes (e : Ent) (A0 A1 : Option Addr) (c0 c1 : Nat) (w : World) (h0 : BytesIn w A0 e.by_) (h1 : BytesIn w A1 e.by_) (hl : e.by_.length ≤ 1099511627776) :
    Calls Tryd.prog 10 #[.agg (entArr e A0 c0), .agg (entArr e A1 c1)] w fun e' w' => e' = .returned (.bool true) ∧ Below w.heap.size w w' := by
  go_enter Tryd.func10, Tryd.ntmps10
  have hb : ∀ o1 o2, Below w.heap.size w ((w.alloc o1).alloc o2) := fun o1 o2 => ((Below.refl _ w).alloc (Nat.le_refl _) o1).alloc (by simp) o2
  have HB := Lib.hid hb
  have H0 := Lib.hid h0
  have H1 := Lib.hid h1
  clear h0 h1 hb
  unfold entArr
  obtain ⟨kind, site, ea, eb, ec, ch, by_, err⟩ := e
  go_wp2_with fail
  have h20 := cell_alloc (cell_of_heap (i := 6) (alloc_at (w := w) (o := .cells (entArr ⟨kind, site, ea, eb, ec, ch, by_, err⟩ A0 c0) 25) rfl) (v := .slice A0 by_.length c0) rfl) (.cells (entArr ⟨kind, site, ea, eb, ec, ch, by_, err⟩ A1 c1) 25)
  have h30 := cell_of_heap (i := 6) (alloc_at (w := w.alloc (.cells (entArr ⟨kind, site, ea, eb, ec, ch, by_, err⟩ A0 c0) 25)) (o := .cells (entArr ⟨kind, site, ea, eb, ec, ch, by_, err⟩ A1 c1) 25) rfl) (v := .slice A1 by_.length c1) rfl
  have hb2 := HB.out (.cells (entArr ⟨kind, site, ea, eb, ec, ch, by_, err⟩ A0 c0) 25) (.cells (entArr ⟨kind, site, ea, eb, ec, ch, by_, err⟩ A1 c1) 25)
  unfold entArr at h20 h30 hb2
  dsimp only at h20 h30 hb2
  simp only [World.size_alloc] at h30
  generalize World.alloc (World.alloc w _) _ = w2 at h20 h30 hb2 ⊢
  have K0 := Lib.hid (H0.out.below hb2)
  have K1 := Lib.hid (H1.out.below hb2)
  have HB2 := Lib.hid hb2
  clear hb2
  generalize w.heap.size + 1 = q at h30 ⊢
  generalize w.heap.size = p at h20 ⊢
  go_loopw [5] (fun vi wr => ∃ i : Nat, i ≤ by_.length ∧ vi = .int .i64 (i : Int) ∧ Below w2.heap.size w2 wr) (fun vi _ => by_.length - (intOf vi).toNat)
  case atStart => exact ⟨0, Nat.zero_le _, rfl, Below.refl _ _⟩
  case round =>
    obtain ⟨i, hi, rfl, hbr⟩ := hrel
    have k20 := (hbr.cell (World.block_lt_of_cell? w2 _ h20)).trans h20
    have k30 := (hbr.cell (World.block_lt_of_cell? w2 _ h30)).trans h30
    have HBR := Lib.hid hbr
    clear hbr
    by_cases hlt : i < by_.length
    · have hlt' : (i : Int) < (by_.length : Int) := by omega
      obtain ⟨b0, o0, rfl, hc0⟩ := bytes_at (K0.out.below HBR.out) i hlt
      obtain ⟨b1, o1, rfl, hc1⟩ := bytes_at (K1.out.below HBR.out) i hlt
      generalize by_.getD i 0 = x at hc0 hc1
      go_wp2_with fail
      go_quiet (fail)
      generalize hw3 : wr.drewN nq = w3
      have hb3 : Below w2.heap.size w2 w3 := by rw [← hw3]; exact below_drewN HBR.out _
      have HB3 := Lib.hid hb3
      clear hb3 hw3
      go_wp2_with fail
      exact ⟨⟨i + 1, by omega, by push_cast; rfl, HB3.out⟩, by simp [intOf]; omega⟩
    · obtain rfl : i = by_.length := by omega
      have hlt' : ¬ (by_.length : Int) < (by_.length : Int) := by omega
      go_wp2_with fail
      go_ret
      exact ⟨rfl, HB2.out.trans (HBR.out.mono HB2.out.size)⟩
end Go.Proofs.YtbjkljmhhpoooaaDoor
