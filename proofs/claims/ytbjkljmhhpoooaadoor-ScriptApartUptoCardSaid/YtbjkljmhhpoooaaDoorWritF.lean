/- What script.written returns of an entry of the last kind: its bytes by two signs each. -/
import Derived.Test.YtbjkljmhhpoooaaDoorWrit
import Derived.Laws.BytesArg
namespace Go.Proofs.YtbjkljmhhpoooaaDoor
open Go.RowKit
set_option linter.unusedVariables false

theorem hex2_len (l : List Nat) : (l.flatMap hex2).length = 2 * l.length := by
  induction l with
  | nil => rfl
  | cons x l ih => simp only [List.flatMap_cons, List.length_append, ih, List.length_cons]; show 2 + _ = _; omega
theorem WMem.drew {w W : World} {e : Ent} {A : Option Addr} {c bx bs : Nat} {s : ByteArray} (h : WMem w W e A c bx bs s) : WMem w W.drew e A c bx bs s :=
  ⟨h.box, h.str, h.hbx, h.hbs, h.ne, ⟨h.below.os, h.below.tape, h.below.output, h.below.size, h.below.block⟩⟩
theorem hex_step (X : ByteArray) (l : List Nat) (i x : Nat) (hi : i < l.length) (hx : l.getD i 0 = x) : X ++ strB ((l.take i).flatMap hex2) ++ ⟨#[hexD (x / 16), hexD (x % 16)]⟩ = X ++ strB ((l.take (i + 1)).flatMap hex2) := by
  have hg : l[i] = x := by rw [← hx, List.getD_eq_getElem?_getD, List.getElem?_eq_getElem hi]; rfl
  apply ByteArray.ext
  apply Array.toList_inj.1
  rw [List.take_succ_eq_append_getElem hi, hg]
  simp [strB, hex2, ByteArray.data_append]
theorem hexD_get : ∀ (p : Fin 16) h, (⟨#[48, 49, 50, 51, 52, 53, 54, 55, 56, 57, 97, 98, 99, 100, 101, 102]⟩ : ByteArray)[p.val]'h = hexD p.val := by decide
theorem conv_two (w : World) (P Q : UInt8) : (convert 22 9 (.slice (some ⟨w.heap.size, 0, none⟩) 2 2)).run Tryd.prog (w.alloc (.cells #[.int .u8 ((P.toNat : Nat) : Int), .int .u8 ((Q.toNat : Nat) : Int)] 5)).drew = .ok (.string ⟨#[P, Q]⟩) (w.alloc (.cells #[.int .u8 ((P.toNat : Nat) : Int), .int .u8 ((Q.toNat : Nat) : Int)] 5)).drew := by
  have h := run_convert_bytes_arg (P := Tryd.prog) (w.alloc (.cells #[.int .u8 ((P.toNat : Nat) : Int), .int .u8 ((Q.toNat : Nat) : Int)] 5)).drew 22 5 Tryd.underlying22 Tryd.underlying5 w.heap.size 0 2 2 [((P.toNat : Nat) : Int), ((Q.toNat : Nat) : Int)] rfl (fun i hi => by
    refine cell_of_heap (w := (w.alloc (.cells #[.int .u8 ((P.toNat : Nat) : Int), .int .u8 ((Q.toNat : Nat) : Int)] 5)).drew) (alloc_at rfl) ?_
    rcases i with _ | _ | i
    · rfl
    · rfl
    · omega) 9 Tryd.underlying9
  rw [h]
  simp [strOfNums]
set_option maxRecDepth 100000 in
set_option maxHeartbeats 1000000 in
theorem written_forge (e : Ent) (he : Small e) (hne : e.kind = 13) (A : Option Addr) (c : Nat) (w : World) (V o cap : Nat) (F : Nat → Option Addr) (C : Nat → Nat) (hv : VerbsAt V o cap F C w) (hp : PowAt w)
    (hb : 0 < e.by_.length → ∃ b o, A = some ⟨b, o, none⟩ ∧ b < w.heap.size ∧ ∀ j, j < e.by_.length → w.cell? ⟨b, o + j, none⟩ = some (.int .u8 ((e.by_.getD j 0 : Nat) : Int))) :
    Calls Tryd.prog 31 #[.agg (entArr e A c)] w fun e' w' => e' = .returned (.string (strB (writW e))) ∧ Below w.heap.size w w' := by
  go_enter Tryd.func31, Tryd.ntmps31
  have HNE := Lib.hid hne
  clear hne
  obtain ⟨k, hk⟩ : ∃ k, e.kind = k + 1 := ⟨e.kind - 1, by have := he.kind1; omega⟩
  have hk13 : k < 13 := by have := he.kind2; omega
  have hg := cell_alloc hv.g (.cells (entArr e A c) 25)
  have hw := cell_alloc (hv.word k hk13) (.cells (entArr e A c) 25)
  rw [Nat.mul_comm] at hw
  have hv0 := words_len ⟨k, hk13⟩
  simp only at hv0
  generalize hvw : vWords.getD k ByteArray.empty = vw at hw hv0
  have hkk : e.kind - 1 = k := by omega
  unfold writW
  rw [hkk, hvw]
  have h1 : IntKind.i64.wrap (((e.kind : Nat) : Int) - 1) = (k : Int) := by rw [hk, IntKind.wrap]; simp [IntKind.bits, IntKind.signed]; omega
  have h2 : (k : Int) < 13 := by omega
  have HB := Lib.hid hb
  have HV := Lib.hid hv
  have HP := Lib.hid hp
  have HE := Lib.hid he
  have hb0 : Below w.heap.size w (w.alloc (.cells (entArr e A c) 25)) := (Below.refl _ _).alloc (Nat.le_refl _) _
  have HB0 := Lib.hid hb0
  have HK := Lib.hid hk
  clear hb hv hp he hb0 hk hkk hvw
  unfold entArr at hg hw ⊢
  go_upto_region 3 with (fail)
  generalize hW : World.alloc (World.alloc w _) _ = W
  have wm : WMem w W e A c w.heap.size (w.heap.size + 1) vw := by
    subst hW
    refine ⟨alloc_old (alloc_at rfl), alloc_at (by simp), Nat.le_refl _, by omega, by omega, ?_⟩
    exact HB0.out.alloc HB0.out.size _
  generalize w.heap.size + 1 = bs at wm ⊢
  generalize w.heap.size = bx at wm ⊢
  clear hW hg hw h1
  have WM := Lib.hid wm
  obtain ⟨kind, site, ea, eb, ec, ch, by_, err⟩ := e
  have hc0 := wm.cells 0 (.int .i64 (kind : Int)) rfl
  have hc1 := wm.cells 1 (.int .i64 (site : Int)) rfl
  have hc2 := wm.cells 2 (.int .i64 (ea : Int)) rfl
  have hc3 := wm.cells 3 (.int .i64 (eb : Int)) rfl
  have hc4 := wm.cells 4 (.int .i64 (ec : Int)) rfl
  have hc5 := wm.cells 5 (.int .u8 (ch : Int)) rfl
  have hc6 := wm.cells 6 (.slice A by_.length c) rfl
  clear wm
  obtain rfl : kind = 13 := HNE.out
  obtain rfl : k = 12 := by have := HK.out; simp at this; omega
  clear hk13 h2
  replace hc0 : W.cell? ⟨bx, 0, none⟩ = some (.int .i64 13) := hc0
  go_wp2_with fail
  refine (put_nat WM.out HP.out [site] 1 rfl (fun x hx => ?_) (by simp) (by omega) _ rfl).mono ?_
  · have h := HE.out
    simp only [List.mem_cons, List.not_mem_nil, or_false] at hx
    rcases hx with rfl
    · exact h.site
  rintro e' w1 ⟨rfl, wm1⟩
  obtain ⟨hs1, hf1⟩ := wm1.scell
  have hz1 : (vw ++ strB (numsW (intsN [site]))).size ≤ 1000 := by
    rw [ByteArray.size_append]
    have := nums_len [site] (fun x hx => by
      have h := HE.out
      simp only [List.mem_cons, List.not_mem_nil, or_false] at hx
      rcases hx with rfl
      · exact h.site
      )
    have e : (strB (numsW (intsN [site]))).size = (numsW (intsN [site])).length := rfl
    simp only [List.length_cons, List.length_nil] at this
    omega
  have hst := strB_add vw (numsW (intsN [site]))
  generalize vw ++ strB (numsW (intsN [site])) = X at wm1 hs1 hz1 hst
  have h5 := wm1.cells 5 (.int .u8 (ch : Int)) rfl
  have h6 := wm1.cells 6 (.slice A by_.length c) rfl
  have HST := Lib.hid hst
  have WM1 := Lib.hid wm1
  clear wm1 hst
  have hx0 : ¬ 9223372036854775807 < X.size + 1 := by omega
  have hx1 : ¬ 9223372036854775807 < X.size + 1 + 1 := by omega
  have hx2 : ¬ 9223372036854775807 < X.size + 2 := by omega
  obtain ⟨g1, -⟩ : w1.heap.size = w1.heap.size ∧ True := ⟨rfl, trivial⟩
  have hxs : X.size + 1 ≤ 1001 := by omega
  by_cases hl0 : by_ = []
  · subst hl0
    go_upto_region 24 with (fail)
    generalize hW2 : World.setCell (World.setCell w1 _ _) _ _ = W2
    have wm2 : WMem w W2 ⟨13, site, ea, eb, ec, ch, [], err⟩ A c bx bs (X ++ ⟨#[32]⟩ ++ ⟨#[45]⟩) := by rw [← hW2]; exact (WM1.out.set _).set _
    clear hW2 h5 h6 hs1 hf1
    have WM2 := Lib.hid wm2
    have hs2 := wm2.scell.1
    have h6 := wm2.cells 6 (.slice A 0 c) rfl
    clear wm2
    go_wp2_with fail
    go_loopw [90] (fun vi wr => vi = .int .i64 0 ∧ wr = W2) (fun _ _ => 0)
    case atStart => exact ⟨rfl, rfl⟩
    case round =>
      obtain ⟨rfl, rfl⟩ := hrel
      go_wp2_with fail
      go_ret
      refine ⟨ret_str ?_, WM2.out.below⟩
      rw [HST.out]
      show strB (vw.data.toList ++ numsW (intsN [site])) ++ strB [32] ++ strB [45] = _
      rw [strB_add, strB_add]
      simp [strB, tailW, bytesW, intsN, numsW]
  · have HL0 := Lib.hid hl0
    have hl0' : ((by_.length : Int) == 0) = false := by simp; exact hl0
    go_upto_region 24 with (fail)
    generalize hW2 : World.setCell w1 _ _ = W2
    have wm2 : WMem w W2 ⟨13, site, ea, eb, ec, ch, by_, err⟩ A c bx bs (X ++ ⟨#[32]⟩) := by rw [← hW2]; exact WM1.out.set _
    clear hW2 h5 h6 hs1 hf1
    have h6 := wm2.cells 6 (.slice A by_.length c) rfl
    have hX2 : (X ++ ⟨#[32]⟩).size ≤ 1001 := by rw [ByteArray.size_append]; exact hxs
    have hX3 : X ++ ⟨#[32]⟩ = strB (vw.data.toList ++ (numsW (intsN [site]) ++ [32])) := by
      rw [HST.out]
      show strB (vw.data.toList ++ numsW (intsN [site])) ++ strB [32] = _
      rw [strB_add]
      simp [strB]
    generalize X ++ ⟨#[32]⟩ = X2 at wm2 hX2 hX3
    obtain ⟨b, o2, rfl, hbl, hbc⟩ := HB.out (by cases by_ with | nil => exact absurd rfl HL0.out | cons _ _ => simp)
    have HBC := Lib.hid hbc
    have HX3 := Lib.hid hX3
    have WM2 := Lib.hid wm2
    clear wm2 hbc hX3 hl0 hx0 hx1 hx2 hxs hz1
    go_wp2_with fail
    go_loopw [90] (fun vi wr => ∃ i : Nat, i ≤ by_.length ∧ vi = .int .i64 (i : Int) ∧ WMem w wr ⟨13, site, ea, eb, ec, ch, by_, err⟩ (some ⟨b, o2, none⟩) c bx bs (X2 ++ strB ((by_.take i).flatMap hex2))) (fun vi _ => by_.length - (intOf vi).toNat)
    case atStart => exact ⟨0, Nat.zero_le _, rfl, by rw [List.take_zero]; exact (numsW_nil X2).symm ▸ WM2.out⟩
    case round =>
      obtain ⟨i, hi, rfl, wmr⟩ := hrel
      by_cases hlt : i < by_.length
      · have hlt' : (i : Int) < (by_.length : Int) := by omega
        have hlen : by_.length ≤ 1048576 := HE.out.len
        have hw64 : wrap64 ((i : Int) + 1) = (i : Int) + 1 := by unfold wrap64; omega
        have hci : wr.cell? ⟨b, o2 + i, none⟩ = some (.int .u8 ((by_.getD i 0 : Nat) : Int)) := (wmr.below.cell (p := ⟨b, o2 + i, none⟩) hbl).trans (HBC.out i hlt)
        have hx256 : by_.getD i 0 < 256 := by
          rw [List.getD_eq_getElem?_getD, List.getElem?_eq_getElem hlt]
          exact HE.out.bytes _ (List.getElem_mem hlt)
        generalize hxx : by_.getD i 0 = x at hci hx256
        have hYz : (X2 ++ strB ((by_.take i).flatMap hex2)).size ≤ 1001 + 2 * 1048576 := by
          rw [ByteArray.size_append]
          have h1 : (strB ((by_.take i).flatMap hex2)).size = 2 * i := by
            show ((by_.take i).flatMap hex2).length = 2 * i
            rw [hex2_len, List.length_take, Nat.min_eq_left hi]
          have := HE.out.len
          simp only at this
          omega
        generalize hYY : X2 ++ strB ((by_.take i).flatMap hex2) = Y at wmr hYz
        have WMR := Lib.hid wmr
        have HXX := Lib.hid hxx
        have HYY := Lib.hid hYY
        have hsy := wmr.scell.1
        have hsy2 : wr.drew.cell? ⟨bs, 0, none⟩ = some (.string Y) := hsy
        have hsy4 : ∀ ob, (wr.alloc ob).drew.cell? ⟨bs, 0, none⟩ = some (.string Y) := fun ob => cell_alloc hsy ob
        have hfy4 : ∀ ob, (wr.alloc ob).drew.frozen? ⟨bs, 0, none⟩ = false := fun ob => frozen_of_heap (w := (wr.alloc ob).drew) (wmr.alloc ob).str
        obtain ⟨p, hpx⟩ : ∃ p : Nat, x / 16 = p := ⟨_, rfl⟩
        obtain ⟨q, hqx⟩ : ∃ q : Nat, x % 16 = q := ⟨_, rfl⟩
        have hp16 : p < 16 := by omega
        have hq16 : q < 16 := by omega
        have hpi : (x : Int) / 16 = (p : Int) := by omega
        have hqi : (x : Int) % 16 = (q : Int) := by omega
        have hp0 : (0 : Int) ≤ (p : Int) := by omega
        have hp1 : (p : Int) < 16 := by omega
        have hq0 : (0 : Int) ≤ (q : Int) := by omega
        have hq1 : (q : Int) < 16 := by omega
        have HPX := Lib.hid hpx
        have HQX := Lib.hid hqx
        have hgp : ∀ h, (⟨#[48, 49, 50, 51, 52, 53, 54, 55, 56, 57, 97, 98, 99, 100, 101, 102]⟩ : ByteArray)[p]'h = hexD p := hexD_get ⟨p, hp16⟩
        have hgq : ∀ h, (⟨#[48, 49, 50, 51, 52, 53, 54, 55, 56, 57, 97, 98, 99, 100, 101, 102]⟩ : ByteArray)[q]'h = hexD q := hexD_get ⟨q, hq16⟩
        generalize hPP : hexD p = P at hgp
        generalize hQQ : hexD q = Q at hgq
        have HPP := Lib.hid hPP
        have HQQ := Lib.hid hQQ
        have hcv := conv_two wr P Q
        have hz2 : ¬ 9223372036854775807 < Y.size + 2 := by omega
        clear wmr hxx hYY hpx hqx hPP hQQ
        go_wp2_with fail
        go_region
        go_wp2_with fail
        have hst := hex_step X2 by_ i x hlt HXX.out
        rw [HYY.out, HPX.out, HQX.out, HPP.out, HQQ.out] at hst
        exact ⟨⟨i + 1, by omega, by push_cast; rfl, hst ▸ ((WMR.out.alloc _).set _).drew⟩, by simp [intOf]; omega⟩
      · obtain rfl : i = by_.length := by omega
        have hlt' : ¬ (by_.length : Int) < (by_.length : Int) := by omega
        rw [List.take_length] at wmr
        have hs2 := wmr.scell.1
        have WMR := Lib.hid wmr
        clear wmr
        go_wp2_with fail
        go_ret
        refine ⟨ret_str ?_, WMR.out.below⟩
        rw [HX3.out, strB_add]
        have hne : ¬ by_ = [] := HL0.out
        simp [strB, tailW, bytesW, intsN, numsW, hne]
/-- THE CONTRACT OF written. -/
theorem written_calls (e : Ent) (he : Small e) (A : Option Addr) (c : Nat) (w : World) (V o cap : Nat) (F : Nat → Option Addr) (C : Nat → Nat) (hv : VerbsAt V o cap F C w) (hp : PowAt w)
    (hb : 0 < e.by_.length → ∃ b o, A = some ⟨b, o, none⟩ ∧ b < w.heap.size ∧ ∀ j, j < e.by_.length → w.cell? ⟨b, o + j, none⟩ = some (.int .u8 ((e.by_.getD j 0 : Nat) : Int))) :
    Calls Tryd.prog 31 #[.agg (entArr e A c)] w fun e' w' => e' = .returned (.string (strB (writW e))) ∧ Below w.heap.size w w' := by
  by_cases h : e.kind = 13
  · exact written_forge e he h A c w V o cap F C hv hp hb
  · exact written_low e he h A c w V o cap F C hv hp
end Go.Proofs.YtbjkljmhhpoooaaDoor
