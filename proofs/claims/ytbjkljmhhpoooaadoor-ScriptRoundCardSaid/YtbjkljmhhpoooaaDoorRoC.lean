/-
  jotterlaw15.ScriptRound: from Parse's return to its own.
-/
import Derived.Test.YtbjkljmhhpoooaaDoorRoB
namespace Go.Proofs.YtbjkljmhhpoooaaDoor
open Go.Conc Go.Co Go.Proofs Go.RowKit
set_option linter.unusedVariables false

theorem bytes_abv {w0 w : World} {A : Option Addr} {bs : List Nat} (h : BytesRd w0 A bs) (ha : Abv w0.heap.size w0 w) : BytesRd w A bs := by
  rcases h with h | ⟨ad, h1, h3⟩
  · exact .inl h
  · refine .inr ⟨ad, h1, fun j hj => ?_⟩
    rw [World.cell?_of_block (w := w0) (ha.block _ (World.block_lt_of_cell? w0 _ (h3 j hj)))]
    exact h3 j hj

theorem ent_own_at {w : World} {lo g i c : Nat} {es : List Ent} {Y : Ent} (h : EntsAt w lo (.slice (some ⟨g, 0, none⟩) es.length c) es) (hY : es[i]? = some Y) :
    g < w.heap.size ∧ ∃ AY cY, w.ownsRow lo 5 1 (.slice AY Y.by_.length cY) Y.by_.length (u8s Y.by_) ∧ w.rangeAt g (i * 8) (entArr Y AY cY).toList := by
  obtain ⟨L, hL, hrow⟩ := h
  rcases hrow.2 with ⟨hv, h0⟩ | ⟨g', cap, cur, hv, hg, hh, hc, hm, hs, ht⟩
  · injection hv with h1; cases h1
  injection hv with h1 h2 h3
  injection h1 with h1
  injection h1 with h1
  subst h1 h3
  have hi : i < es.length := (List.getElem?_eq_some_iff.1 hY).1
  obtain ⟨V, ⟨bv, hV, ho⟩, hj⟩ := entsC_at hL i Y hY
  obtain ⟨A', c', rfl⟩ := own_form ho
  refine ⟨(Array.getElem?_eq_some_iff.1 hh).1, A', c', ho, fun j v hv => ?_⟩
  have hj8 : j < 8 := by
    have := (List.getElem?_eq_some_iff.1 hv).1
    simpa [entArr] using this
  have h5 : L[i * 8 + j]? = some v := by rw [hj j hj8, hV]; exact hv
  refine cell_of_heap hh ?_
  rw [← ht, List.getElem?_take_of_lt (by omega)] at h5
  rw [← Array.getElem?_toList]
  exact h5

section
variable (cl n1 : Int) (P : Option Addr) (n cp : Nat) (R : RawE) (AR : Option Addr) (cR : Nat)
set_option maxRecDepth 100000 in
set_option maxHeartbeats 4000000 in
theorem pieceF (w0 w : World) (n0 N : Nat) (es : List Ent) (hn0 : w0.heap.size = n0) (hn1 : i64 n1) (hR : RawE.Ok R) (hRl : R.bs.length ≤ cR) (hRn : AR = none → cR = 0) (hRb : BytesRd w0 AR R.bs)
    (hM : MB cl P n cp R AR cR w0 w n0 N es) (pr lo2 : Nat) (svr : Value) (hpr : w.heap[pr]? = some (.cells #[.int .i64 (N : Int), svr] 31 (0, 0))) (hE2 : EntsAt w lo2 svr es) (m : Int) (V o cap : Nat) (F : Nat → Option Addr) (C : Nat → Nat)
    (hm : w0.cell? ⟨4, 0, none⟩ = some (.int .i64 m)) (hv : VerbsAt V o cap F C w0) (hp : PowAt w0) (x0 x2 x3 x4 x6 x8 x12 x13 x14 x15 x16 x17 x18 x19 x20 x21 x22 x23 x24 x25 x26 x27 x28 x29 x30 x31 x32 x33 x34 x35 x36 x37 x38 x39 x40 x41 x42 x43 x44 x45 x46 x47 x48 x49 x50 x51 x52 x53 x54 x55 x56 x57 x58 x59 x60 x61 x62 x63 x64 x65 x66 x67 x68 x69 x70 x71 x72 x73 x74 x75 x76 x77 x78 x79 x80 x81 x82 x83 x84 x85 x86 x87 x88 x89 x90 x91 x92 x93 x94 x95 x96 x97 x98 x99 x100 x101 x102 x103 x104 : Value) :
    cF.wp Tryd.prog (fun e a' w' => match e with | .ret => ∃ T, a' = ⟨T, []⟩ ∧ T[6]? = some (.bool true) ∧ Below n0 w w' | _ => False) ⟨List.toArray (x0 :: .int .i64 n1 :: x2 :: x3 :: x4 :: .pointer (some ⟨n0 + 1, 0, none⟩) :: x6 :: .pointer (some ⟨n0 + 2, 0, none⟩) :: x8 :: .string (strB (planW N (es.map writW))) :: .nilIface :: .pointer (some ⟨pr, 0, none⟩) :: x12 :: x13 :: x14 :: x15 :: x16 :: x17 :: x18 :: x19 :: x20 :: x21 :: x22 :: x23 :: x24 :: x25 :: x26 :: x27 :: x28 :: x29 :: x30 :: x31 :: x32 :: x33 :: x34 :: x35 :: x36 :: x37 :: x38 :: x39 :: x40 :: x41 :: x42 :: x43 :: x44 :: x45 :: x46 :: x47 :: x48 :: x49 :: x50 :: x51 :: x52 :: x53 :: x54 :: x55 :: x56 :: x57 :: x58 :: x59 :: x60 :: x61 :: x62 :: x63 :: x64 :: x65 :: x66 :: x67 :: x68 :: x69 :: x70 :: x71 :: x72 :: x73 :: x74 :: x75 :: x76 :: x77 :: x78 :: x79 :: x80 :: x81 :: x82 :: x83 :: x84 :: x85 :: x86 :: x87 :: x88 :: x89 :: x90 :: x91 :: x92 :: x93 :: x94 :: x95 :: x96 :: x97 :: x98 :: x99 :: x100 :: x101 :: x102 :: x103 :: x104 :: []), []⟩ w := by
  simp only [cF, bodyRo, Tryd.f4, Option.getD_some]
  obtain ⟨svq, hq, hE⟩ := hM.hq
  obtain ⟨A, c, rfl, hin, hgA⟩ := ents_in hE
  obtain ⟨B, c2, rfl, hin2, _⟩ := ents_in hE2
  have hlen := hM.len
  have hsize := hM.size
  have hal := alike_plans N es (fun e he => by have := (hM.all e he).facts.2; omega) (by omega) B A c2 c w hin2 hin
  have ha0 := cell_of_heap (i := 0) hpr (v := .int .i64 (N : Int)) rfl
  have ha1 := cell_of_heap (i := 1) hpr (v := .slice B es.length c2) rfl
  have hb0 := cell_of_heap (i := 0) hq (v := .int .i64 (N : Int)) rfl
  have hb1 := cell_of_heap (i := 1) hq (v := .slice A es.length c) rfl
  have HM := Lib.hid hM
  have HAL := Lib.hid hal
  have HE := Lib.hid hE
  have HQ := Lib.hid hq
  have HMX := Lib.hid hm
  have HV := Lib.hid hv
  have HP := Lib.hid hp
  have HBY := Lib.hid (bytes_abv hRb (by rw [hn0]; exact hM.abv))
  have HGA := Lib.hid hgA
  have HR := Lib.hid hR
  have HRN := Lib.hid hRn
  clear hM hal hE hq hm hv hp hRb hgA hin hin2 hpr hE2 hR hRn
  go_wp2_with fail
  refine HAL.out.mono ?_
  rintro e' w1 ⟨rfl, hbl1⟩
  have HB1 := Lib.hid hbl1
  have HM1 := Lib.hid (HM.out.keep (Abv.of_below hbl1))
  have hq1 := (hbl1.block (n0 + 2) (by omega)).trans HQ.out
  have HQ1 := Lib.hid hq1
  have HE1 := Lib.hid (HE.out.below hbl1)
  have hs1 := hbl1.size
  have hc1 := cell_of_heap (i := 1) hq1 (v := .slice A es.length c) rfl
  clear hbl1 hq1 ha0 ha1 hb0 hb1
  by_cases hes : es = []
  · have h0 : ((es.length : Int) == 0) = true := by rw [hes]; rfl
    clear hes
    go_wp2_with fail
    exact HB1.out.mono (by omega)
  · have hpos : 0 < es.length := List.length_pos_iff.2 hes
    have h0 : ((es.length : Int) == 0) = false := by simp; omega
    obtain ⟨g, rfl, hlog⟩ := HGA.out hes
    have hw64 : IntKind.i64.wrap ((es.length : Int) - 1) = ((es.length - 1 : Nat) : Int) := by rw [IntWalk.i64_in _ (by omega)]; omega
    have HES := Lib.hid hes
    clear hes
    go_wp2_with fail
    refine (within_nat n1 0 (es.length - 1) hn1 (Nat.zero_le _) (by omega) _).mono ?_
    rintro e' w2 ⟨i, rfl, hi1, hi2, rfl⟩
    obtain ⟨Y, hY⟩ : ∃ Y, es[i]? = some Y := ⟨_, List.getElem?_eq_getElem (by omega)⟩
    have hiL : i < es.length := by omega
    have HYI := Lib.hid hY
    have HI := Lib.hid hi2
    clear hi1 hi2 hY hc1
    go_wp2_with (refine wpList_load_block rfl 25 _ rfl (n0 + 1) (rawArr R AR cR) _ rfl HM1.out.he (by kernel_rfl) (by kernel_rfl) ?_)
    refine (law_entry R HR.out AR cR w2 hRl HRN.out (bytesRd_below HBY.out HB1.out)).mono ?_
    rintro e' w4 ⟨X, hX, hent⟩
    obtain ⟨A4, c4, rfl, ho4, hbl4⟩ := hent.lay
    have hs4 := hbl4.size
    obtain ⟨hgl, AY, cY, hYb, hYr⟩ := ent_own_at HE1.out HYI.out
    have hone : (entArr X A4 c4).toList.all (·.oneCell') = true := rfl
    have HONE := Lib.hid (show (entArr X A4 c4).all (·.oneCell') = true by rw [← Array.all_toList]; exact hone)
    have HB4 := Lib.hid hbl4
    clear hone
    have HO4 := Lib.hid ho4
    have HYB := Lib.hid hYb
    have HYR := Lib.hid hYr
    have HX := Lib.hid hX
    clear hbl4 ho4 hYb hYr hX hent
    have hi64 : (i : Int) < (es.length : Int) := by omega
    go_wp2_with (first
      | (refine wpList_store_block rfl 25 _ _ rfl w4.heap.size (entArr X A4 c4) zeroCells8 _ rfl rfl (alloc_at rfl) rfl (by kernel_rfl) rfl ?_; intro w5 hw5; have hb5 : Below w4.heap.size w4 w5 := ((Below.refl _ w4).alloc (Nat.le_refl _) _).trans (hw5.below (Nat.le_refl _)); have hb25 : Below w2.heap.size w2 w5 := HB4.out.trans (hb5.mono HB4.out.size); have hc5 := cell_of_heap (i := 1) ((hb25.block (n0 + 2) (by omega)).trans HQ1.out) (v := .slice (some ⟨g, 0, none⟩) es.length c) rfl; have HX5 := Lib.hid hw5.at_; have hlt5 : w4.heap.size < w5.heap.size := (Array.getElem?_eq_some_iff.1 hw5.at_).1; have HB45 := Lib.hid hb5; have HB25 := Lib.hid hb25; clear hw5 hb5 hb25)
      | (refine wpList_load_at rfl 25 _ rfl g (i * 8) (entArr Y AY cY) rfl (range_below HYR.out hgl HB25.out) (by kernel_rfl) (by kernel_rfl) ?_)
      | (refine wpList_store_block rfl 25 _ _ rfl w5.heap.size (entArr Y AY cY) zeroCells8 _ rfl rfl (alloc_at rfl) rfl (by kernel_rfl) rfl ?_; intro w6 hw6; have hb6 : Below w5.heap.size w5 w6 := ((Below.refl _ w5).alloc (Nat.le_refl _) _).trans (hw6.below (Nat.le_refl _)); have hb26 : Below w2.heap.size w2 w6 := HB25.out.trans (hb6.mono HB25.out.size); have hc6 := cell_of_heap (i := 1) ((hb26.block (n0 + 2) (by omega)).trans HQ1.out) (v := .slice (some ⟨g, 0, none⟩) es.length c) rfl; have HX6 := Lib.hid ((hb6.block w4.heap.size hlt5).trans HX5.out); have HY6 := Lib.hid hw6.at_; have hlt6 : w5.heap.size < w6.heap.size := (Array.getElem?_eq_some_iff.1 hw6.at_).1; have HB56 := Lib.hid hb6; have HB26 := Lib.hid hb26; obtain ⟨_, hth, w7, hw7, hin7, hbk7, ho7, ht7, hp7, hs7, hk7⟩ := ents_set (HE1.out.below hb26) hiL (own_below HO4.out (HB45.out.trans (hb6.mono HB45.out.size))); have HTH := Lib.hid hth; have HW7 := Lib.hid hw7; have hb67 : Below (n0 + 3) w6 w7 := ⟨ho7, ht7, hp7, by rw [hs7]; exact Nat.le_refl _, fun k hk => hk7 k (by omega)⟩; have HB67 := Lib.hid hb67; have hq7 := (hb67.block (n0 + 2) (by omega)).trans ((hb26.block (n0 + 2) (by omega)).trans HQ1.out); have HQ7 := Lib.hid hq7; have HX7 := Lib.hid ((hk7 w4.heap.size (by omega)).trans HX6.out); have HY7 := Lib.hid ((hk7 w5.heap.size (by omega)).trans HY6.out); have HIN7 := Lib.hid hin7; have HBK7 := Lib.hid hbk7; have HS7 := Lib.hid hs7; clear hw6 hb6 hb26 hth hw7 hin7 hbk7 ho7 ht7 hp7 hs7 hk7 hb67 hq7)
      | (refine wpList_load_block rfl 25 _ rfl w4.heap.size (entArr X A4 c4) _ rfl HX6.out (by kernel_rfl) (by kernel_rfl) ?_)
      | (refine wpList_store_mid rfl 25 _ _ rfl g (i * 8) (entArr X A4 c4) rfl rfl HTH.out (by kernel_rfl) HONE.out ?_; rw [HW7.out])
      | (refine wpList_load_block rfl 31 _ rfl (n0 + 2) _ _ rfl HQ7.out (by kernel_rfl) (by kernel_rfl) ?_))
    have hall7 : ∀ e ∈ es.set i X, Meant e := fun e he => (List.mem_or_eq_of_mem_set he).elim (HM.out.all e) (fun h => h ▸ HX.out)
    have hlen7 : (es.set i X).length = es.length := List.length_set
    have hz := planW_len N HM.out.hN2 (es.set i X) hall7
    have hb07 : Below n0 w w7 := (HB1.out.mono (by omega)).trans ((HB26.out.mono (by omega)).trans (HB67.out.mono (by omega)))
    have hA7 : Abv w0.heap.size w0 w7 := by rw [hn0]; exact HM.out.abv.trans (Abv.of_below hb07)
    have hpr := print_good N HM.out.hN1 HM.out.hN2 (es.set i X) hall7 (by omega) (by omega) (some ⟨g, 0, none⟩) c w7 m V o cap F C (cell_abv HMX.out hA7) (verbs_abv HV.out hA7) (pow_abv w0 HP.out hA7) HIN7.out
    rw [hlen7] at hpr
    refine hpr.mono ?_
    rintro e' w8 ⟨rfl, hb8⟩
    have hs7 := HS7.out
    have hX8 := (hb8.block w4.heap.size (by omega)).trans HX7.out
    have hY8 := (hb8.block w5.heap.size (by omega)).trans HY7.out
    have hb67 : Below w6.heap.size w6 w6 := Below.refl _ _
    have hb46 : Below w4.heap.size w4 w6 := HB45.out.trans (HB56.out.mono HB45.out.size)
    have hXb : BytesIn w8 A4 X.by_ := (own_in (own_kept (own_mono (own_below HO4.out hb46) (Nat.zero_le _)) HBK7.out)).below hb8
    have hYb : BytesIn w8 AY Y.by_ := (own_in (own_kept (own_mono (own_below HYB.out HB26.out) (Nat.zero_le _)) HBK7.out)).below hb8
    have hYm : Meant Y := HM.out.all Y (List.mem_of_getElem? HYI.out)
    have hXl : X.by_.length ≤ 1099511627776 := by have := HX.out.facts.2; omega
    obtain ⟨a0, a1, a2, a3, a4, a5, a6, a7⟩ := ent_cells hX8
    obtain ⟨b0, b1, b2, b3, b4, b5, b6, b7⟩ := ent_cells hY8
    have HB08 := Lib.hid (hb07.trans (hb8.mono (by have := hb07.size; omega)))
    have hs8 := HB08.out.size
    by_cases hxy : X = Y
    · subst hxy
      rw [text_same (N := N) HYI.out]
      have hal8 := alike_yes X A4 AY c4 cY w8 hXb hYb hXl
      have HAL8 := Lib.hid hal8
      clear hal8 hall7 hlen7 hz hb07 hA7 hpr hb8 hX8 hY8 hb67 hb46 hXb hYb hYm hXl
      generalize strB (planW N (es.map writW)) = tx
      go_wp2_with fail
      refine HAL8.out.mono ?_
      rintro e' w9 ⟨rfl, hb9⟩
      have HB9 := Lib.hid (HB08.out.trans (hb9.mono (by omega)))
      clear hb9
      go_wp2_with fail
      exact HB9.out
    · have hst := text_unlike (N := N) HYI.out HX.out hYm hxy
      have hal8 := alike_no X Y hxy A4 AY c4 cY w8 hXb hYb hXl
      have HAL8 := Lib.hid hal8
      clear hal8 hall7 hlen7 hz hb07 hA7 hpr hb8 hX8 hY8 hb67 hb46 hXb hYb hYm hXl
      generalize strB (planW N (es.map writW)) = tx at hst ⊢
      generalize strB (planW N ((es.set i X).map writW)) = ty at hst ⊢
      have hst2 : ¬ tx.toList = ty.toList := fun h => hst (by rw [Lib.toList_data, Lib.toList_data] at h; exact ByteArray.ext (Array.toList_inj.1 h))
      go_wp2_with fail
      refine HAL8.out.mono ?_
      rintro e' w9 ⟨rfl, hb9⟩
      have HB9 := Lib.hid (HB08.out.trans (hb9.mono (by omega)))
      clear hb9
      go_wp2_with fail
      exact HB9.out
end
end Go.Proofs.YtbjkljmhhpoooaaDoor
