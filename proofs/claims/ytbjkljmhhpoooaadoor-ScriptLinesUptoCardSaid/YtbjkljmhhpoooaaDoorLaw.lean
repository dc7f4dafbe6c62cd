/- The walk of jotterlaw15.ScriptLines. -/
import Derived.Test.YtbjkljmhhpoooaaDoorApp
namespace Go.Proofs.YtbjkljmhhpoooaaDoor
open Go.RowKit
set_option linter.unusedVariables false
theorem ff_below (w : World) : Below w.heap.size w (w.alloc (.cells #[.int .u8 255, .int .u8 238] 5)) := (Below.refl _ _).alloc (Nat.le_refl _) _
theorem ff_bytes (w : World) : BytesIn (w.alloc (.cells #[.int .u8 255, .int .u8 238] 5)) (some ⟨w.heap.size, 0, none⟩) 2 2 [255, 238] := by
  refine ⟨rfl, Nat.le_refl _, fun _ => ⟨_, 0, rfl, by simp, fun j hj => ?_⟩⟩
  have : j = 0 ∨ j = 1 := by omega
  rcases this with rfl | rfl
  · exact cell_of_heap (alloc_at rfl) rfl
  · exact cell_of_heap (alloc_at rfl) rfl
def two17 : Array Value := #[.int .u8 17, .int .u8 17]
theorem al_below (w : World) : Below w.heap.size w (w.alloc (.cells two17 5)) := (Below.refl _ _).alloc (Nat.le_refl _) _
set_option maxRecDepth 100000 in
set_option maxHeartbeats 2000000 in
theorem law_calls (s : ByteArray) (w : World) (m : Int) (V o cap : Nat) (F : Nat → Option Addr) (C : Nat → Nat) (hs : s.size ≤ 1048576) (hm : w.cell? ⟨4, 0, none⟩ = some (.int .i64 m)) (hv : VerbsAt V o cap F C w) :
    Calls Tryd.prog 3 #[.string s] w fun e w' => e = .returned (.bool true) ∧ Below w.heap.size w w' := by
  go_enter Tryd.func3, Tryd.ntmps3
  have hb0 : Below w.heap.size w w := Below.refl _ _
  have L1 := Lib.hid (line_one w m V o cap F C hm hv)
  have L2 := Lib.hid (line_two w m V o cap F C hm hv)
  have LS := fun w' => line_any w m V o cap F C hm hv s w' hs
  have LR := fun w' => (ref_calls s w' hs).mono fun _ _ h => h.out
  have hlen := lens s hs
  generalize lineS (wordsB s) = E at LS LR hlen
  have LSH := Lib.hid LS
  have LRH := Lib.hid LR
  have HB0 := Lib.hid hb0
  clear hb0 hm hv LS LR
  go_wp2_with fail
  -- the first literal
  refine (L1.out w HB0.out).mono ?_
  rintro e w1 ⟨A1, c1, rfl, ho1, hb1⟩
  go_wp2_with fail
  generalize hw2 : w1.alloc _ = w2
  obtain ⟨hv2, hb2⟩ := after_var hw2
  have HB2 := Lib.hid (hb1.trans (hb2.mono hb1.size))
  have HO2 := Lib.hid ((own_in ho1).below hb2)
  clear hb1 ho1 hb2 hv2 hw2
  generalize w1.heap.size = p3
  refine (alike_calls E1 A1 none c1 0 w2 HO2.out (nil_in _) (by decide)).mono ?_
  rintro e w3 ⟨rfl, hb3⟩
  have HB3 := Lib.hid (HB2.out.trans (hb3.mono HB2.out.size))
  clear hb3 HB2 HO2 w1
  go_wp2_with fail
  -- b
  refine (LRH.out w3).mono ?_
  rintro e w4 ⟨Ab, cb, rfl, hob, hb4⟩
  go_wp2_with fail
  generalize hw5 : w4.alloc _ = w5
  obtain ⟨rb, hb5⟩ := row_new hob hb4 hw5
  have HB5 := Lib.hid (HB3.out.trans ((hb4.trans (hb5.mono hb4.size)).mono HB3.out.size))
  have hlob := HB3.out.size
  generalize w3.heap.size = lob at rb hlob
  generalize w4.heap.size = pb at rb ⊢
  have RB := Lib.hid rb
  clear hob hb4 hb5 hw5 rb HB3 w4 w3
  -- a
  refine (LSH.out w5 HB5.out).mono ?_
  rintro e w6 ⟨Aa, ca, rfl, hoa, hb6⟩
  go_wp2_with fail
  generalize hw7 : w6.alloc _ = w7
  obtain ⟨ra, hb7⟩ := row_new hoa hb6 hw7
  have hb57 := hb6.trans (hb7.mono hb6.size)
  have HB7 := Lib.hid (HB5.out.trans (hb57.mono HB5.out.size))
  have RB7 := Lib.hid (RB.out.below hb57)
  have RA7 := Lib.hid ra
  clear hoa hb6 hb7 hw7 ra hb57 RB HB5
  generalize w6.heap.size = pa at RA7 ⊢
  -- f
  go_wp2_with fail
  refine (L2.out w7 HB7.out).mono ?_
  rintro e w8 ⟨Af, cf, rfl, hof, hb8⟩
  go_wp2_with fail
  generalize hw9 : w8.alloc _ = w9
  obtain ⟨rf, hb9⟩ := row_new hof hb8 hw9
  have hb79 := hb8.trans (hb9.mono hb8.size)
  have HB9 := Lib.hid (HB7.out.trans (hb79.mono HB7.out.size))
  have RB9 := Lib.hid (RB7.out.below hb79)
  have RA9 := Lib.hid (RA7.out.below hb79)
  have RF9 := Lib.hid rf
  clear hof hb8 hb9 hw9 rf hb79 RB7 RA7 HB7
  generalize w8.heap.size = pf at RF9 ⊢
  -- twice
  go_wp2_with fail
  refine (LSH.out w9 HB9.out).mono ?_
  rintro e w10 ⟨At, ct, rfl, hot, hb10⟩
  have la := (RA9.out.below hb10).var
  have lb := (RB9.out.below hb10).var
  have LA := Lib.hid la
  have LB := Lib.hid lb
  clear la lb
  go_wp2_with (first | (refine wpList_load_block rfl 25 _ rfl pa _ _ rfl (alloc_old LA.out) (by kernel_rfl) (by kernel_rfl) ?_) | (refine wpList_load_block rfl 25 _ rfl pb _ _ rfl (alloc_old LB.out) (by kernel_rfl) (by kernel_rfl) ?_))
  generalize hw11 : w10.alloc _ = w11
  obtain ⟨rt, hb11⟩ := row_new hot hb10 hw11
  have hb911 := hb10.trans (hb11.mono hb10.size)
  have HB11 := Lib.hid (HB9.out.trans (hb911.mono HB9.out.size))
  have RB11 := Lib.hid (RB9.out.below hb911)
  have RA11 := Lib.hid (RA9.out.below hb911)
  have RF11 := Lib.hid (RF9.out.below hb911)
  have RT11 := Lib.hid rt
  clear hot hb10 hb11 hw11 rt hb911 RB9 RA9 RF9 HB9
  have hx0 : w.heap.size ≤ lob := hlob
  have hx1 : lob < w5.heap.size := Nat.lt_of_le_of_lt RB11.out.low RB11.out.high
  have hx2 : w5.heap.size < w7.heap.size := Nat.lt_of_le_of_lt RA11.out.low RA11.out.high
  have hx3 : w7.heap.size < w9.heap.size := Nat.lt_of_le_of_lt RF11.out.low RF11.out.high
  have hx4 : w9.heap.size < w11.heap.size := Nat.lt_of_le_of_lt RT11.out.low RT11.out.high
  generalize w10.heap.size = pt at RT11 ⊢
  generalize w9.heap.size = x9 at *
  generalize w7.heap.size = x7 at *
  generalize w5.heap.size = x5 at *
  -- alike(a, b)
  refine (alike_calls E Aa Ab ca cb w11 RA11.out.bytes RB11.out.bytes (by omega)).mono ?_
  rintro e w12 ⟨rfl, hb12⟩
  have HB12 := Lib.hid (HB11.out.trans (hb12.mono HB11.out.size))
  have RB12 := Lib.hid (RB11.out.below hb12)
  have RA12 := Lib.hid (RA11.out.below hb12)
  have RF12 := Lib.hid (RF11.out.below hb12)
  have RT12 := Lib.hid (RT11.out.below hb12)
  have hx5 : w11.heap.size ≤ w12.heap.size := hb12.size
  clear hb12 RB11 RA11 RF11 RT11 HB11
  generalize w11.heap.size = x11 at *
  clear LA LB
  go_wp2_with fail
  -- a's bytes are written
  go_loopw [8] (fun vi wr => ∃ i : Nat, vi = .int .i64 (i : Int) ∧ i ≤ E.by_.length ∧ Row wr x5 x7 pa E Aa ca (mix 17 i E.by_) ∧ Only x5 x7 w12 wr) (fun vi _ => E.by_.length - (intOf vi).toNat)
  case atStart => exact ⟨0, rfl, Nat.zero_le _, by rw [mix_zero]; exact RA12.out, Only.refl _ _ _⟩
  case round =>
    obtain ⟨i, rfl, hi, hr, ho⟩ := hrel
    have hc6 : wr.cell? ⟨pa, 6, none⟩ = some (.slice Aa E.by_.length ca) := cell_of_heap hr.var rfl
    by_cases hlt : i < E.by_.length
    · obtain ⟨g, rfl, hg1, hg2⟩ := row_some hr (by omega)
      obtain ⟨hcg, hfg⟩ := hr.cell i hlt
      have hlt' : (i : Int) < (E.by_.length : Int) := by omega
      have hst := hr.set i 17
      rw [mix_step _ _ _ hlt] at hst
      have hon := ho.set (b := g) (i := i) hg1 (by have := hr.high; omega) (.int .u8 ((17 : Nat) : Int))
      have HST := Lib.hid hst
      have HON := Lib.hid hon
      clear hr ho hst hon
      go_wp2_with fail
      exact ⟨⟨i + 1, by push_cast; rfl, hlt, HST.out, HON.out⟩, by simp [intOf]; omega⟩
    · obtain rfl : i = E.by_.length := by omega
      rw [mix_end] at hr
      have hrb := (RB12.out.only ho (Or.inl (Nat.le_refl _))).below (al_below wr)
      have hrf := (RF12.out.only ho (Or.inr (Nat.le_refl _))).below (al_below wr)
      have hrt := (RT12.out.only ho (Or.inr (Nat.le_of_lt hx3))).below (al_below wr)
      have hra := hr.below (al_below wr)
      have hbw := HB12.out.trans ((ho.below (B := w.heap.size) (by omega)).trans ((al_below wr).mono (by rw [ho.size]; exact HB12.out.size)))
      have hsz : x11 ≤ wr.heap.size := by rw [ho.size]; exact hx5
      have HRB := Lib.hid hrb
      have HRF := Lib.hid hrf
      have HRT := Lib.hid hrt
      have HRA := Lib.hid hra
      have HBW := Lib.hid hbw
      clear hr ho hrb hrf hrt hra hbw
      have hlt' : ¬ (E.by_.length : Int) < (E.by_.length : Int) := by omega
      go_wp2_with (first | (at_builtin; go_loud (refine wpList_append_two _ rfl _ _ rfl HRA.out rfl (by omega) wr.heap.size rfl (cell_of_heap (alloc_at rfl) rfl) (cell_of_heap (alloc_at rfl) rfl) ?_; intro g c' w13 hfull hrow hg hgrown; have HF13 := Lib.hid hfull; have HRA13 := Lib.hid hrow; have HG := Lib.hid hg; have HRB13 := Lib.hid (HRB.out.grown hgrown (Or.inl (Nat.le_refl _))); have HRT13 := Lib.hid (HRT.out.grown hgrown (Or.inr (Nat.le_of_lt hx3))); have HRF13 := Lib.hid (HRF.out.grown hgrown (Or.inr (Nat.le_refl _))); have HBW13 := Lib.hid (HBW.out.trans (hgrown.below (B := w.heap.size) (by omega) (by simp; omega))); have hsz13 := hgrown.size; clear hfull hrow hg hgrown)) | (refine wpList_load_block rfl 25 _ rfl pt _ _ rfl HRT13.out.var (by kernel_rfl) (by kernel_rfl) ?_) | (refine wpList_load_block rfl 25 _ rfl pb _ _ rfl HRB13.out.var (by kernel_rfl) (by kernel_rfl) ?_))
      have hbn : BytesIn w13 At E.by_.length ct E.by_ := HRT13.out.bytes
      have hbb : BytesIn w13 Ab E.by_.length cb E.by_ := HRB13.out.bytes
      refine (alike_calls E At Ab ct cb w13 hbn hbb (by omega)).mono ?_
      rintro e w14 ⟨rfl, hb14⟩
      have HB14 := Lib.hid (HBW13.out.trans (hb14.mono HBW13.out.size))
      have RB14 := Lib.hid (HRB13.out.below hb14)
      have RA14 := Lib.hid (HRA13.out.below hb14)
      have RF14 := Lib.hid (HRF13.out.below hb14)
      have RT14 := Lib.hid (HRT13.out.below hb14)
      have FU14 := Lib.hid (HF13.out.keep (hb14.block g HF13.out.1) hb14.size)
      have hgx : g < x9 ∨ x11 ≤ g := by
        rcases HG.out with h | h
        · left; omega
        · right; simp at h; omega
      clear hb14 hbn hbb hc6 HRB HRF HRT HRA HBW HF13 HRA13 HG HRB13 HRT13 HRF13 HBW13 hsz13 hsz
      go_wp2_with fail
      -- twice's bytes are written
      go_loopw [10] (fun vi wr => ∃ i : Nat, vi = .int .i64 (i : Int) ∧ i ≤ E.by_.length ∧ Row wr x9 x11 pt E At ct (mix 34 i E.by_) ∧ Only x9 x11 w14 wr) (fun vi _ => E.by_.length - (intOf vi).toNat)
      case atStart => exact ⟨0, rfl, Nat.zero_le _, by rw [mix_zero]; exact RT14.out, Only.refl _ _ _⟩
      case round =>
        obtain ⟨i, rfl, hi, hr, ho⟩ := hrel
        have hc6 : wr.cell? ⟨pt, 6, none⟩ = some (.slice At E.by_.length ct) := cell_of_heap hr.var rfl
        by_cases hlt : i < E.by_.length
        · obtain ⟨gt, rfl, hg1, hg2⟩ := row_some hr (by omega)
          obtain ⟨hcg, hfg⟩ := hr.cell i hlt
          have hlt' : (i : Int) < (E.by_.length : Int) := by omega
          have hst := hr.set i 34
          rw [mix_step _ _ _ hlt] at hst
          have hon := ho.set (b := gt) (i := i) hg1 (by have := hr.high; omega) (.int .u8 ((34 : Nat) : Int))
          have HST := Lib.hid hst
          have HON := Lib.hid hon
          clear hr ho hst hon
          go_wp2_with fail
          exact ⟨⟨i + 1, by push_cast; rfl, hlt, HST.out, HON.out⟩, by simp [intOf]; omega⟩
        · obtain rfl : i = E.by_.length := by omega
          have hrb := RB14.out.only ho (Or.inl (by omega))
          have hrf := RF14.out.only ho (Or.inl (Nat.le_refl _))
          have hra := RA14.out.only ho (Or.inl (Nat.le_of_lt hx3))
          have hfu := FU14.out.keep (ho.other g hgx) (Nat.le_of_eq ho.size.symm)
          have hbw := HB14.out.trans (ho.below (B := w.heap.size) (by omega))
          have HRB := Lib.hid hrb
          have HRF := Lib.hid hrf
          have HRA := Lib.hid hra
          have HFU := Lib.hid hfu
          have HBW := Lib.hid hbw
          clear hr ho hrb hrf hra hfu hbw RB14 RA14 RF14 RT14 FU14 HB14
          have hlt' : ¬ (E.by_.length : Int) < (E.by_.length : Int) := by omega
          go_wp2_with fail
          -- again
          refine (LSH.out wr HBW.out).mono ?_
          rintro e w15 ⟨Ag, cg, rfl, hog, hb15⟩
          go_wp2_with fail
          generalize hw16 : w15.alloc _ = w16
          obtain ⟨rg, hb16⟩ := row_new hog hb15 hw16
          have hb156 := hb15.trans (hb16.mono hb15.size)
          have HBW6 := Lib.hid (HBW.out.trans (hb156.mono HBW.out.size))
          have HRB6 := Lib.hid (HRB.out.below hb156)
          have HRF6 := Lib.hid (HRF.out.below hb156)
          have HRA6 := Lib.hid (HRA.out.below hb156)
          have HFU6 := Lib.hid (HFU.out.keep (hb156.block g HFU.out.1) hb156.size)
          have HRG6 := Lib.hid rg
          clear hog hb15 hb16 hb156 hw16 rg HBW HRB HRF HRA HFU
          generalize wr.heap.size = xg at HRG6
          generalize w15.heap.size = pg at HRG6 ⊢
          go_loopw [12] (fun vi wq => ∃ i : Nat, vi = .int .i64 (i : Int) ∧ i ≤ E.by_.length + 2 ∧ wq = w16) (fun vi _ => E.by_.length + 2 - (intOf vi).toNat)
          case atStart => exact ⟨0, rfl, Nat.zero_le _, rfl⟩
          case round =>
            obtain ⟨i, rfl, hi, rfl⟩ := hrel
            have hc6 := cell_of_heap (i := 6) HRA6.out.var (v := .slice Aa E.by_.length ca) rfl
            by_cases hlt : i < E.by_.length + 2
            · have hg17 := HFU6.out.2 i hlt
              have hlt' : (i : Int) < (E.by_.length : Int) + 2 := by omega
              by_cases hla : i < E.by_.length
              · obtain ⟨ga, rfl, hg1, hg2⟩ := row_some HRA6.out (by omega)
                have hca := (HRA6.out.cell i hla).1
                rw [show (List.replicate E.by_.length 17).getD i 0 = 17 by simp [List.getD_eq_getElem?_getD, hla]] at hca
                have hla' : (i : Int) < (E.by_.length : Int) := by omega
                go_wp2_with fail
                exact ⟨⟨i + 1, by push_cast; rfl, by omega, trivial⟩, by simp [intOf]; omega⟩
              · have hla' : ¬ (i : Int) < (E.by_.length : Int) := by omega
                go_wp2_with fail
                exact ⟨⟨i + 1, by push_cast; rfl, by omega, trivial⟩, by simp [intOf]; omega⟩
            · have hlt' : ¬ (i : Int) < (E.by_.length : Int) + 2 := by omega
              clear hc6
              go_wp2_with (first | (refine wpList_load_block rfl 25 _ rfl pg _ _ rfl HRG6.out.var (by kernel_rfl) (by kernel_rfl) ?_) | (refine wpList_load_block rfl 25 _ rfl pb _ _ rfl HRB6.out.var (by kernel_rfl) (by kernel_rfl) ?_))
              have hb1 : BytesIn wr Ag E.by_.length cg E.by_ := HRG6.out.bytes
              have hb2 : BytesIn wr Ab E.by_.length cb E.by_ := HRB6.out.bytes
              refine (alike_calls E Ag Ab cg cb wr hb1 hb2 (by omega)).mono ?_
              rintro e w17 ⟨rfl, hb17⟩
              have HB17 := Lib.hid (HBW6.out.trans (hb17.mono HBW6.out.size))
              have RF17 := Lib.hid (HRF6.out.below hb17)
              clear hb1 hb2 hb17 HRG6 HRB6 HRF6 HRA6 HFU6 HBW6
              have hvf := RF17.out.var
              have f0 := cell_of_heap (i := 0) hvf (v := .int .i64 13) rfl
              have f1 := cell_of_heap (i := 1) hvf (v := .int .i64 1) rfl
              have f2 := cell_of_heap (i := 2) hvf (v := .int .i64 0) rfl
              have f3 := cell_of_heap (i := 3) hvf (v := .int .i64 0) rfl
              have f4 := cell_of_heap (i := 4) hvf (v := .int .i64 0) rfl
              have f5 := cell_of_heap (i := 5) hvf (v := .int .u8 0) rfl
              have f6 := cell_of_heap (i := 6) hvf (v := .slice Af 2 cf) rfl
              have f7 := cell_of_heap (i := 7) hvf (v := .int .i64 0) rfl
              clear hvf
              go_wp2_with fail
              have hb18 := ff_below w17
              refine (alike_calls E2 Af (some ⟨w17.heap.size, 0, none⟩) cf 2 _ (RF17.out.bytes.below hb18) (ff_bytes w17) (by decide)).mono ?_
              rintro e w18 ⟨rfl, hb19⟩
              have HB19 := Lib.hid (HB17.out.trans ((hb18.trans (hb19.mono hb18.size)).mono HB17.out.size))
              clear hb18 hb19 f0 f1 f2 f3 f4 f5 f6 f7
              go_wp2_with fail
              go_ret
              exact ⟨rfl, HB19.out⟩
end Go.Proofs.YtbjkljmhhpoooaaDoor
