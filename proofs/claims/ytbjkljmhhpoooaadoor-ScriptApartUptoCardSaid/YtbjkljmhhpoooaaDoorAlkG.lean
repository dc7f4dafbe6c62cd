/- What jotterlaw15.alike says of two entries that are not one; what jotterlaw15.alikePlans says of two plans that are one. -/
import Derived.Test.YtbjkljmhhpoooaaDoorAlk
import Derived.Test.YtbjkljmhhpoooaaDoorFix
namespace Go.Proofs.YtbjkljmhhpoooaaDoor
open Go.RowKit
set_option linter.unusedVariables false

set_option maxRecDepth 100000 in
set_option maxHeartbeats 4000000 in
theorem alike_no (e e' : Ent) (hne : e ≠ e') (A0 A1 : Option Addr) (c0 c1 : Nat) (w : World) (h0 : BytesIn w A0 e.by_) (h1 : BytesIn w A1 e'.by_) (hl : e.by_.length ≤ 1099511627776) :
    Calls Tryd.prog 10 #[.agg (entArr e A0 c0), .agg (entArr e' A1 c1)] w fun r w' => r = .returned (.bool false) ∧ Below w.heap.size w w' := by
  go_enter Tryd.func10, Tryd.ntmps10
  have hb : ∀ o1 o2, Below w.heap.size w ((w.alloc o1).alloc o2) := fun o1 o2 => ((Below.refl _ w).alloc (Nat.le_refl _) o1).alloc (by simp) o2
  have HB := Lib.hid hb
  have H0 := Lib.hid h0
  have H1 := Lib.hid h1
  have HNE := Lib.hid hne
  clear h0 h1 hb hne
  unfold entArr
  obtain ⟨kind, site, ea, eb, ec, ch, by_, err⟩ := e
  obtain ⟨kind', site', ea', eb', ec', ch', by_', err'⟩ := e'
  dsimp only at H0 H1 hl ⊢
  by_cases h_kind : kind ≠ kind'
  · have hx_kind := bne_nat h_kind
    go_wp2_with fail
    go_ret
    exact ⟨rfl, HB.out _ _⟩
  obtain rfl : kind = kind' := by omega
  clear h_kind
  by_cases h_site : site ≠ site'
  · have hx_site := bne_nat h_site
    go_wp2_with fail
    go_ret
    exact ⟨rfl, HB.out _ _⟩
  obtain rfl : site = site' := by omega
  clear h_site
  by_cases h_ea : ea ≠ ea'
  · have hx_ea := bne_nat h_ea
    go_wp2_with fail
    go_ret
    exact ⟨rfl, HB.out _ _⟩
  obtain rfl : ea = ea' := by omega
  clear h_ea
  by_cases h_eb : eb ≠ eb'
  · have hx_eb := bne_nat h_eb
    go_wp2_with fail
    go_ret
    exact ⟨rfl, HB.out _ _⟩
  obtain rfl : eb = eb' := by omega
  clear h_eb
  by_cases h_ec : ec ≠ ec'
  · have hx_ec := bne_nat h_ec
    go_wp2_with fail
    go_ret
    exact ⟨rfl, HB.out _ _⟩
  obtain rfl : ec = ec' := by omega
  clear h_ec
  by_cases h_ch : ch ≠ ch'
  · have hx_ch := bne_nat h_ch
    go_wp2_with fail
    go_ret
    exact ⟨rfl, HB.out _ _⟩
  obtain rfl : ch = ch' := by omega
  clear h_ch
  by_cases h_err : err ≠ err'
  · have hx_err := bne_nat h_err
    go_wp2_with fail
    go_ret
    exact ⟨rfl, HB.out _ _⟩
  obtain rfl : err = err' := by omega
  clear h_err
  by_cases h_len : by_.length ≠ by_'.length
  · have hx := bne_nat h_len
    go_wp2_with fail
    go_ret
    exact ⟨rfl, HB.out _ _⟩
  have hlen : by_.length = by_'.length := by omega
  have hlen' : (((by_'.length : Nat) : Int) != ((by_'.length : Nat) : Int)) = false := by simp
  rw [hlen]
  go_wp2_with fail
  have h20 := cell_alloc (cell_of_heap (i := 6) (alloc_at (w := w) (o := .cells #[.int .i64 (kind : Int), .int .i64 (site : Int), .int .i64 (ea : Int), .int .i64 (eb : Int), .int .i64 (ec : Int), .int .u8 (ch : Int), .slice A0 by_'.length c0, .int .i64 (err : Int)] 25) rfl) (v := .slice A0 by_'.length c0) rfl) (.cells #[.int .i64 (kind : Int), .int .i64 (site : Int), .int .i64 (ea : Int), .int .i64 (eb : Int), .int .i64 (ec : Int), .int .u8 (ch : Int), .slice A1 by_'.length c1, .int .i64 (err : Int)] 25)
  have h30 := cell_of_heap (i := 6) (alloc_at (w := w.alloc (.cells #[.int .i64 (kind : Int), .int .i64 (site : Int), .int .i64 (ea : Int), .int .i64 (eb : Int), .int .i64 (ec : Int), .int .u8 (ch : Int), .slice A0 by_'.length c0, .int .i64 (err : Int)] 25)) (o := .cells #[.int .i64 (kind : Int), .int .i64 (site : Int), .int .i64 (ea : Int), .int .i64 (eb : Int), .int .i64 (ec : Int), .int .u8 (ch : Int), .slice A1 by_'.length c1, .int .i64 (err : Int)] 25) rfl) (v := .slice A1 by_'.length c1) rfl
  have hb2 := HB.out (.cells #[.int .i64 (kind : Int), .int .i64 (site : Int), .int .i64 (ea : Int), .int .i64 (eb : Int), .int .i64 (ec : Int), .int .u8 (ch : Int), .slice A0 by_'.length c0, .int .i64 (err : Int)] 25) (.cells #[.int .i64 (kind : Int), .int .i64 (site : Int), .int .i64 (ea : Int), .int .i64 (eb : Int), .int .i64 (ec : Int), .int .u8 (ch : Int), .slice A1 by_'.length c1, .int .i64 (err : Int)] 25)
  simp only [World.size_alloc] at h30
  generalize World.alloc (World.alloc w _) _ = w2 at h20 h30 hb2 ⊢
  have K0 := Lib.hid (H0.out.below hb2)
  have K1 := Lib.hid (H1.out.below hb2)
  have HB2 := Lib.hid hb2
  clear hb2
  generalize w.heap.size + 1 = q at h30 ⊢
  generalize w.heap.size = p at h20 ⊢
  go_loopw [5] (fun vi wr => ∃ i : Nat, i ≤ by_'.length ∧ vi = .int .i64 (i : Int) ∧ (∀ j, j < i → by_.getD j 0 = by_'.getD j 0) ∧ Below w2.heap.size w2 wr) (fun vi _ => by_'.length - (intOf vi).toNat)
  case atStart => exact ⟨0, Nat.zero_le _, rfl, fun j hj => absurd hj (by omega), Below.refl _ _⟩
  case round =>
    obtain ⟨i, hi, rfl, hsame, hbr⟩ := hrel
    have k20 := (hbr.cell (World.block_lt_of_cell? w2 _ h20)).trans h20
    have k30 := (hbr.cell (World.block_lt_of_cell? w2 _ h30)).trans h30
    have HBR := Lib.hid hbr
    have HSAME := Lib.hid hsame
    clear hbr hsame
    by_cases hlt : i < by_'.length
    · have hlt' : (i : Int) < (by_'.length : Int) := by omega
      obtain ⟨b0, o0, rfl, hc0⟩ := bytes_at (K0.out.below HBR.out) i (by omega)
      obtain ⟨b1, o1, rfl, hc1⟩ := bytes_at (K1.out.below HBR.out) i hlt
      obtain ⟨x, hx⟩ : ∃ x, by_.getD i 0 = x := ⟨_, rfl⟩
      obtain ⟨y, hy⟩ : ∃ y, by_'.getD i 0 = y := ⟨_, rfl⟩
      rw [hx] at hc0
      rw [hy] at hc1
      have HX := Lib.hid hx
      have HY := Lib.hid hy
      clear hx hy
      by_cases hxy : x ≠ y
      · have hxn := bne_nat hxy
        go_wp2_with fail
        go_quiet (fail)
        generalize hw3 : wr.drewN nq = w3
        have hb3 : Below w2.heap.size w2 w3 := by rw [← hw3]; exact below_drewN HBR.out _
        have HB3 := Lib.hid hb3
        clear hb3 hw3
        go_wp2_with fail
        go_ret
        exact ⟨rfl, HB2.out.trans (HB3.out.mono HB2.out.size)⟩
      · obtain rfl : x = y := by omega
        clear hxy
        go_wp2_with fail
        go_quiet (fail)
        generalize hw3 : wr.drewN nq = w3
        have hb3 : Below w2.heap.size w2 w3 := by rw [← hw3]; exact below_drewN HBR.out _
        have HB3 := Lib.hid hb3
        clear hb3 hw3
        go_wp2_with fail
        refine ⟨⟨i + 1, by omega, by push_cast; rfl, fun j hj => ?_, HB3.out⟩, by simp [intOf]; omega⟩
        rcases Nat.lt_succ_iff_lt_or_eq.1 hj with hj | rfl
        · exact HSAME.out j hj
        · rw [HX.out, HY.out]
    · exfalso
      obtain rfl : i = by_'.length := by omega
      apply HNE.out
      have : by_ = by_' := by
        apply List.ext_getElem hlen
        intro j h1 h2
        have := HSAME.out j h2
        simpa [List.getD_eq_getElem?_getD, List.getElem?_eq_getElem h1, List.getElem?_eq_getElem h2] using this
      rw [this]

set_option maxRecDepth 100000 in
set_option maxHeartbeats 2000000 in
theorem alike_plans (n : Nat) (es : List Ent) (hbl : ∀ e ∈ es, e.by_.length ≤ 1099511627776) (hes : es.length ≤ 1048576) (A B : Option Addr) (c0 c1 : Nat) (w : World) (h0 : EntsIn w A es) (h1 : EntsIn w B es) :
    Calls Tryd.prog 16 #[.agg #[.int .i64 (n : Int), .slice A es.length c0], .agg #[.int .i64 (n : Int), .slice B es.length c1]] w fun r w' => r = .returned (.bool true) ∧ Below w.heap.size w w' := by
  go_enter Tryd.func16, Tryd.ntmps16
  have hb2 : Below w.heap.size w ((w.alloc (.cells #[.int .i64 (n : Int), .slice A es.length c0] 31)).alloc (.cells #[.int .i64 (n : Int), .slice B es.length c1] 31)) := ((Below.refl _ w).alloc (Nat.le_refl _) _).alloc (by simp) _
  have hp0 : ((w.alloc (.cells #[.int .i64 (n : Int), .slice A es.length c0] 31)).alloc (.cells #[.int .i64 (n : Int), .slice B es.length c1] 31)).heap[w.heap.size]? = some (.cells #[.int .i64 (n : Int), .slice A es.length c0] 31 (0, 0)) := alloc_old (alloc_at rfl)
  have hp1 : ((w.alloc (.cells #[.int .i64 (n : Int), .slice A es.length c0] 31)).alloc (.cells #[.int .i64 (n : Int), .slice B es.length c1] 31)).heap[w.heap.size + 1]? = some (.cells #[.int .i64 (n : Int), .slice B es.length c1] 31 (0, 0)) := alloc_at (by simp)
  have H0 := Lib.hid h0
  have H1 := Lib.hid h1
  have HBL := Lib.hid hbl
  have HB2 := Lib.hid hb2
  have HP0 := Lib.hid hp0
  have HP1 := Lib.hid hp1
  clear h0 h1 hbl hb2 hp0 hp1
  go_wp2_with fail
  have hb2 := HB2.out
  have hp0 := HP0.out
  have hp1 := HP1.out
  generalize World.alloc (World.alloc w _) _ = w2 at hb2 hp0 hp1 ⊢
  generalize w.heap.size + 1 = q at hp1 ⊢
  generalize w.heap.size = p at hp0 ⊢
  clear HB2 HP0 HP1
  have HB2 := Lib.hid hb2
  have HP0 := Lib.hid hp0
  have HP1 := Lib.hid hp1
  clear hb2 hp0 hp1
  go_loopw [5] (fun vi wr => ∃ i : Nat, i ≤ es.length ∧ vi = .int .i64 (i : Int) ∧ Below w2.heap.size w2 wr) (fun vi _ => es.length - (intOf vi).toNat)
  case atStart => exact ⟨0, Nat.zero_le _, rfl, Below.refl _ _⟩
  case round =>
    obtain ⟨i, hi, rfl, hbr⟩ := hrel
    have HBR := Lib.hid hbr
    have k0 := cell_of_heap (i := 1) ((hbr.block p (Array.getElem?_eq_some_iff.1 HP0.out).1).trans HP0.out) (v := .slice A es.length c0) rfl
    by_cases hlt : i < es.length
    · have hlt' : (i : Int) < (es.length : Int) := by omega
      have hi0 : (0 : Int) ≤ (i : Int) := by omega
      obtain ⟨e, hei⟩ : ∃ e, es[i]? = some e := ⟨_, List.getElem?_eq_getElem hlt⟩
      have HEI := Lib.hid hei
      have hwr : Below w.heap.size w wr := HB2.out.trans (hbr.mono HB2.out.size)
      have hent : ∀ D, EntsIn w D es → ∃ b o A' c', D = some ⟨b, o, none⟩ ∧ BytesIn wr A' e.by_ ∧ ∀ w', Below wr.heap.size wr w' → w'.rangeAt b (o + i * 8) (entArr e A' c').toList := by
        intro D h
        rcases h with ⟨_, h0⟩ | ⟨b, o, h1, h2, h3⟩
        · rw [h0] at hlt; exact absurd hlt (by simp)
        · obtain ⟨A', c', k1, k2⟩ := h3 i e hei
          exact ⟨b, o, A', c', h1, k1.below hwr, fun w' hw' => range_below (range_below k2 h2 hwr) (Nat.lt_of_lt_of_le h2 hwr.size) hw'⟩
      obtain ⟨b0, o0, A0, k0', rfl, hy0, hl0⟩ := hent A H0.out
      obtain ⟨b1, o1, A1, k1, rfl, hy1, hl1⟩ := hent B H1.out
      have HY0 := Lib.hid hy0
      have HY1 := Lib.hid hy1
      have HL0 := Lib.hid hl0
      have HL1 := Lib.hid hl1
      have HC0 := Lib.hid (show ∀ w', Below wr.heap.size wr w' → w'.cell? ⟨p, 1, none⟩ = some (.slice (some ⟨b0, o0, none⟩) es.length c0) from fun w' h' => cell_of_heap ((h'.block p (Nat.lt_of_lt_of_le (Array.getElem?_eq_some_iff.1 HP0.out).1 HBR.out.size)).trans ((HBR.out.block p (Array.getElem?_eq_some_iff.1 HP0.out).1).trans HP0.out)) rfl)
      have HC1 := Lib.hid (show ∀ w', Below wr.heap.size wr w' → w'.cell? ⟨q, 1, none⟩ = some (.slice (some ⟨b1, o1, none⟩) es.length c1) from fun w' h' => cell_of_heap ((h'.block q (Nat.lt_of_lt_of_le (Array.getElem?_eq_some_iff.1 HP1.out).1 HBR.out.size)).trans ((HBR.out.block q (Array.getElem?_eq_some_iff.1 HP1.out).1).trans HP1.out)) rfl)
      clear hy0 hy1 hl0 hl1 hei hwr hent hbr
      go_wp2_with fail
      clear k0
      refine wp_region_held_drew (S := fun w' => Below wr.heap.size wr w') (by kernel_rfl) (Below.refl _ _).drew (fun hHeld => ?_)
      refine wpAnyH_take (i := 0) (v := .pointer (some ⟨p, 1, none⟩)) rfl (by kernel_rfl) (by kernel_rfl) (by kernel_rfl) (fun _ _ _ h => h) (Or.inl ⟨by rfl, fun w' hw' => ?_⟩) (by assumption) ?_
      · go_simp
      change wpAnyH _ _ _ _ _ _ _ ⟨#[_, _, _, _, _, _, _, _, _, _, _, _, _, _, _, _, _, _, _, _, _, _, _, _, _, _, _, .pointer (some ⟨p, 1, none⟩), _, _, _, _, _, _, _, _, _, _, _], []⟩ _
      refine wpAnyH_take (i := 1) (v := .slice (some ⟨b0, o0, none⟩) es.length c0) rfl (by kernel_rfl) (by kernel_rfl) (by kernel_rfl) (fun _ _ _ h => h) (Or.inl ⟨by rfl, fun w' hw' => ?_⟩) (by assumption) ?_
      · have hx := HC0.out w' hw'; clear hHeld; go_simp
      change wpAnyH _ _ _ _ _ _ _ ⟨#[_, _, _, _, _, _, _, _, _, _, _, _, _, _, _, _, _, _, _, _, _, _, _, _, _, _, _, .pointer (some ⟨p, 1, none⟩), .slice (some ⟨b0, o0, none⟩) es.length c0, _, _, _, _, _, _, _, _, _, _], []⟩ _
      refine wpAnyH_take (i := 2) (v := .int .i64 (i : Int)) rfl (by kernel_rfl) (by kernel_rfl) (by kernel_rfl) (fun _ _ _ h => h) (Or.inl ⟨by rfl, fun w' hw' => ?_⟩) (by assumption) ?_
      · go_simp
      change wpAnyH _ _ _ _ _ _ _ ⟨#[_, _, _, _, _, _, _, _, _, _, _, _, _, _, _, _, _, _, _, _, _, _, _, _, _, _, _, .pointer (some ⟨p, 1, none⟩), .slice (some ⟨b0, o0, none⟩) es.length c0, .int .i64 (i : Int), _, _, _, _, _, _, _, _, _], []⟩ _
      refine wpAnyH_take (i := 3) (v := .pointer (some ⟨b0, o0 + i * 8, none⟩)) rfl (by kernel_rfl) (by kernel_rfl) (by kernel_rfl) (fun _ _ _ h => h) (Or.inl ⟨by rfl, fun w' hw' => ?_⟩) (by assumption) ?_
      · go_simp
      change wpAnyH _ _ _ _ _ _ _ ⟨#[_, _, _, _, _, _, _, _, _, _, _, _, _, _, _, _, _, _, _, _, _, _, _, _, _, _, _, .pointer (some ⟨p, 1, none⟩), .slice (some ⟨b0, o0, none⟩) es.length c0, .int .i64 (i : Int), .pointer (some ⟨b0, o0 + i * 8, none⟩), _, _, _, _, _, _, _, _], []⟩ _
      refine wpAnyH_take (i := 4) (v := .agg (entArr e A0 k0')) rfl (by kernel_rfl) (by kernel_rfl) (by kernel_rfl) (fun _ _ _ h => h) (Or.inl ⟨by rfl, fun w' hw' => ?_⟩) (by assumption) ?_
      · exact run_load_at rfl rfl (HL0.out w' hw') (by kernel_rfl) (by kernel_rfl)
      change wpAnyH _ _ _ _ _ _ _ ⟨#[_, _, _, _, _, _, _, _, _, _, _, _, _, _, _, _, _, _, _, _, _, _, _, _, _, _, _, .pointer (some ⟨p, 1, none⟩), .slice (some ⟨b0, o0, none⟩) es.length c0, .int .i64 (i : Int), .pointer (some ⟨b0, o0 + i * 8, none⟩), .agg (entArr e A0 k0'), _, _, _, _, _, _, _], []⟩ _
      refine wpAnyH_take (i := 5) (v := .pointer (some ⟨q, 1, none⟩)) rfl (by kernel_rfl) (by kernel_rfl) (by kernel_rfl) (fun _ _ _ h => h) (Or.inl ⟨by rfl, fun w' hw' => ?_⟩) (by assumption) ?_
      · go_simp
      change wpAnyH _ _ _ _ _ _ _ ⟨#[_, _, _, _, _, _, _, _, _, _, _, _, _, _, _, _, _, _, _, _, _, _, _, _, _, _, _, .pointer (some ⟨p, 1, none⟩), .slice (some ⟨b0, o0, none⟩) es.length c0, .int .i64 (i : Int), .pointer (some ⟨b0, o0 + i * 8, none⟩), .agg (entArr e A0 k0'), .pointer (some ⟨q, 1, none⟩), _, _, _, _, _, _], []⟩ _
      refine wpAnyH_take (i := 6) (v := .slice (some ⟨b1, o1, none⟩) es.length c1) rfl (by kernel_rfl) (by kernel_rfl) (by kernel_rfl) (fun _ _ _ h => h) (Or.inl ⟨by rfl, fun w' hw' => ?_⟩) (by assumption) ?_
      · have hx := HC1.out w' hw'; clear hHeld; go_simp
      change wpAnyH _ _ _ _ _ _ _ ⟨#[_, _, _, _, _, _, _, _, _, _, _, _, _, _, _, _, _, _, _, _, _, _, _, _, _, _, _, .pointer (some ⟨p, 1, none⟩), .slice (some ⟨b0, o0, none⟩) es.length c0, .int .i64 (i : Int), .pointer (some ⟨b0, o0 + i * 8, none⟩), .agg (entArr e A0 k0'), .pointer (some ⟨q, 1, none⟩), .slice (some ⟨b1, o1, none⟩) es.length c1, _, _, _, _, _], []⟩ _
      refine wpAnyH_take (i := 7) (v := .int .i64 (i : Int)) rfl (by kernel_rfl) (by kernel_rfl) (by kernel_rfl) (fun _ _ _ h => h) (Or.inl ⟨by rfl, fun w' hw' => ?_⟩) (by assumption) ?_
      · go_simp
      change wpAnyH _ _ _ _ _ _ _ ⟨#[_, _, _, _, _, _, _, _, _, _, _, _, _, _, _, _, _, _, _, _, _, _, _, _, _, _, _, .pointer (some ⟨p, 1, none⟩), .slice (some ⟨b0, o0, none⟩) es.length c0, .int .i64 (i : Int), .pointer (some ⟨b0, o0 + i * 8, none⟩), .agg (entArr e A0 k0'), .pointer (some ⟨q, 1, none⟩), .slice (some ⟨b1, o1, none⟩) es.length c1, .int .i64 (i : Int), _, _, _, _], []⟩ _
      refine wpAnyH_take (i := 8) (v := .pointer (some ⟨b1, o1 + i * 8, none⟩)) rfl (by kernel_rfl) (by kernel_rfl) (by kernel_rfl) (fun _ _ _ h => h) (Or.inl ⟨by rfl, fun w' hw' => ?_⟩) (by assumption) ?_
      · go_simp
      change wpAnyH _ _ _ _ _ _ _ ⟨#[_, _, _, _, _, _, _, _, _, _, _, _, _, _, _, _, _, _, _, _, _, _, _, _, _, _, _, .pointer (some ⟨p, 1, none⟩), .slice (some ⟨b0, o0, none⟩) es.length c0, .int .i64 (i : Int), .pointer (some ⟨b0, o0 + i * 8, none⟩), .agg (entArr e A0 k0'), .pointer (some ⟨q, 1, none⟩), .slice (some ⟨b1, o1, none⟩) es.length c1, .int .i64 (i : Int), .pointer (some ⟨b1, o1 + i * 8, none⟩), _, _, _], []⟩ _
      refine wpAnyH_take (i := 9) (v := .agg (entArr e A1 k1)) rfl (by kernel_rfl) (by kernel_rfl) (by kernel_rfl) (fun _ _ _ h => h) (Or.inl ⟨by rfl, fun w' hw' => ?_⟩) (by assumption) ?_
      · exact run_load_at rfl rfl (HL1.out w' hw') (by kernel_rfl) (by kernel_rfl)
      change wpAnyH _ _ _ _ _ _ _ ⟨#[_, _, _, _, _, _, _, _, _, _, _, _, _, _, _, _, _, _, _, _, _, _, _, _, _, _, _, .pointer (some ⟨p, 1, none⟩), .slice (some ⟨b0, o0, none⟩) es.length c0, .int .i64 (i : Int), .pointer (some ⟨b0, o0 + i * 8, none⟩), .agg (entArr e A0 k0'), .pointer (some ⟨q, 1, none⟩), .slice (some ⟨b1, o1, none⟩) es.length c1, .int .i64 (i : Int), .pointer (some ⟨b1, o1 + i * 8, none⟩), .agg (entArr e A1 k1), _, _], []⟩ _
      refine wpAnyH_ready (rs := [10]) (by kernel_rfl) (by simp) ?_
      refine AllReadyH.cons rfl (fun K hK => ?_) AllReadyH.nil
      go_simp
      refine (alike_yes e A0 A1 k0' k1 wr.drew (HY0.out.below (Below.refl _ _).drew) (HY1.out.below (Below.refl _ _).drew) (HBL.out e (List.mem_of_getElem? HEI.out))).mono ?_
      rintro e' w4 ⟨rfl, hb4⟩
      have hb34 : Below wr.heap.size wr w4 := (Below.refl _ wr).drew.trans hb4
      refine hK.out _ _ hb34 (fun hHeld => ?_)
      clear hK K
      change wpAnyH _ _ _ _ _ _ _ ⟨#[_, _, _, _, _, _, _, _, _, _, _, _, _, _, _, _, _, _, _, _, _, _, _, _, _, _, _, .pointer (some ⟨p, 1, none⟩), .slice (some ⟨b0, o0, none⟩) es.length c0, .int .i64 (i : Int), .pointer (some ⟨b0, o0 + i * 8, none⟩), .agg (entArr e A0 k0'), .pointer (some ⟨q, 1, none⟩), .slice (some ⟨b1, o1, none⟩) es.length c1, .int .i64 (i : Int), .pointer (some ⟨b1, o1 + i * 8, none⟩), .agg (entArr e A1 k1), .bool true, _], []⟩ _
      refine wpAnyH_take (i := 11) (v := .bool false) rfl (by kernel_rfl) (by kernel_rfl) (by kernel_rfl) (fun _ _ _ h => h) (Or.inl ⟨by rfl, fun w' hw' => ?_⟩) (by assumption) ?_
      · go_simp
      change wpAnyH _ _ _ _ _ _ _ ⟨#[_, _, _, _, _, _, _, _, _, _, _, _, _, _, _, _, _, _, _, _, _, _, _, _, _, _, _, .pointer (some ⟨p, 1, none⟩), .slice (some ⟨b0, o0, none⟩) es.length c0, .int .i64 (i : Int), .pointer (some ⟨b0, o0 + i * 8, none⟩), .agg (entArr e A0 k0'), .pointer (some ⟨q, 1, none⟩), .slice (some ⟨b1, o1, none⟩) es.length c1, .int .i64 (i : Int), .pointer (some ⟨b1, o1 + i * 8, none⟩), .agg (entArr e A1 k1), .bool true, .bool false], []⟩ _
      refine wpAnyH_done (by kernel_rfl) ?_ _
      have HB34 := Lib.hid hb34
      clear hb34 hb4 hHeld
      go_wp2_with fail
      exact ⟨⟨i + 1, by omega, by push_cast; rfl, HBR.out.trans (HB34.out.mono HBR.out.size)⟩, by simp [intOf]; omega⟩
    · obtain rfl : i = es.length := by omega
      have hlt' : ¬ (es.length : Int) < (es.length : Int) := by omega
      clear hbr
      go_wp2_with fail
      go_ret
      exact ⟨rfl, HB2.out.trans (HBR.out.mono HB2.out.size)⟩
end Go.Proofs.YtbjkljmhhpoooaaDoor
