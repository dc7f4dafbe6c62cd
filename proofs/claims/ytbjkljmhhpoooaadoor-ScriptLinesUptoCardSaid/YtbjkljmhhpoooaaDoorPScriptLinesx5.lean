-- PRINTED BY print.sh 35421559b90ae4d0a3588c463048766b98c2df88dd9212a6774a882060cdf62d: not written by this session
import Derived.Test.YtbjkljmhhpoooaaDoorPScriptLinesx0
import Derived.Test.YtbjkljmhhpoooaaDoorPScriptLinesx3
import Derived.Test.YtbjkljmhhpoooaaDoorPScriptLinesx4
namespace Go.Proofs.YtbjkljmhhpoooaaDoor.PScriptLines
open Go.RowKit Go.Proofs.YtbjkljmhhpoooaaDoorW.PrintWords Go.Proofs.YtbjkljmhhpoooaaDoorW.PrintLast Go.Proofs.YtbjkljmhhpoooaaDoorW.PrintMore
attribute [local go_sem] max2_int min2_int max_two min_two max_three min_three max_four min_four   -- for this text's walks alone
set_option linter.unusedVariables false
set_option linter.unusedSimpArgs false

/-! ### jotterref15_Line: function 11 -/
mutual
def jotterref15_Line.j0 : Nat → ByteArray → Int → Option (Int × Int × Int × Int × Int × Int × List Int × Int)
  | 0, _, _ => none
  | k + 1, x0, x3 => (jotterref15_cut.f k x0 32 x3).bind fun t174 => (if 0 < (t174.length : Int) then ((jotterref15_kindOf.f k (rdOf ByteArray.empty t174 0)).bind fun t178 => (if t178 = 0 then (some (0, 0, 0, 0, 0, 0, ([] : List Int), 153)) else ((jotterref15_words.f k t178).bind fun t179 => (if (t174.length : Int) = (wrap64 ((t179.length : Int) + 1)) then (jotterref15_Line.l0 k t174 t178 t179 0) else (some (t178, 0, 0, 0, 0, 0, ([] : List Int), 154)))))) else (none))
def jotterref15_Line.l0 : Nat → List ByteArray → Int → List (S59) → Int → Option (Int × Int × Int × Int × Int × Int × List Int × Int)
  | 0, _, _, _, _ => none
  | k + 1, x4, x5, x6, x7 => if x7 < (x6.length : Int) then (if 0 ≤ x7 then (if 0 ≤ (wrap64 (x7 + 1)) then (if (wrap64 (x7 + 1)) < (x4.length : Int) then ((jotterref15_formed.f k ((rd_T59 x6 x7).f0) ((rd_T59 x6 x7).f1) ((rd_T59 x6 x7).f2) (rdOf ByteArray.empty x4 (wrap64 (x7 + 1)))).bind fun t184 => (if t184 = 0 then (jotterref15_Line.l0 k x4 x5 x6 (wrap64 (x7 + 1))) else (some (x5, 0, 0, 0, 0, 0, ([] : List Int), t184)))) else (none)) else (none)) else (none)) else (jotterref15_Line.l1 k x4 x5 x6 0 x5 0 0 0 0 0 ([] : List Int) 0)
def jotterref15_Line.l1 : Nat → List ByteArray → Int → List (S59) → Int → Int → Int → Int → Int → Int → Int → List Int → Int → Option (Int × Int × Int × Int × Int × Int × List Int × Int)
  | 0, _, _, _, _, _, _, _, _, _, _, _, _ => none
  | k + 1, x4, x5, x6, x10, x186000, x186001, x186002, x186003, x186004, x186005, x186006, x186007 => if x10 < (x6.length : Int) then (if 0 ≤ x10 then (if 0 ≤ (wrap64 (x10 + 1)) then (if (wrap64 (x10 + 1)) < (x4.length : Int) then ((jotterref15_value.f k ((rd_T59 x6 x10).f0) ((rd_T59 x6 x10).f1) ((rd_T59 x6 x10).f2) (rdOf ByteArray.empty x4 (wrap64 (x10 + 1)))).bind fun t188 => (if t188 < ((rd_T59 x6 x10).f1) then (some (x5, 0, 0, 0, 0, 0, ([] : List Int), 155)) else (if t188 > ((rd_T59 x6 x10).f2) then (some (x5, 0, 0, 0, 0, 0, ([] : List Int), 155)) else ((jotterref15_with.f k x186000 x186001 x186002 x186003 x186004 x186005 x186006 x186007 ((rd_T59 x6 x10).f0) ((rd_T59 x6 x10).f1) ((rd_T59 x6 x10).f2) (rdOf ByteArray.empty x4 (wrap64 (x10 + 1)))).bind fun bt193 => (jotterref15_Line.l1 k x4 x5 x6 (wrap64 (x10 + 1)) bt193.1 bt193.2.1 bt193.2.2.1 bt193.2.2.2.1 bt193.2.2.2.2.1 bt193.2.2.2.2.2.1 bt193.2.2.2.2.2.2.1 bt193.2.2.2.2.2.2.2))))) else (none)) else (none)) else (none)) else (some (x186000, x186001, x186002, x186003, x186004, x186005, x186006, x186007))
end
def jotterref15_Line.f (k : Nat) (a0 : ByteArray) : Option (Int × Int × Int × Int × Int × Int × List Int × Int) := (jotterref15_cut.f k a0 32 0).bind fun t170 => (if 0 < (t170.length : Int) then (if (rdOf ByteArray.empty t170 0).toList = ([105, 110, 115, 101, 114, 116] : List UInt8) then (jotterref15_Line.j0 k a0 4) else (jotterref15_Line.j0 k a0 0)) else (none))
theorem jotterref15_Line.mono_l : ∀ k, (∀ y0 y1, LeO (jotterref15_Line.j0 k y0 y1) (jotterref15_Line.j0 (k + 1) y0 y1)) ∧ (∀ y0 y1 y2 y3, LeO (jotterref15_Line.l0 k y0 y1 y2 y3) (jotterref15_Line.l0 (k + 1) y0 y1 y2 y3)) ∧ (∀ y0 y1 y2 y3 y4 y5 y6 y7 y8 y9 y10 y11, LeO (jotterref15_Line.l1 k y0 y1 y2 y3 y4 y5 y6 y7 y8 y9 y10 y11) (jotterref15_Line.l1 (k + 1) y0 y1 y2 y3 y4 y5 y6 y7 y8 y9 y10 y11))
  | 0 => ⟨fun _ _ r h => by simp [jotterref15_Line.j0] at h, fun _ _ _ _ r h => by simp [jotterref15_Line.l0] at h, fun _ _ _ _ _ _ _ _ _ _ _ _ r h => by simp [jotterref15_Line.l1] at h⟩
  | k + 1 => by
    obtain ⟨ih0, ih1, ih2⟩ := jotterref15_Line.mono_l k
    refine ⟨?_, ?_, ?_⟩
    · intro y0 y1
      unfold jotterref15_Line.j0
      repeat' first
      | (with_reducible exact ih0 _ _)
      | (with_reducible exact ih1 _ _ _ _)
      | (with_reducible exact ih2 _ _ _ _ _ _ _ _ _ _ _ _)
      | (with_reducible exact jotterref15_cut.mono _ _ _ _)
      | (with_reducible exact jotterref15_formed.mono _ _ _ _ _)
      | (with_reducible exact jotterref15_kindOf.mono _ _)
      | (with_reducible exact jotterref15_value.mono _ _ _ _ _)
      | (with_reducible exact jotterref15_with.mono _ _ _ _ _ _ _ _ _ _ _ _ _)
      | (with_reducible exact jotterref15_words.mono _ _)
      | (with_reducible exact LeO.refl _)
      | (with_reducible exact LeO.none _)
      | (with_reducible refine LeO.ite ?_ ?_)
      | (with_reducible refine LeO.bind ?_ (fun _ => ?_))
      | exact ih0 _ _
      | exact ih1 _ _ _ _
      | exact ih2 _ _ _ _ _ _ _ _ _ _ _ _
      | exact jotterref15_cut.mono _ _ _ _
      | exact jotterref15_formed.mono _ _ _ _ _
      | exact jotterref15_kindOf.mono _ _
      | exact jotterref15_value.mono _ _ _ _ _
      | exact jotterref15_with.mono _ _ _ _ _ _ _ _ _ _ _ _ _
      | exact jotterref15_words.mono _ _
      | exact LeO.none _
      | refine LeO.ite ?_ ?_
      | refine LeO.bind ?_ (fun _ => ?_)
    · intro y0 y1 y2 y3
      unfold jotterref15_Line.l0
      repeat' first
      | (with_reducible exact ih0 _ _)
      | (with_reducible exact ih1 _ _ _ _)
      | (with_reducible exact ih2 _ _ _ _ _ _ _ _ _ _ _ _)
      | (with_reducible exact jotterref15_cut.mono _ _ _ _)
      | (with_reducible exact jotterref15_formed.mono _ _ _ _ _)
      | (with_reducible exact jotterref15_kindOf.mono _ _)
      | (with_reducible exact jotterref15_value.mono _ _ _ _ _)
      | (with_reducible exact jotterref15_with.mono _ _ _ _ _ _ _ _ _ _ _ _ _)
      | (with_reducible exact jotterref15_words.mono _ _)
      | (with_reducible exact LeO.refl _)
      | (with_reducible exact LeO.none _)
      | (with_reducible refine LeO.ite ?_ ?_)
      | (with_reducible refine LeO.bind ?_ (fun _ => ?_))
      | exact ih0 _ _
      | exact ih1 _ _ _ _
      | exact ih2 _ _ _ _ _ _ _ _ _ _ _ _
      | exact jotterref15_cut.mono _ _ _ _
      | exact jotterref15_formed.mono _ _ _ _ _
      | exact jotterref15_kindOf.mono _ _
      | exact jotterref15_value.mono _ _ _ _ _
      | exact jotterref15_with.mono _ _ _ _ _ _ _ _ _ _ _ _ _
      | exact jotterref15_words.mono _ _
      | exact LeO.none _
      | refine LeO.ite ?_ ?_
      | refine LeO.bind ?_ (fun _ => ?_)
    · intro y0 y1 y2 y3 y4 y5 y6 y7 y8 y9 y10 y11
      unfold jotterref15_Line.l1
      repeat' first
      | (with_reducible exact ih0 _ _)
      | (with_reducible exact ih1 _ _ _ _)
      | (with_reducible exact ih2 _ _ _ _ _ _ _ _ _ _ _ _)
      | (with_reducible exact jotterref15_cut.mono _ _ _ _)
      | (with_reducible exact jotterref15_formed.mono _ _ _ _ _)
      | (with_reducible exact jotterref15_kindOf.mono _ _)
      | (with_reducible exact jotterref15_value.mono _ _ _ _ _)
      | (with_reducible exact jotterref15_with.mono _ _ _ _ _ _ _ _ _ _ _ _ _)
      | (with_reducible exact jotterref15_words.mono _ _)
      | (with_reducible exact LeO.refl _)
      | (with_reducible exact LeO.none _)
      | (with_reducible refine LeO.ite ?_ ?_)
      | (with_reducible refine LeO.bind ?_ (fun _ => ?_))
      | exact ih0 _ _
      | exact ih1 _ _ _ _
      | exact ih2 _ _ _ _ _ _ _ _ _ _ _ _
      | exact jotterref15_cut.mono _ _ _ _
      | exact jotterref15_formed.mono _ _ _ _ _
      | exact jotterref15_kindOf.mono _ _
      | exact jotterref15_value.mono _ _ _ _ _
      | exact jotterref15_with.mono _ _ _ _ _ _ _ _ _ _ _ _ _
      | exact jotterref15_words.mono _ _
      | exact LeO.none _
      | refine LeO.ite ?_ ?_
      | refine LeO.bind ?_ (fun _ => ?_)
theorem jotterref15_Line.mono : ∀ a0 k, LeO (jotterref15_Line.f k a0) (jotterref15_Line.f (k + 1) a0) := by
  intro a0 k
  obtain ⟨ih0, ih1, ih2⟩ := jotterref15_Line.mono_l k
  unfold jotterref15_Line.f
  repeat' first
      | (with_reducible exact ih0 _ _)
      | (with_reducible exact ih1 _ _ _ _)
      | (with_reducible exact ih2 _ _ _ _ _ _ _ _ _ _ _ _)
      | (with_reducible exact jotterref15_cut.mono _ _ _ _)
      | (with_reducible exact jotterref15_formed.mono _ _ _ _ _)
      | (with_reducible exact jotterref15_kindOf.mono _ _)
      | (with_reducible exact jotterref15_value.mono _ _ _ _ _)
      | (with_reducible exact jotterref15_with.mono _ _ _ _ _ _ _ _ _ _ _ _ _)
      | (with_reducible exact jotterref15_words.mono _ _)
      | (with_reducible exact LeO.refl _)
      | (with_reducible exact LeO.none _)
      | (with_reducible refine LeO.ite ?_ ?_)
      | (with_reducible refine LeO.bind ?_ (fun _ => ?_))
      | exact ih0 _ _
      | exact ih1 _ _ _ _
      | exact ih2 _ _ _ _ _ _ _ _ _ _ _ _
      | exact jotterref15_cut.mono _ _ _ _
      | exact jotterref15_formed.mono _ _ _ _ _
      | exact jotterref15_kindOf.mono _ _
      | exact jotterref15_value.mono _ _ _ _ _
      | exact jotterref15_with.mono _ _ _ _ _ _ _ _ _ _ _ _ _
      | exact jotterref15_words.mono _ _
      | exact LeO.none _
      | refine LeO.ite ?_ ?_
      | refine LeO.bind ?_ (fun _ => ?_)
def jotterref15_Line.T15 : Bool × List (List Nat × List Nat) := (true, [([], []), ([], []), ([0, 1], [0, 1]), ([2], [2]), ([], []), ([], []), ([5], [5]), ([4, 6], [4, 6]), ([7], [7]), ([3, 8], [3, 8]), ([9, 9, 0, 1, 2, 3, 4, 5, 6, 7, 8, 9], [9])])
def jotterref15_Line.B15 : List Nat := [0, 0, 3, 7, 0, 0, 32, 112, 240, 511, 1023]
theorem jotterref15_Line.tab15 : rtab .any (opsOf Tryd.f11 15) = jotterref15_Line.T15 := by kernel_rfl
theorem jotterref15_Line.bits15 : waitsOk jotterref15_Line.T15.2 jotterref15_Line.B15 = true := by kernel_rfl
def jotterref15_Line.T22 : Bool × List (List Nat × List Nat) := (true, [([], []), ([], []), ([0, 1], [0, 1]), ([2], [2]), ([], []), ([], []), ([5], [5]), ([4, 6], [4, 6]), ([7], [7]), ([3, 8], [3, 8]), ([9, 9, 0, 1, 2, 3, 4, 5, 6, 7, 8, 9], [9])])
def jotterref15_Line.B22 : List Nat := [0, 0, 3, 7, 0, 0, 32, 112, 240, 511, 1023]
theorem jotterref15_Line.tab22 : rtab .any (opsOf Tryd.f11 22) = jotterref15_Line.T22 := by kernel_rfl
theorem jotterref15_Line.bits22 : waitsOk jotterref15_Line.T22.2 jotterref15_Line.B22 = true := by kernel_rfl
def jotterref15_Line.T25 : Bool × List (List Nat × List Nat) := (true, [([], []), ([], []), ([], []), ([1, 2], [1, 2]), ([3], [3]), ([], []), ([], []), ([6], [6]), ([5, 7], [5, 7]), ([8], [8]), ([0, 4, 9], [0, 4, 9]), ([10, 10, 0, 1, 2, 3, 4, 5, 6, 7, 8, 9, 10], [10])])
def jotterref15_Line.B25 : List Nat := [0, 0, 0, 6, 14, 0, 0, 64, 224, 480, 1023, 2047]
theorem jotterref15_Line.tab25 : rtab .any (opsOf Tryd.f11 25) = jotterref15_Line.T25 := by kernel_rfl
theorem jotterref15_Line.bits25 : waitsOk jotterref15_Line.T25.2 jotterref15_Line.B25 = true := by kernel_rfl
set_option maxHeartbeats 8000000 in
set_option maxRecDepth 100000 in
theorem jotterref15_Line.calls (k : Nat) (a0 : ByteArray) (r1 : Int) (r2 : Int) (r3 : Int) (r4 : Int) (r5 : Int) (r6 : Int) (r7 : List Int) (r8 : Int) (w : World) (h : jotterref15_Line.f k a0 = some (r1, r2, r3, r4, r5, r6, r7, r8)) :
    Calls Tryd.prog 11 #[.string a0] w fun e w' => ∃ v6_ : Value, e = .returned (.agg #[.int .i64 r1, .int .i64 r2, .int .i64 r3, .int .i64 r4, .int .i64 r5, .int .u8 r6, v6_, .int .i64 r8]) ∧ Kd.R (Kd.int .u8) 5 w' w.heap.size (fun _ => True) v6_ r7 ∧ Below w.heap.size w w' := by
  have hu25 := Tryd.underlying25
  have hu59 := Tryd.underlying59
  have HB := Aside0.mk (Below.refl w.heap.size w)
  have H : ((jotterref15_cut.f k a0 32 0).bind fun t170 => (if 0 < (t170.length : Int) then (if (rdOf ByteArray.empty t170 0).toList = ([105, 110, 115, 101, 114, 116] : List UInt8) then (jotterref15_Line.j0 k a0 4) else (jotterref15_Line.j0 k a0 0)) else (none))) = some (r1, r2, r3, r4, r5, r6, r7, r8) := h
  clear h
  replace H := Option.bind_eq_some_iff.mp H
  obtain ⟨t170, A20, H⟩ := H
  replace H : (if 0 < (t170.length : Int) then (if (rdOf ByteArray.empty t170 0).toList = ([105, 110, 115, 101, 114, 116] : List UInt8) then (jotterref15_Line.j0 k a0 4) else (jotterref15_Line.j0 k a0 0)) else (none)) = some (r1, r2, r3, r4, r5, r6, r7, r8) := H
  have A2 := Aside0.mk A20
  clear A20
  by_cases c3 : 0 < (t170.length : Int)
  · rw [if_pos c3] at H
    have c3b0 : decide (0 < (t170.length : Int)) = true := decide_eq_true c3
    have c3b1 : decide (0 < t170.length) = true := decide_eq_true (by omega)
    clear c3
    have HC4 := Aside0.mk H
    clear H
    go_enter Tryd.func11, Tryd.ntmps11
    go_upto_if 17 with (first | ((with_reducible refine gate_dst (N := 2) rfl ?_); refine box_event ?hg (N := 2) ?hd (cs := #[.int .i64 0, .int .i64 0, .int .i64 0, .int .i64 0, .int .i64 0, .int .u8 0, .slice none 0 0, .int .i64 0]) (t := 25) ?hr ?_; (case hd => rfl); (case hg => rfl); (case hr => first | (go_simp; done) | (go_simp; rfl)); intro gb169 hg w5 hbox hb; have n0_ := Aside0.mk (below_step (by repeat (first | (with_reducible first | exact HB.out | apply below_alloc | apply pw_below_drewN | apply below_drew1) | exact HB.out)) hb); have n1_ := Aside0.mk (hbox); have n2_ := Aside0.mk ((by rw [hg]; exact (below_size (by repeat (first | (with_reducible first | exact HB.out | apply below_alloc | apply pw_below_drewN | apply below_drew1) | exact HB.out))) : w.heap.size ≤ gb169)); have n3_ := Aside0.mk ((by rw [hg]; exact (below_size (by repeat (first | (with_reducible first | exact HB.out | apply below_alloc | apply pw_below_drewN | apply below_drew1) | exact HB.out))) : w.heap.size ≤ gb169)); clear HB; have HB := n0_; have BK169 := n1_; have GW169 := n2_; have GE169 := n3_; clear n0_ n1_ n2_ n3_; clear hb hbox hg) | ((with_reducible refine gate_callee (f := 22) rfl ?_); refine goesL_ (some 13) rfl rfl Tryd.func22 (by kernel_rfl) rfl #[.string a0, .int .u8 32, .int .i64 0] rfl (by (try simp only [List.map_toArray, List.map_cons, List.map_nil]); first | done | rfl | (simp only [List.length_drop, List.length_take]; rfl)) ?_; (with_reducible refine (jotterref15_cut.calls k a0 32 0 t170 _ A2.out).mono ?_); rintro e w6 ⟨v171, rfl, ho0, hb⟩; refine ⟨_, rfl, ?_⟩; have n0_ := Aside0.mk (Kd.R_lower ho0 (below_size (by repeat (first | (with_reducible first | exact HB.out | apply below_alloc | apply pw_below_drewN | apply below_drew1 | refine below_set ?_ GE169.out) | exact HB.out)))); have n1_ := Aside0.mk (blk_below (g := gb169) (o := .cells #[.int .i64 0, .int .i64 0, .int .i64 0, .int .i64 0, .int .i64 0, .int .u8 0, .slice none 0 0, .int .i64 0] 25 (0, 0)) (by (with_reducible repeat (first | refine blk_drewN ?_ _ | refine blk_drew ?_ | refine blk_alloc ?_ _)); exact BK169.out) hb); have n2_ := Aside0.mk (below_step (by repeat (first | (with_reducible first | exact HB.out | apply below_alloc | apply pw_below_drewN | apply below_drew1 | refine below_set ?_ GE169.out) | exact HB.out)) hb); clear BK169; clear HB; have HO172 := n0_; have BK169 := n1_; have HB := n2_; clear n0_ n1_ n2_; (try clear hb); (try clear hb2); (try clear hk); (try clear hi); (try clear ho0); obtain ⟨Ao7, co7, eo7⟩ := Kd.R_slice HO172.out; subst eo7; have p173 : 0 ≤ (0 : Int) := (by omega); have q173 : 0 < (t170.length : Int) := of_decide_eq_true (by first | (with_reducible assumption) | assumption); obtain ⟨ad173, e173, hx173_0⟩ := Kd.at_string (Kd.R_reads' HO172.out).2.2 0 p173 q173; cases e173; have qi173 : (0 < t170.length) = True := eq_true (by omega); (try rw [show ((0 : Int)).toNat = 0 from rfl] at hx173_0); (try rw [Addr.add_zero'] at hx173_0); replace p173 := eq_true p173; replace q173 := eq_true q173))
    (try simp only [Act.put, List.setIfInBounds_toArray, List.set_cons_zero, List.set_cons_succ])
    go_cut [3] (fun v3 wc => ∃ (kq : Nat) (x3_3 : Int), v3 = .int .i64 x3_3 ∧ Aside0 (jotterref15_Line.j0 kq a0 x3_3 = some (r1, r2, r3, r4, r5, r6, r7, r8)) ∧ Aside0 (kq ≤ k) ∧ Aside0 (wc.heap[gb169]? = some (.cells #[.int .i64 0, .int .i64 0, .int .i64 0, .int .i64 0, .int .i64 0, .int .u8 0, (.slice none 0 0), .int .i64 0] 25 (0, 0))) ∧ Aside0 (Below w.heap.size w wc))
    case first =>
      have H := HC4.out
      clear HC4
      by_cases c8 : (rdOf ByteArray.empty t170 0).toList = ([105, 110, 115, 101, 114, 116] : List UInt8)
      · rw [if_pos c8] at H
        have c8b0 : ((rdOf ByteArray.empty t170 0).toList == ([105, 110, 115, 101, 114, 116] : List UInt8)) = true := beq_iff_eq.mpr c8
        have c8b1 : ((rdOf ByteArray.empty t170 0).toList != ([105, 110, 115, 101, 114, 116] : List UInt8)) = false := bne_eq_false_iff_eq.mpr c8
        clear c8
        (first | rw [c8b0] | (simp only [i64_w, i32_w]; rw [c8b0]) | skip)
        have H' := Aside0.mk H
        clear H
        go_wp2
        go_meet
        case rel => exact ⟨_, (4), (by first | rfl | (simp; done) | (simp [*]; done)), H', ⟨by first | omega | exact Nat.le_refl _⟩, ⟨by (with_reducible repeat (first | refine blk_drewN ?_ _ | refine blk_drew ?_ | refine blk_alloc ?_ _)); exact BK169.out⟩, ⟨by repeat (first | (with_reducible first | exact HB.out | apply below_alloc | apply pw_below_drewN | apply below_drew1 | refine below_set ?_ GE169.out) | exact HB.out)⟩⟩
      · rw [if_neg c8] at H
        have c8b0 : ((rdOf ByteArray.empty t170 0).toList == ([105, 110, 115, 101, 114, 116] : List UInt8)) = false := beq_eq_false_iff_ne.mpr c8
        have c8b1 : ((rdOf ByteArray.empty t170 0).toList != ([105, 110, 115, 101, 114, 116] : List UInt8)) = true := bne_iff_ne.mpr c8
        (first | rw [c8b0] | (simp only [i64_w, i32_w]; rw [c8b0]) | skip)
        have H' := Aside0.mk H
        clear H
        go_wp2
        go_meet
        case rel => exact ⟨_, (0), (by first | rfl | (simp; done) | (simp [*]; done)), H', ⟨by first | omega | exact Nat.le_refl _⟩, ⟨by (with_reducible repeat (first | refine blk_drewN ?_ _ | refine blk_drew ?_ | refine blk_alloc ?_ _)); exact BK169.out⟩, ⟨by repeat (first | (with_reducible first | exact HB.out | apply below_alloc | apply pw_below_drewN | apply below_drew1 | refine below_set ?_ GE169.out) | exact HB.out)⟩⟩
    case rest =>
      clear HC4
      try clear c1
      try clear p1
      try clear q1
      try clear hx1
      try clear qi1
      try clear c2
      try clear p2
      try clear c3
      try clear c3b0
      try clear c3b1
      try clear c8
      try clear c8b0
      try clear c8b1
      try clear hx173_0
      try clear p173
      try clear q173
      obtain ⟨kq, x3_3, rfl, HA, HJ3, BK169, HB⟩ := hcut
      cases kq with
      | zero => exact absurd HA.out (by simp [jotterref15_Line.j0])
      | succ kj3 =>
        have H := HA.out
        clear HA
        simp only [jotterref15_Line.j0] at H
        replace H := Option.bind_eq_some_iff.mp H
        obtain ⟨t174, A90, H⟩ := H
        replace H : (if 0 < (t174.length : Int) then ((jotterref15_kindOf.f kj3 (rdOf ByteArray.empty t174 0)).bind fun t178 => (if t178 = 0 then (some (0, 0, 0, 0, 0, 0, ([] : List Int), 153)) else ((jotterref15_words.f kj3 t178).bind fun t179 => (if (t174.length : Int) = (wrap64 ((t179.length : Int) + 1)) then (jotterref15_Line.l0 kj3 t174 t178 t179 0) else (some (t178, 0, 0, 0, 0, 0, ([] : List Int), 154)))))) else (none)) = some (r1, r2, r3, r4, r5, r6, r7, r8) := H
        have A9 := Aside0.mk A90
        clear A90
        by_cases c10 : 0 < (t174.length : Int)
        · rw [if_pos c10] at H
          have c10b0 : decide (0 < (t174.length : Int)) = true := decide_eq_true c10
          have c10b1 : decide (0 < t174.length) = true := decide_eq_true (by omega)
          clear c10
          replace H := Option.bind_eq_some_iff.mp H
          obtain ⟨t178, A110, H⟩ := H
          replace H : (if t178 = 0 then (some (0, 0, 0, 0, 0, 0, ([] : List Int), 153)) else ((jotterref15_words.f kj3 t178).bind fun t179 => (if (t174.length : Int) = (wrap64 ((t179.length : Int) + 1)) then (jotterref15_Line.l0 kj3 t174 t178 t179 0) else (some (t178, 0, 0, 0, 0, 0, ([] : List Int), 154))))) = some (r1, r2, r3, r4, r5, r6, r7, r8) := H
          have A11 := Aside0.mk A110
          clear A110
          by_cases c12 : t178 = 0
          · rw [if_pos c12] at H
            have c12b0 : (t178 == 0) = true := beq_iff_eq.mpr c12
            have c12b1 : (t178 != 0) = false := bne_eq_false_iff_eq.mpr c12
            clear c12
            simp only [Option.some.injEq, Prod.mk.injEq] at H
            obtain ⟨rfl, rfl, rfl, rfl, rfl, rfl, rfl, rfl⟩ := H
            go_wp2_with (first | ((with_reducible refine gate_callee (f := 22) rfl ?_); refine goesL_ (some 20) rfl rfl Tryd.func22 (by kernel_rfl) rfl #[.string a0, .int .u8 32, .int .i64 x3_3] rfl (by (try simp only [List.map_toArray, List.map_cons, List.map_nil]); first | done | rfl | (simp only [List.length_drop, List.length_take]; rfl)) ?_; (with_reducible refine (jotterref15_cut.calls kj3 a0 32 x3_3 t174 _ A9.out).mono ?_); rintro e w13 ⟨v175, rfl, ho0, hb⟩; refine ⟨_, rfl, ?_⟩; have n0_ := Aside0.mk (Kd.R_lower ho0 (below_size (by repeat (first | (with_reducible first | exact HB.out | apply below_alloc | apply pw_below_drewN | apply below_drew1 | refine below_set ?_ GE169.out) | exact HB.out)))); have n1_ := Aside0.mk (blk_below (g := gb169) (o := .cells #[.int .i64 0, .int .i64 0, .int .i64 0, .int .i64 0, .int .i64 0, .int .u8 0, .slice none 0 0, .int .i64 0] 25 (0, 0)) (by (with_reducible repeat (first | refine blk_drewN ?_ _ | refine blk_drew ?_ | refine blk_alloc ?_ _)); exact BK169.out) hb); have n2_ := Aside0.mk (below_step (by repeat (first | (with_reducible first | exact HB.out | apply below_alloc | apply pw_below_drewN | apply below_drew1 | refine below_set ?_ GE169.out) | exact HB.out)) hb); clear BK169; clear HB; have HO176 := n0_; have BK169 := n1_; have HB := n2_; clear n0_ n1_ n2_; (try clear hb); (try clear hb2); (try clear hk); (try clear hi); (try clear ho0); obtain ⟨Ao14, co14, eo14⟩ := Kd.R_slice HO176.out; subst eo14; have p177 : 0 ≤ (0 : Int) := (by omega); have q177 : 0 < (t174.length : Int) := of_decide_eq_true (by first | (with_reducible assumption) | assumption); obtain ⟨ad177, e177, hx177_0⟩ := Kd.at_string (Kd.R_reads' HO176.out).2.2 0 p177 q177; cases e177; have qi177 : (0 < t174.length) = True := eq_true (by omega); (try rw [show ((0 : Int)).toNat = 0 from rfl] at hx177_0); (try rw [Addr.add_zero'] at hx177_0); replace p177 := eq_true p177; replace q177 := eq_true q177) | ((with_reducible refine gate_callee (f := 23) rfl ?_); refine goesL_ (some 24) rfl rfl Tryd.func23 (by kernel_rfl) rfl #[.string (rdOf ByteArray.empty t174 0)] rfl (by (try simp only [List.map_toArray, List.map_cons, List.map_nil]); first | done | rfl | (simp only [List.length_drop, List.length_take]; rfl)) ?_; (with_reducible refine (jotterref15_kindOf.calls kj3 (rdOf ByteArray.empty t174 0) t178 _ A11.out).mono ?_); rintro e w15 ⟨rfl, hb⟩; refine ⟨_, rfl, ?_⟩; have n0_ := Aside0.mk (Kd.R_below (by (with_reducible repeat (first | apply Kd.R_alloc | apply Kd.R_drewN | apply Kd.R_drew)); exact HO176.out) hb); have n1_ := Aside0.mk (blk_below (g := gb169) (o := .cells #[.int .i64 0, .int .i64 0, .int .i64 0, .int .i64 0, .int .i64 0, .int .u8 0, .slice none 0 0, .int .i64 0] 25 (0, 0)) (by (with_reducible repeat (first | refine blk_drewN ?_ _ | refine blk_drew ?_ | refine blk_alloc ?_ _)); exact BK169.out) hb); have n2_ := Aside0.mk (below_step (by repeat (first | (with_reducible first | exact HB.out | apply below_alloc | apply pw_below_drewN | apply below_drew1 | refine below_set ?_ GE169.out) | exact HB.out)) hb); clear HO176; clear BK169; clear HB; have HO176 := n0_; have BK169 := n1_; have HB := n2_; clear n0_ n1_ n2_; (try clear hb); (try clear hb2); (try clear hk); (try clear hi); have hcz16_0 : w15.cell? ⟨gb169, 0, none⟩ = some (.int .i64 0) := (blk_cell BK169.out 0).trans rfl; have hcz16_1 : w15.cell? ⟨gb169, 1, none⟩ = some (.int .i64 0) := (blk_cell BK169.out 1).trans rfl; have hcz16_2 : w15.cell? ⟨gb169, 2, none⟩ = some (.int .i64 0) := (blk_cell BK169.out 2).trans rfl; have hcz16_3 : w15.cell? ⟨gb169, 3, none⟩ = some (.int .i64 0) := (blk_cell BK169.out 3).trans rfl; have hcz16_4 : w15.cell? ⟨gb169, 4, none⟩ = some (.int .i64 0) := (blk_cell BK169.out 4).trans rfl; have hcz16_5 : w15.cell? ⟨gb169, 5, none⟩ = some (.int .u8 0) := (blk_cell BK169.out 5).trans rfl; have hcz16_6 : w15.cell? ⟨gb169, 6, none⟩ = some (.slice none 0 0) := (blk_cell BK169.out 6).trans rfl; have hcz16_7 : w15.cell? ⟨gb169, 7, none⟩ = some (.int .i64 0) := (blk_cell BK169.out 7).trans rfl; have hfz16_0 := blk_frozen BK169.out 0; have hfz16_1 := blk_frozen BK169.out 1; have hfz16_2 := blk_frozen BK169.out 2; have hfz16_3 := blk_frozen BK169.out 3; have hfz16_4 := blk_frozen BK169.out 4; have hfz16_5 := blk_frozen BK169.out 5; have hfz16_6 := blk_frozen BK169.out 6; have hfz16_7 := blk_frozen BK169.out 7))
            refine bodyPost_ret (results_cell_row rfl _ _ gb169 25 #[.int .i64 0, .int .i64 0, .int .i64 0, .int .i64 0, .int .i64 0, .int .u8 0, .slice none 0 0, .int .i64 153] (0, 0) _ rfl (by (with_reducible repeat (first | refine blk_drewN ?_ _ | refine blk_drew ?_ | refine blk_alloc ?_ _)); refine blk_put (cs := #[.int .i64 0, .int .i64 0, .int .i64 0, .int .i64 0, .int .i64 0, .int .u8 0, .slice none 0 0, .int .i64 0]) ?_ 7 _ rfl; (with_reducible repeat (first | refine blk_drewN ?_ _ | refine blk_drew ?_ | refine blk_alloc ?_ _)); refine blk_put (cs := #[.int .i64 0, .int .i64 0, .int .i64 0, .int .i64 0, .int .i64 0, .int .u8 0, .slice none 0 0, .int .i64 0]) ?_ 6 _ rfl; (with_reducible repeat (first | refine blk_drewN ?_ _ | refine blk_drew ?_ | refine blk_alloc ?_ _)); refine blk_put (cs := #[.int .i64 0, .int .i64 0, .int .i64 0, .int .i64 0, .int .i64 0, .int .u8 0, .slice none 0 0, .int .i64 0]) ?_ 5 _ rfl; (with_reducible repeat (first | refine blk_drewN ?_ _ | refine blk_drew ?_ | refine blk_alloc ?_ _)); refine blk_put (cs := #[.int .i64 0, .int .i64 0, .int .i64 0, .int .i64 0, .int .i64 0, .int .u8 0, .slice none 0 0, .int .i64 0]) ?_ 4 _ rfl; (with_reducible repeat (first | refine blk_drewN ?_ _ | refine blk_drew ?_ | refine blk_alloc ?_ _)); refine blk_put (cs := #[.int .i64 0, .int .i64 0, .int .i64 0, .int .i64 0, .int .i64 0, .int .u8 0, .slice none 0 0, .int .i64 0]) ?_ 3 _ rfl; (with_reducible repeat (first | refine blk_drewN ?_ _ | refine blk_drew ?_ | refine blk_alloc ?_ _)); refine blk_put (cs := #[.int .i64 0, .int .i64 0, .int .i64 0, .int .i64 0, .int .i64 0, .int .u8 0, .slice none 0 0, .int .i64 0]) ?_ 2 _ rfl; (with_reducible repeat (first | refine blk_drewN ?_ _ | refine blk_drew ?_ | refine blk_alloc ?_ _)); refine blk_put (cs := #[.int .i64 0, .int .i64 0, .int .i64 0, .int .i64 0, .int .i64 0, .int .u8 0, .slice none 0 0, .int .i64 0]) ?_ 1 _ rfl; (with_reducible repeat (first | refine blk_drewN ?_ _ | refine blk_drew ?_ | refine blk_alloc ?_ _)); refine blk_put (cs := #[.int .i64 0, .int .i64 0, .int .i64 0, .int .i64 0, .int .i64 0, .int .u8 0, .slice none 0 0, .int .i64 0]) ?_ 0 _ rfl; (with_reducible repeat (first | refine blk_drewN ?_ _ | refine blk_drew ?_ | refine blk_alloc ?_ _)); exact BK169.out) Tryd.underlying25 rfl (by kernel_rfl)) rfl ?_
            exact ⟨_, by first | rfl | (simp [errW_none, errW_some] <;> rfl) | (simp [*, errW_none, errW_some] <;> rfl), by first | exact Kd.R_nil _ _ _ _ _ | exact Kd.N_nil _ _ _ _ _ | exact Kd.V_nil _ _ _ _ _ | exact Kd.Q_nil _ _ _ _ _ | exact Kd.S_nil _ _ _ _ _, by repeat (first | (with_reducible first | exact HB.out | apply below_alloc | apply pw_below_drewN | apply below_drew1 | refine below_set ?_ GE169.out) | exact HB.out)⟩
          · rw [if_neg c12] at H
            have c12b0 : (t178 == 0) = false := beq_eq_false_iff_ne.mpr c12
            have c12b1 : (t178 != 0) = true := bne_iff_ne.mpr c12
            replace H := Option.bind_eq_some_iff.mp H
            obtain ⟨t179, A170, H⟩ := H
            replace H : (if (t174.length : Int) = (wrap64 ((t179.length : Int) + 1)) then (jotterref15_Line.l0 kj3 t174 t178 t179 0) else (some (t178, 0, 0, 0, 0, 0, ([] : List Int), 154))) = some (r1, r2, r3, r4, r5, r6, r7, r8) := H
            have A17 := Aside0.mk A170
            clear A170
            by_cases c18 : (t174.length : Int) = (wrap64 ((t179.length : Int) + 1))
            · rw [if_pos c18] at H
              have c18b0 : ((t174.length : Int) == (wrap64 ((t179.length : Int) + 1))) = true := beq_iff_eq.mpr c18
              have c18b1 : ((t174.length : Int) != (wrap64 ((t179.length : Int) + 1))) = false := bne_eq_false_iff_eq.mpr c18
              clear c18
              have H' := Aside0.mk H
              clear H
              go_wp2_with (first | ((with_reducible refine gate_callee (f := 22) rfl ?_); refine goesL_ (some 20) rfl rfl Tryd.func22 (by kernel_rfl) rfl #[.string a0, .int .u8 32, .int .i64 x3_3] rfl (by (try simp only [List.map_toArray, List.map_cons, List.map_nil]); first | done | rfl | (simp only [List.length_drop, List.length_take]; rfl)) ?_; (with_reducible refine (jotterref15_cut.calls kj3 a0 32 x3_3 t174 _ A9.out).mono ?_); rintro e w19 ⟨v175, rfl, ho0, hb⟩; refine ⟨_, rfl, ?_⟩; have n0_ := Aside0.mk (Kd.R_lower ho0 (below_size (by repeat (first | (with_reducible first | exact HB.out | apply below_alloc | apply pw_below_drewN | apply below_drew1 | refine below_set ?_ GE169.out) | exact HB.out)))); have n1_ := Aside0.mk (blk_below (g := gb169) (o := .cells #[.int .i64 0, .int .i64 0, .int .i64 0, .int .i64 0, .int .i64 0, .int .u8 0, .slice none 0 0, .int .i64 0] 25 (0, 0)) (by (with_reducible repeat (first | refine blk_drewN ?_ _ | refine blk_drew ?_ | refine blk_alloc ?_ _)); exact BK169.out) hb); have n2_ := Aside0.mk (below_step (by repeat (first | (with_reducible first | exact HB.out | apply below_alloc | apply pw_below_drewN | apply below_drew1 | refine below_set ?_ GE169.out) | exact HB.out)) hb); clear BK169; clear HB; have HO176 := n0_; have BK169 := n1_; have HB := n2_; clear n0_ n1_ n2_; (try clear hb); (try clear hb2); (try clear hk); (try clear hi); (try clear ho0); obtain ⟨Ao20, co20, eo20⟩ := Kd.R_slice HO176.out; subst eo20; have p177 : 0 ≤ (0 : Int) := (by omega); have q177 : 0 < (t174.length : Int) := of_decide_eq_true (by first | (with_reducible assumption) | assumption); obtain ⟨ad177, e177, hx177_0⟩ := Kd.at_string (Kd.R_reads' HO176.out).2.2 0 p177 q177; cases e177; have qi177 : (0 < t174.length) = True := eq_true (by omega); (try rw [show ((0 : Int)).toNat = 0 from rfl] at hx177_0); (try rw [Addr.add_zero'] at hx177_0); replace p177 := eq_true p177; replace q177 := eq_true q177) | ((with_reducible refine gate_callee (f := 23) rfl ?_); refine goesL_ (some 24) rfl rfl Tryd.func23 (by kernel_rfl) rfl #[.string (rdOf ByteArray.empty t174 0)] rfl (by (try simp only [List.map_toArray, List.map_cons, List.map_nil]); first | done | rfl | (simp only [List.length_drop, List.length_take]; rfl)) ?_; (with_reducible refine (jotterref15_kindOf.calls kj3 (rdOf ByteArray.empty t174 0) t178 _ A11.out).mono ?_); rintro e w21 ⟨rfl, hb⟩; refine ⟨_, rfl, ?_⟩; have n0_ := Aside0.mk (Kd.R_below (by (with_reducible repeat (first | apply Kd.R_alloc | apply Kd.R_drewN | apply Kd.R_drew)); exact HO176.out) hb); have n1_ := Aside0.mk (blk_below (g := gb169) (o := .cells #[.int .i64 0, .int .i64 0, .int .i64 0, .int .i64 0, .int .i64 0, .int .u8 0, .slice none 0 0, .int .i64 0] 25 (0, 0)) (by (with_reducible repeat (first | refine blk_drewN ?_ _ | refine blk_drew ?_ | refine blk_alloc ?_ _)); exact BK169.out) hb); have n2_ := Aside0.mk (below_step (by repeat (first | (with_reducible first | exact HB.out | apply below_alloc | apply pw_below_drewN | apply below_drew1 | refine below_set ?_ GE169.out) | exact HB.out)) hb); clear HO176; clear BK169; clear HB; have HO176 := n0_; have BK169 := n1_; have HB := n2_; clear n0_ n1_ n2_; (try clear hb); (try clear hb2); (try clear hk); (try clear hi)) | ((with_reducible refine gate_callee (f := 24) rfl ?_); refine goesL_ (some 29) rfl rfl Tryd.func24 (by kernel_rfl) rfl #[.int .i64 t178] rfl (by (try simp only [List.map_toArray, List.map_cons, List.map_nil]); first | done | rfl | (simp only [List.length_drop, List.length_take]; rfl)) ?_; (with_reducible refine (jotterref15_words.calls kj3 t178 t179 _ A17.out).mono ?_); rintro e w22 ⟨v180, rfl, ho0, hb⟩; refine ⟨_, rfl, ?_⟩; have n0_ := Aside0.mk (Kd.R_below (by (with_reducible repeat (first | apply Kd.R_alloc | apply Kd.R_drewN | apply Kd.R_drew)); exact HO176.out) hb); have n1_ := Aside0.mk (Kd.R_lower ho0 (below_size (by repeat (first | (with_reducible first | exact HB.out | apply below_alloc | apply pw_below_drewN | apply below_drew1 | refine below_set ?_ GE169.out) | exact HB.out)))); have n2_ := Aside0.mk (blk_below (g := gb169) (o := .cells #[.int .i64 0, .int .i64 0, .int .i64 0, .int .i64 0, .int .i64 0, .int .u8 0, .slice none 0 0, .int .i64 0] 25 (0, 0)) (by (with_reducible repeat (first | refine blk_drewN ?_ _ | refine blk_drew ?_ | refine blk_alloc ?_ _)); exact BK169.out) hb); have n3_ := Aside0.mk (below_step (by repeat (first | (with_reducible first | exact HB.out | apply below_alloc | apply pw_below_drewN | apply below_drew1 | refine below_set ?_ GE169.out) | exact HB.out)) hb); clear HO176; clear BK169; clear HB; have HO176 := n0_; have HO181 := n1_; have BK169 := n2_; have HB := n3_; clear n0_ n1_ n2_ n3_; (try clear hb); (try clear hb2); (try clear hk); (try clear hi); (try clear ho0); obtain ⟨Ao23, co23, eo23⟩ := Kd.R_slice HO181.out; subst eo23))
              go_loopg [7] kj3 (fun kq v7 w' => ∃ (x7_2 : Int) (x170000_2 : Int) (x170001_2 : Int) (x170002_2 : Int) (x170003_2 : Int) (x170004_2 : Int) (x170005_2 : Int) (x170007_2 : Int), v7 = .int .i64 x7_2 ∧ Aside0 (jotterref15_Line.l0 kq t174 t178 t179 x7_2 = some (r1, r2, r3, r4, r5, r6, r7, r8)) ∧ Aside0 (kq ≤ kj3) ∧ Aside0 (Kd.R Kd.string 9 w' w.heap.size (fun _ => True) (.slice (some ad177) t174.length co20) t174) ∧ Aside0 (Kd.R k59 59 w' w.heap.size (fun _ => True) (.slice Ao23 t179.length co23) t179) ∧ Aside0 (w'.heap[gb169]? = some (.cells #[.int .i64 x170000_2, .int .i64 x170001_2, .int .i64 x170002_2, .int .i64 x170003_2, .int .i64 x170004_2, .int .u8 x170005_2, (.slice none 0 0), .int .i64 x170007_2] 25 (0, 0))) ∧ Aside0 (Below w.heap.size w w'))
              case atStart => exact ⟨(0), (0), (0), (0), (0), (0), (0), (0), (by first | rfl | (simp; done) | (simp [*]; done)), H', ⟨Nat.le_refl _⟩, ⟨by (with_reducible repeat (first | apply Kd.R_alloc | apply Kd.R_drewN | apply Kd.R_drew)); exact HO176.out⟩, ⟨by (with_reducible repeat (first | apply Kd.R_alloc | apply Kd.R_drewN | apply Kd.R_drew)); exact HO181.out⟩, ⟨by (with_reducible repeat (first | refine blk_drewN ?_ _ | refine blk_drew ?_ | refine blk_alloc ?_ _)); exact BK169.out⟩, ⟨by repeat (first | (with_reducible first | exact HB.out | apply below_alloc | apply pw_below_drewN | apply below_drew1 | refine below_set ?_ GE169.out) | exact HB.out)⟩⟩
              case round =>
                clear H'
                try clear c1
                try clear p1
                try clear q1
                try clear hx1
                try clear qi1
                try clear c2
                try clear p2
                try clear c3
                try clear c3b0
                try clear c3b1
                try clear p6
                try clear c8
                try clear c8b0
                try clear c8b1
                try clear c10
                try clear c10b0
                try clear c10b1
                try clear c11
                try clear c12
                try clear c12b0
                try clear c12b1
                try clear p17
                try clear q17
                try clear hx17
                try clear qi17
                try clear c18
                try clear c18b0
                try clear c18b1
                try clear c22
                try clear c23
                try clear hcz16_0
                try clear hcz16_1
                try clear hcz16_2
                try clear hcz16_3
                try clear hcz16_4
                try clear hcz16_5
                try clear hcz16_6
                try clear hcz16_7
                try clear hfz16_0
                try clear hfz16_1
                try clear hfz16_2
                try clear hfz16_3
                try clear hfz16_4
                try clear hfz16_5
                try clear hfz16_6
                try clear hfz16_7
                try clear hx173_0
                try clear hx177_0
                try clear p1
                try clear p173
                try clear p177
                try clear p2
                try clear q1
                try clear q173
                try clear q177
                obtain ⟨x7_2, x170000_2, x170001_2, x170002_2, x170003_2, x170004_2, x170005_2, x170007_2, rfl, HA, HK2, HO_4, HO_6, BK169, HB⟩ := hrel
                cases gk with
                | zero => exact absurd HA.out (by simp [jotterref15_Line.l0])
                | succ k2 =>
                  have H := HA.out
                  clear HA
                  simp only [jotterref15_Line.l0] at H
                  by_cases c24 : x7_2 < (t179.length : Int)
                  · rw [if_pos c24] at H
                    have c24b0 : decide (x7_2 < (t179.length : Int)) = true := decide_eq_true c24
                    clear c24
                    by_cases c25 : 0 ≤ x7_2
                    · rw [if_pos c25] at H
                      have c25b0 : decide (0 ≤ x7_2) = true := decide_eq_true c25
                      clear c25
                      obtain ⟨ji26, hji26⟩ : ∃ j_ : Int, (wrap64 (x7_2 + 1)) = j_ := ⟨_, rfl⟩
                      replace H : (if 0 ≤ (ji26) then (if (ji26) < (t174.length : Int) then ((jotterref15_formed.f k2 ((rd_T59 t179 x7_2).f0) ((rd_T59 t179 x7_2).f1) ((rd_T59 t179 x7_2).f2) (rdOf ByteArray.empty t174 (ji26))).bind fun t184 => (if t184 = 0 then (jotterref15_Line.l0 k2 t174 t178 t179 ji26) else (some (t178, 0, 0, 0, 0, 0, ([] : List Int), t184)))) else (none)) else (none)) = some (r1, r2, r3, r4, r5, r6, r7, r8) := by first | (rw [hji26] at H; exact H) | (simp only [hji26] at H ⊢; exact H)
                      have hji26w : (IntKind.i64.wrap (x7_2 + 1)) = ji26 := (i64_w _).trans hji26
                      by_cases c27 : 0 ≤ (ji26)
                      · rw [if_pos c27] at H
                        have c27b0 : decide (0 ≤ (ji26)) = true := decide_eq_true c27
                        clear c27
                        by_cases c28 : (ji26) < (t174.length : Int)
                        · rw [if_pos c28] at H
                          have c28b0 : decide ((ji26) < (t174.length : Int)) = true := decide_eq_true c28
                          clear c28
                          replace H := Option.bind_eq_some_iff.mp H
                          obtain ⟨t184, A290, H⟩ := H
                          replace H : (if t184 = 0 then (jotterref15_Line.l0 k2 t174 t178 t179 ji26) else (some (t178, 0, 0, 0, 0, 0, ([] : List Int), t184))) = some (r1, r2, r3, r4, r5, r6, r7, r8) := H
                          have A29 := Aside0.mk A290
                          clear A290
                          by_cases c30 : t184 = 0
                          · rw [if_pos c30] at H
                            have c30b0 : (t184 == 0) = true := beq_iff_eq.mpr c30
                            have c30b1 : (t184 != 0) = false := bne_eq_false_iff_eq.mpr c30
                            clear c30
                            have H' := Aside0.mk H
                            clear H
                            try go_wp2
                            have n0_ := Aside0.mk (Kd.R_drew HO_4.out)
                            have n1_ := Aside0.mk (Kd.R_drew HO_6.out)
                            have n2_ := Aside0.mk (blk_drew BK169.out)
                            have n3_ := Aside0.mk (below_drew1 HB.out)
                            clear HO_4
                            clear HO_6
                            clear BK169
                            clear HB
                            have HO_4 := n0_
                            have HO_6 := n1_
                            have BK169 := n2_
                            have HB := n3_
                            clear n0_ n1_ n2_ n3_
                            have p182 : 0 ≤ (x7_2 : Int) := of_decide_eq_true (by first | (with_reducible assumption) | assumption)
                            have q182 : x7_2 < (t179.length : Int) := of_decide_eq_true (by first | (with_reducible assumption) | assumption)
                            obtain ⟨ad182, e182, hx182_0, hx182_1, hx182_2⟩ := at_T59 (Kd.R_reads' HO_6.out).2.2 x7_2 p182 q182
                            cases e182
                            replace p182 := eq_true p182
                            replace q182 := eq_true q182
                            have p183 : 0 ≤ ((ji26) : Int) := of_decide_eq_true (by first | (with_reducible assumption) | assumption)
                            have q183 : (ji26) < (t174.length : Int) := of_decide_eq_true (by first | (with_reducible assumption) | assumption)
                            obtain ⟨ad183, e183, hx183_0⟩ := Kd.at_string (Kd.R_reads' HO_4.out).2.2 (ji26) p183 q183
                            obtain rfl : ad177 = ad183 := (by injection e183)
                            replace p183 := eq_true p183
                            replace q183 := eq_true q183
                            refine start_ (n := 11) (S := fun w' => w'.cell? (ad182.add ((x7_2).toNat * 3)) = some (.int .u8 ((rd_T59 t179 x7_2).f0)) ∧ w'.cell? ⟨(ad182.add ((x7_2).toNat * 3)).block, (ad182.add ((x7_2).toNat * 3)).off + 1, none⟩ = some (.int .i64 ((rd_T59 t179 x7_2).f1)) ∧ w'.cell? ⟨(ad182.add ((x7_2).toNat * 3)).block, (ad182.add ((x7_2).toNat * 3)).off + 2, none⟩ = some (.int .i64 ((rd_T59 t179 x7_2).f2)) ∧ w'.cell? (ad177.add ((ji26)).toNat) = some (.string (rdOf ByteArray.empty t174 (ji26)))) (ds := []) #[false, false, false, false, false, false, false, false, false, false, false] (by kernel_rfl) rfl rfl ⟨hx182_0, hx182_1, hx182_2, hx183_0⟩ (fun hHeld => ?_); refine with_tabW jotterref15_Line.tab15 jotterref15_Line.bits15 (fun HT_ HW_ => ?_)
                            generalize wr.drew = w31 at HO_4 HO_6 BK169 HB hx182_0 hx182_1 hx182_2 hx183_0 hHeld ⊢
                            refine pure_ (i := 0) (N := some 44) (v := ?_) (a' := ?_) #[true, false, false, false, false, false, false, false, false, false, false] rfl rfl (any_of HT_.out (by kernel_rfl)) (fun _ _ _ h => h) (Or.inl ⟨by rfl, ?_⟩) ?_ ?_
                            rotate_left
                            · intro w'
                              go_simp
                              with_reducible rfl
                            rotate_left
                            · simp only [Act.put, List.setIfInBounds_toArray, List.set_cons_zero, List.set_cons_succ, i64_w, i32_w]
                              rfl
                            refine pure_ (i := 1) (N := some 45) (v := ?_) (a' := ?_) #[true, true, false, false, false, false, false, false, false, false, false] rfl rfl (any_of HT_.out (by kernel_rfl)) (fun _ _ _ h => h) (Or.inl ⟨by rfl, ?_⟩) ?_ ?_
                            rotate_left
                            · intro w'
                              go_simp
                              with_reducible rfl
                            rotate_left
                            · simp only [Act.put, List.setIfInBounds_toArray, List.set_cons_zero, List.set_cons_succ, i64_w, i32_w]
                              rfl
                            refine pure_ (i := 2) (N := some 46) (v := ?_) (a' := ?_) #[true, true, true, false, false, false, false, false, false, false, false] rfl rfl (any_of HT_.out (by kernel_rfl)) (fun _ _ _ h => h) (Or.inl ⟨by rfl, ?_⟩) ?_ ?_
                            rotate_left
                            · intro w'
                              go_simp
                              with_reducible rfl
                            rotate_left
                            · simp only [Act.put, List.setIfInBounds_toArray, List.set_cons_zero, List.set_cons_succ, i64_w, i32_w]
                              rfl
                            refine pure_ (i := 4) (N := some 48) (v := ?_) (a' := ?_) #[true, true, true, false, true, false, false, false, false, false, false] rfl rfl (any_of HT_.out (by kernel_rfl)) (fun _ _ _ h => h) (Or.inl ⟨by rfl, ?_⟩) ?_ ?_
                            rotate_left
                            · intro w'
                              go_simp
                              with_reducible rfl
                            rotate_left
                            · simp only [Act.put, List.setIfInBounds_toArray, List.set_cons_zero, List.set_cons_succ, i64_w, i32_w]
                              rfl
                            refine pure_ (i := 5) (N := some 49) (v := ?_) (a' := ?_) #[true, true, true, false, true, true, false, false, false, false, false] rfl rfl (any_of HT_.out (by kernel_rfl)) (fun _ _ _ h => h) (Or.inl ⟨by rfl, ?_⟩) ?_ ?_
                            rotate_left
                            · intro w'
                              go_simp
                              with_reducible rfl
                            rotate_left
                            · simp only [Act.put, List.setIfInBounds_toArray, List.set_cons_zero, List.set_cons_succ, i64_w, i32_w]
                              rfl
                            refine pure_ (i := 6) (N := some 50) (v := ?_) (a' := ?_) #[true, true, true, false, true, true, true, false, false, false, false] rfl rfl (any_of HT_.out (by kernel_rfl)) (fun _ _ _ h => h) (Or.inl ⟨by rfl, ?_⟩) ?_ ?_
                            rotate_left
                            · intro w'
                              go_simp
                              with_reducible rfl
                            rotate_left
                            · simp only [Act.put, List.setIfInBounds_toArray, List.set_cons_zero, List.set_cons_succ, i64_w, i32_w]
                              rfl
                            refine pure_ (i := 7) (N := some 51) (v := ?_) (a' := ?_) #[true, true, true, false, true, true, true, true, false, false, false] rfl rfl (any_of HT_.out (by kernel_rfl)) (fun _ _ _ h => h) (Or.inl ⟨by rfl, ?_⟩) ?_ ?_
                            rotate_left
                            · intro w'
                              go_simp
                              with_reducible rfl
                            rotate_left
                            · simp only [Act.put, List.setIfInBounds_toArray, List.set_cons_zero, List.set_cons_succ, i64_w, i32_w]
                              rfl
                            refine take_ (i := 3) (N := some 47) (v := ?_) (a' := ?_) #[true, true, true, true, true, true, true, true, false, false, false] rfl rfl (take_ofW HT_.out HW_.out (by kernel_rfl)) (fun _ _ _ h => h) (Or.inl ⟨by rfl, ?_⟩) hHeld ?_ ?_
                            rotate_left
                            · rintro w' ⟨s0, s1, s2, s3⟩
                              go_simp
                              with_reducible rfl
                            rotate_left
                            · simp only [Act.put, List.setIfInBounds_toArray, List.set_cons_zero, List.set_cons_succ, i64_w, i32_w]
                              rfl
                            refine take_ (i := 8) (N := some 52) (v := ?_) (a' := ?_) #[true, true, true, true, true, true, true, true, true, false, false] rfl rfl (take_ofW HT_.out HW_.out (by kernel_rfl)) (fun _ _ _ h => h) (Or.inl ⟨by rfl, ?_⟩) hHeld ?_ ?_
                            rotate_left
                            · rintro w' ⟨s0, s1, s2, s3⟩
                              go_simp
                              with_reducible rfl
                            rotate_left
                            · simp only [Act.put, List.setIfInBounds_toArray, List.set_cons_zero, List.set_cons_succ, i64_w, i32_w]
                              rfl
                            refine one_ (i := 9) (N := some 53) #[true, true, true, true, true, true, true, true, true, true, false] rfl rfl (one_of HT_.out (by kernel_rfl)) (by decide) (fun K hK => ?_)
                            refine goes_ Tryd.func25 (by kernel_rfl) rfl #[.agg #[.int .u8 ((rd_T59 t179 x7_2).f0), .int .i64 ((rd_T59 t179 x7_2).f1), .int .i64 ((rd_T59 t179 x7_2).f2)], .string (rdOf ByteArray.empty t174 (ji26))] (by rfl) rfl rfl (by (try simp only [List.map_toArray, List.map_cons, List.map_nil]); first | done | (simp only [hji26]; rfl) | rfl | (simp only [List.length_drop, List.length_take]; rfl)) ?_
                            with_reducible refine (jotterref15_formed.calls k2 ((rd_T59 t179 x7_2).f0) ((rd_T59 t179 x7_2).f1) ((rd_T59 t179 x7_2).f2) (rdOf ByteArray.empty t174 (ji26)) t184 _ A29.out).mono ?_
                            rintro e w32 ⟨rfl, hb⟩
                            have HS0_ := (hb.cell (World.block_lt_of_cell? _ _ (hHeld.1))).trans (hHeld.1)
                            have HS1_ := (hb.cell (World.block_lt_of_cell? _ _ (hHeld.2.1))).trans (hHeld.2.1)
                            have HS2_ := (hb.cell (World.block_lt_of_cell? _ _ (hHeld.2.2.1))).trans (hHeld.2.2.1)
                            have HS3_ := (hb.cell (World.block_lt_of_cell? _ _ (hHeld.2.2.2))).trans (hHeld.2.2.2)
                            refine ⟨_, rfl, ?_⟩
                            have n0_ := Aside0.mk (Kd.R_below (by (with_reducible repeat (first | apply Kd.R_alloc | apply Kd.R_drewN | apply Kd.R_drew)); exact HO_4.out) hb)
                            have n1_ := Aside0.mk (Kd.R_below (by (with_reducible repeat (first | apply Kd.R_alloc | apply Kd.R_drewN | apply Kd.R_drew)); exact HO_6.out) hb)
                            have n2_ := Aside0.mk (blk_below (g := gb169) (o := .cells #[.int .i64 x170000_2, .int .i64 x170001_2, .int .i64 x170002_2, .int .i64 x170003_2, .int .i64 x170004_2, .int .u8 x170005_2, .slice none 0 0, .int .i64 x170007_2] 25 (0, 0)) (by (with_reducible repeat (first | refine blk_drewN ?_ _ | refine blk_drew ?_ | refine blk_alloc ?_ _)); exact BK169.out) hb)
                            have n3_ := Aside0.mk (below_step (by repeat (first | (with_reducible first | exact HB.out | apply below_alloc | apply pw_below_drewN | apply below_drew1 | refine below_set ?_ GE169.out) | exact HB.out)) hb)
                            clear HO_4
                            clear HO_6
                            clear BK169
                            clear HB
                            have HO_4 := n0_
                            have HO_6 := n1_
                            have BK169 := n2_
                            have HB := n3_
                            clear n0_ n1_ n2_ n3_
                            (try clear hb)
                            (try clear hb2)
                            (try clear hk)
                            (try clear hi)
                            refine hK.out _ _ ⟨HS0_, HS1_, HS2_, HS3_⟩ (fun hHeld => ?_)
                            clear hK K
                            refine norm_ (a' := ?_) ?_ ?_
                            rotate_left
                            · show Act.put _ (some 53) _ = _
                              simp only [Act.put, List.setIfInBounds_toArray, List.set_cons_zero, List.set_cons_succ, i64_w, i32_w]
                              rfl
                            refine pure_ (i := 10) (N := some 8) (v := ?_) (a' := ?_) #[true, true, true, true, true, true, true, true, true, true, true] rfl rfl (any_of HT_.out (by kernel_rfl)) (fun _ _ _ h => h) (Or.inl ⟨by rfl, ?_⟩) ?_ ?_
                            rotate_left
                            · intro w'
                              go_simp
                              with_reducible rfl
                            rotate_left
                            · simp only [Act.put, List.setIfInBounds_toArray, List.set_cons_zero, List.set_cons_succ, i64_w, i32_w]
                              rfl
                            refine done_ (done_of HT_.out (by kernel_rfl)) ?_
                            try go_wp2
                            go_roundg k2
                            case measure => have := HJ3.out; have := HK2.out; omega
                            case rel => exact ⟨(ji26), (x170000_2), (x170001_2), (x170002_2), (x170003_2), (x170004_2), (x170005_2), (x170007_2), (by first | rfl | (simp; done) | (simp only [← hji26] <;> (first | rfl | simp)) | (simp [*]; done)), H', ⟨by have := HJ3.out; have := HK2.out; omega⟩, ⟨by (with_reducible repeat (first | apply Kd.R_alloc | apply Kd.R_drewN | apply Kd.R_drew)); exact HO_4.out⟩, ⟨by (with_reducible repeat (first | apply Kd.R_alloc | apply Kd.R_drewN | apply Kd.R_drew)); exact HO_6.out⟩, ⟨by (with_reducible repeat (first | refine blk_drewN ?_ _ | refine blk_drew ?_ | refine blk_alloc ?_ _)); exact BK169.out⟩, ⟨by repeat (first | (with_reducible first | exact HB.out | apply below_alloc | apply pw_below_drewN | apply below_drew1 | refine below_set ?_ GE169.out) | exact HB.out)⟩⟩
                          · rw [if_neg c30] at H
                            have c30b0 : (t184 == 0) = false := beq_eq_false_iff_ne.mpr c30
                            have c30b1 : (t184 != 0) = true := bne_iff_ne.mpr c30
                            simp only [Option.some.injEq, Prod.mk.injEq] at H
                            obtain ⟨rfl, rfl, rfl, rfl, rfl, rfl, rfl, rfl⟩ := H
                            try go_wp2
                            have n0_ := Aside0.mk (Kd.R_drew HO_4.out)
                            have n1_ := Aside0.mk (Kd.R_drew HO_6.out)
                            have n2_ := Aside0.mk (blk_drew BK169.out)
                            have n3_ := Aside0.mk (below_drew1 HB.out)
                            clear HO_4
                            clear HO_6
                            clear BK169
                            clear HB
                            have HO_4 := n0_
                            have HO_6 := n1_
                            have BK169 := n2_
                            have HB := n3_
                            clear n0_ n1_ n2_ n3_
                            have p182 : 0 ≤ (x7_2 : Int) := of_decide_eq_true (by first | (with_reducible assumption) | assumption)
                            have q182 : x7_2 < (t179.length : Int) := of_decide_eq_true (by first | (with_reducible assumption) | assumption)
                            obtain ⟨ad182, e182, hx182_0, hx182_1, hx182_2⟩ := at_T59 (Kd.R_reads' HO_6.out).2.2 x7_2 p182 q182
                            cases e182
                            replace p182 := eq_true p182
                            replace q182 := eq_true q182
                            have p183 : 0 ≤ ((ji26) : Int) := of_decide_eq_true (by first | (with_reducible assumption) | assumption)
                            have q183 : (ji26) < (t174.length : Int) := of_decide_eq_true (by first | (with_reducible assumption) | assumption)
                            obtain ⟨ad183, e183, hx183_0⟩ := Kd.at_string (Kd.R_reads' HO_4.out).2.2 (ji26) p183 q183
                            obtain rfl : ad177 = ad183 := (by injection e183)
                            replace p183 := eq_true p183
                            replace q183 := eq_true q183
                            refine start_ (n := 11) (S := fun w' => w'.cell? (ad182.add ((x7_2).toNat * 3)) = some (.int .u8 ((rd_T59 t179 x7_2).f0)) ∧ w'.cell? ⟨(ad182.add ((x7_2).toNat * 3)).block, (ad182.add ((x7_2).toNat * 3)).off + 1, none⟩ = some (.int .i64 ((rd_T59 t179 x7_2).f1)) ∧ w'.cell? ⟨(ad182.add ((x7_2).toNat * 3)).block, (ad182.add ((x7_2).toNat * 3)).off + 2, none⟩ = some (.int .i64 ((rd_T59 t179 x7_2).f2)) ∧ w'.cell? (ad177.add ((ji26)).toNat) = some (.string (rdOf ByteArray.empty t174 (ji26)))) (ds := []) #[false, false, false, false, false, false, false, false, false, false, false] (by kernel_rfl) rfl rfl ⟨hx182_0, hx182_1, hx182_2, hx183_0⟩ (fun hHeld => ?_); refine with_tabW jotterref15_Line.tab15 jotterref15_Line.bits15 (fun HT_ HW_ => ?_)
                            generalize wr.drew = w33 at HO_4 HO_6 BK169 HB hx182_0 hx182_1 hx182_2 hx183_0 hHeld ⊢
                            refine pure_ (i := 0) (N := some 44) (v := ?_) (a' := ?_) #[true, false, false, false, false, false, false, false, false, false, false] rfl rfl (any_of HT_.out (by kernel_rfl)) (fun _ _ _ h => h) (Or.inl ⟨by rfl, ?_⟩) ?_ ?_
                            rotate_left
                            · intro w'
                              go_simp
                              with_reducible rfl
                            rotate_left
                            · simp only [Act.put, List.setIfInBounds_toArray, List.set_cons_zero, List.set_cons_succ, i64_w, i32_w]
                              rfl
                            refine pure_ (i := 1) (N := some 45) (v := ?_) (a' := ?_) #[true, true, false, false, false, false, false, false, false, false, false] rfl rfl (any_of HT_.out (by kernel_rfl)) (fun _ _ _ h => h) (Or.inl ⟨by rfl, ?_⟩) ?_ ?_
                            rotate_left
                            · intro w'
                              go_simp
                              with_reducible rfl
                            rotate_left
                            · simp only [Act.put, List.setIfInBounds_toArray, List.set_cons_zero, List.set_cons_succ, i64_w, i32_w]
                              rfl
                            refine pure_ (i := 2) (N := some 46) (v := ?_) (a' := ?_) #[true, true, true, false, false, false, false, false, false, false, false] rfl rfl (any_of HT_.out (by kernel_rfl)) (fun _ _ _ h => h) (Or.inl ⟨by rfl, ?_⟩) ?_ ?_
                            rotate_left
                            · intro w'
                              go_simp
                              with_reducible rfl
                            rotate_left
                            · simp only [Act.put, List.setIfInBounds_toArray, List.set_cons_zero, List.set_cons_succ, i64_w, i32_w]
                              rfl
                            refine pure_ (i := 4) (N := some 48) (v := ?_) (a' := ?_) #[true, true, true, false, true, false, false, false, false, false, false] rfl rfl (any_of HT_.out (by kernel_rfl)) (fun _ _ _ h => h) (Or.inl ⟨by rfl, ?_⟩) ?_ ?_
                            rotate_left
                            · intro w'
                              go_simp
                              with_reducible rfl
                            rotate_left
                            · simp only [Act.put, List.setIfInBounds_toArray, List.set_cons_zero, List.set_cons_succ, i64_w, i32_w]
                              rfl
                            refine pure_ (i := 5) (N := some 49) (v := ?_) (a' := ?_) #[true, true, true, false, true, true, false, false, false, false, false] rfl rfl (any_of HT_.out (by kernel_rfl)) (fun _ _ _ h => h) (Or.inl ⟨by rfl, ?_⟩) ?_ ?_
                            rotate_left
                            · intro w'
                              go_simp
                              with_reducible rfl
                            rotate_left
                            · simp only [Act.put, List.setIfInBounds_toArray, List.set_cons_zero, List.set_cons_succ, i64_w, i32_w]
                              rfl
                            refine pure_ (i := 6) (N := some 50) (v := ?_) (a' := ?_) #[true, true, true, false, true, true, true, false, false, false, false] rfl rfl (any_of HT_.out (by kernel_rfl)) (fun _ _ _ h => h) (Or.inl ⟨by rfl, ?_⟩) ?_ ?_
                            rotate_left
                            · intro w'
                              go_simp
                              with_reducible rfl
                            rotate_left
                            · simp only [Act.put, List.setIfInBounds_toArray, List.set_cons_zero, List.set_cons_succ, i64_w, i32_w]
                              rfl
                            refine pure_ (i := 7) (N := some 51) (v := ?_) (a' := ?_) #[true, true, true, false, true, true, true, true, false, false, false] rfl rfl (any_of HT_.out (by kernel_rfl)) (fun _ _ _ h => h) (Or.inl ⟨by rfl, ?_⟩) ?_ ?_
                            rotate_left
                            · intro w'
                              go_simp
                              with_reducible rfl
                            rotate_left
                            · simp only [Act.put, List.setIfInBounds_toArray, List.set_cons_zero, List.set_cons_succ, i64_w, i32_w]
                              rfl
                            refine take_ (i := 3) (N := some 47) (v := ?_) (a' := ?_) #[true, true, true, true, true, true, true, true, false, false, false] rfl rfl (take_ofW HT_.out HW_.out (by kernel_rfl)) (fun _ _ _ h => h) (Or.inl ⟨by rfl, ?_⟩) hHeld ?_ ?_
                            rotate_left
                            · rintro w' ⟨s0, s1, s2, s3⟩
                              go_simp
                              with_reducible rfl
                            rotate_left
                            · simp only [Act.put, List.setIfInBounds_toArray, List.set_cons_zero, List.set_cons_succ, i64_w, i32_w]
                              rfl
                            refine take_ (i := 8) (N := some 52) (v := ?_) (a' := ?_) #[true, true, true, true, true, true, true, true, true, false, false] rfl rfl (take_ofW HT_.out HW_.out (by kernel_rfl)) (fun _ _ _ h => h) (Or.inl ⟨by rfl, ?_⟩) hHeld ?_ ?_
                            rotate_left
                            · rintro w' ⟨s0, s1, s2, s3⟩
                              go_simp
                              with_reducible rfl
                            rotate_left
                            · simp only [Act.put, List.setIfInBounds_toArray, List.set_cons_zero, List.set_cons_succ, i64_w, i32_w]
                              rfl
                            refine one_ (i := 9) (N := some 53) #[true, true, true, true, true, true, true, true, true, true, false] rfl rfl (one_of HT_.out (by kernel_rfl)) (by decide) (fun K hK => ?_)
                            refine goes_ Tryd.func25 (by kernel_rfl) rfl #[.agg #[.int .u8 ((rd_T59 t179 x7_2).f0), .int .i64 ((rd_T59 t179 x7_2).f1), .int .i64 ((rd_T59 t179 x7_2).f2)], .string (rdOf ByteArray.empty t174 (ji26))] (by rfl) rfl rfl (by (try simp only [List.map_toArray, List.map_cons, List.map_nil]); first | done | (simp only [hji26]; rfl) | rfl | (simp only [List.length_drop, List.length_take]; rfl)) ?_
                            with_reducible refine (jotterref15_formed.calls k2 ((rd_T59 t179 x7_2).f0) ((rd_T59 t179 x7_2).f1) ((rd_T59 t179 x7_2).f2) (rdOf ByteArray.empty t174 (ji26)) t184 _ A29.out).mono ?_
                            rintro e w34 ⟨rfl, hb⟩
                            have HS0_ := (hb.cell (World.block_lt_of_cell? _ _ (hHeld.1))).trans (hHeld.1)
                            have HS1_ := (hb.cell (World.block_lt_of_cell? _ _ (hHeld.2.1))).trans (hHeld.2.1)
                            have HS2_ := (hb.cell (World.block_lt_of_cell? _ _ (hHeld.2.2.1))).trans (hHeld.2.2.1)
                            have HS3_ := (hb.cell (World.block_lt_of_cell? _ _ (hHeld.2.2.2))).trans (hHeld.2.2.2)
                            refine ⟨_, rfl, ?_⟩
                            have n0_ := Aside0.mk (Kd.R_below (by (with_reducible repeat (first | apply Kd.R_alloc | apply Kd.R_drewN | apply Kd.R_drew)); exact HO_4.out) hb)
                            have n1_ := Aside0.mk (Kd.R_below (by (with_reducible repeat (first | apply Kd.R_alloc | apply Kd.R_drewN | apply Kd.R_drew)); exact HO_6.out) hb)
                            have n2_ := Aside0.mk (blk_below (g := gb169) (o := .cells #[.int .i64 x170000_2, .int .i64 x170001_2, .int .i64 x170002_2, .int .i64 x170003_2, .int .i64 x170004_2, .int .u8 x170005_2, .slice none 0 0, .int .i64 x170007_2] 25 (0, 0)) (by (with_reducible repeat (first | refine blk_drewN ?_ _ | refine blk_drew ?_ | refine blk_alloc ?_ _)); exact BK169.out) hb)
                            have n3_ := Aside0.mk (below_step (by repeat (first | (with_reducible first | exact HB.out | apply below_alloc | apply pw_below_drewN | apply below_drew1 | refine below_set ?_ GE169.out) | exact HB.out)) hb)
                            clear HO_4
                            clear HO_6
                            clear BK169
                            clear HB
                            have HO_4 := n0_
                            have HO_6 := n1_
                            have BK169 := n2_
                            have HB := n3_
                            clear n0_ n1_ n2_ n3_
                            (try clear hb)
                            (try clear hb2)
                            (try clear hk)
                            (try clear hi)
                            refine hK.out _ _ ⟨HS0_, HS1_, HS2_, HS3_⟩ (fun hHeld => ?_)
                            clear hK K
                            refine norm_ (a' := ?_) ?_ ?_
                            rotate_left
                            · show Act.put _ (some 53) _ = _
                              simp only [Act.put, List.setIfInBounds_toArray, List.set_cons_zero, List.set_cons_succ, i64_w, i32_w]
                              rfl
                            refine pure_ (i := 10) (N := some 8) (v := ?_) (a' := ?_) #[true, true, true, true, true, true, true, true, true, true, true] rfl rfl (any_of HT_.out (by kernel_rfl)) (fun _ _ _ h => h) (Or.inl ⟨by rfl, ?_⟩) ?_ ?_
                            rotate_left
                            · intro w'
                              go_simp
                              with_reducible rfl
                            rotate_left
                            · simp only [Act.put, List.setIfInBounds_toArray, List.set_cons_zero, List.set_cons_succ, i64_w, i32_w]
                              rfl
                            refine done_ (done_of HT_.out (by kernel_rfl)) ?_
                            have hcz35_0 : w34.cell? ⟨gb169, 0, none⟩ = some (.int .i64 x170000_2) := (blk_cell BK169.out 0).trans rfl
                            have hcz35_1 : w34.cell? ⟨gb169, 1, none⟩ = some (.int .i64 x170001_2) := (blk_cell BK169.out 1).trans rfl
                            have hcz35_2 : w34.cell? ⟨gb169, 2, none⟩ = some (.int .i64 x170002_2) := (blk_cell BK169.out 2).trans rfl
                            have hcz35_3 : w34.cell? ⟨gb169, 3, none⟩ = some (.int .i64 x170003_2) := (blk_cell BK169.out 3).trans rfl
                            have hcz35_4 : w34.cell? ⟨gb169, 4, none⟩ = some (.int .i64 x170004_2) := (blk_cell BK169.out 4).trans rfl
                            have hcz35_5 : w34.cell? ⟨gb169, 5, none⟩ = some (.int .u8 x170005_2) := (blk_cell BK169.out 5).trans rfl
                            have hcz35_6 : w34.cell? ⟨gb169, 6, none⟩ = some (.slice none 0 0) := (blk_cell BK169.out 6).trans rfl
                            have hcz35_7 : w34.cell? ⟨gb169, 7, none⟩ = some (.int .i64 x170007_2) := (blk_cell BK169.out 7).trans rfl
                            have hfz35_0 := blk_frozen BK169.out 0
                            have hfz35_1 := blk_frozen BK169.out 1
                            have hfz35_2 := blk_frozen BK169.out 2
                            have hfz35_3 := blk_frozen BK169.out 3
                            have hfz35_4 := blk_frozen BK169.out 4
                            have hfz35_5 := blk_frozen BK169.out 5
                            have hfz35_6 := blk_frozen BK169.out 6
                            have hfz35_7 := blk_frozen BK169.out 7
                            try go_wp2
                            refine bodyPost_ret (results_cell_row rfl _ _ gb169 25 #[.int .i64 t178, .int .i64 0, .int .i64 0, .int .i64 0, .int .i64 0, .int .u8 0, .slice none 0 0, .int .i64 t184] (0, 0) _ rfl (by (with_reducible repeat (first | refine blk_drewN ?_ _ | refine blk_drew ?_ | refine blk_alloc ?_ _)); refine blk_put (cs := #[.int .i64 t178, .int .i64 0, .int .i64 0, .int .i64 0, .int .i64 0, .int .u8 0, .slice none 0 0, .int .i64 x170007_2]) ?_ 7 _ rfl; (with_reducible repeat (first | refine blk_drewN ?_ _ | refine blk_drew ?_ | refine blk_alloc ?_ _)); refine blk_put (cs := #[.int .i64 t178, .int .i64 0, .int .i64 0, .int .i64 0, .int .i64 0, .int .u8 0, .slice none 0 0, .int .i64 x170007_2]) ?_ 6 _ rfl; (with_reducible repeat (first | refine blk_drewN ?_ _ | refine blk_drew ?_ | refine blk_alloc ?_ _)); refine blk_put (cs := #[.int .i64 t178, .int .i64 0, .int .i64 0, .int .i64 0, .int .i64 0, .int .u8 x170005_2, .slice none 0 0, .int .i64 x170007_2]) ?_ 5 _ rfl; (with_reducible repeat (first | refine blk_drewN ?_ _ | refine blk_drew ?_ | refine blk_alloc ?_ _)); refine blk_put (cs := #[.int .i64 t178, .int .i64 0, .int .i64 0, .int .i64 0, .int .i64 x170004_2, .int .u8 x170005_2, .slice none 0 0, .int .i64 x170007_2]) ?_ 4 _ rfl; (with_reducible repeat (first | refine blk_drewN ?_ _ | refine blk_drew ?_ | refine blk_alloc ?_ _)); refine blk_put (cs := #[.int .i64 t178, .int .i64 0, .int .i64 0, .int .i64 x170003_2, .int .i64 x170004_2, .int .u8 x170005_2, .slice none 0 0, .int .i64 x170007_2]) ?_ 3 _ rfl; (with_reducible repeat (first | refine blk_drewN ?_ _ | refine blk_drew ?_ | refine blk_alloc ?_ _)); refine blk_put (cs := #[.int .i64 t178, .int .i64 0, .int .i64 x170002_2, .int .i64 x170003_2, .int .i64 x170004_2, .int .u8 x170005_2, .slice none 0 0, .int .i64 x170007_2]) ?_ 2 _ rfl; (with_reducible repeat (first | refine blk_drewN ?_ _ | refine blk_drew ?_ | refine blk_alloc ?_ _)); refine blk_put (cs := #[.int .i64 t178, .int .i64 x170001_2, .int .i64 x170002_2, .int .i64 x170003_2, .int .i64 x170004_2, .int .u8 x170005_2, .slice none 0 0, .int .i64 x170007_2]) ?_ 1 _ rfl; (with_reducible repeat (first | refine blk_drewN ?_ _ | refine blk_drew ?_ | refine blk_alloc ?_ _)); refine blk_put (cs := #[.int .i64 x170000_2, .int .i64 x170001_2, .int .i64 x170002_2, .int .i64 x170003_2, .int .i64 x170004_2, .int .u8 x170005_2, .slice none 0 0, .int .i64 x170007_2]) ?_ 0 _ rfl; (with_reducible repeat (first | refine blk_drewN ?_ _ | refine blk_drew ?_ | refine blk_alloc ?_ _)); exact BK169.out) Tryd.underlying25 rfl (by kernel_rfl)) rfl ?_
                            exact ⟨_, by first | rfl | (simp [errW_none, errW_some] <;> rfl) | (simp only [← hji26]; first | rfl | (simp [errW_none, errW_some] <;> rfl)) | (simp [*, errW_none, errW_some] <;> rfl), by first | exact Kd.R_nil _ _ _ _ _ | exact Kd.N_nil _ _ _ _ _ | exact Kd.V_nil _ _ _ _ _ | exact Kd.Q_nil _ _ _ _ _ | exact Kd.S_nil _ _ _ _ _, by repeat (first | (with_reducible first | exact HB.out | apply below_alloc | apply pw_below_drewN | apply below_drew1 | refine below_set ?_ GE169.out) | exact HB.out)⟩
                        · rw [if_neg c28] at H
                          exact absurd H (by simp)
                      · rw [if_neg c27] at H
                        exact absurd H (by simp)
                    · rw [if_neg c25] at H
                      exact absurd H (by simp)
                  · rw [if_neg c24] at H
                    have c24b0 : decide (x7_2 < (t179.length : Int)) = false := decide_eq_false c24
                    clear c24
                    have H' := Aside0.mk H
                    clear H
                    go_wp2_with (first | ((with_reducible refine gate_dst (N := 9) rfl ?_); refine box_event ?hg (N := 9) ?hd (cs := #[.int .i64 0, .int .i64 0, .int .i64 0, .int .i64 0, .int .i64 0, .int .u8 0, .slice none 0 0, .int .i64 0]) (t := 25) ?hr ?_; (case hd => rfl); (case hg => rfl); (case hr => first | (go_simp; done) | (go_simp; rfl)); intro gb185 hg w36 hbox hb; have n0_ := Aside0.mk (Kd.R_below (by (with_reducible repeat (first | apply Kd.R_alloc | apply Kd.R_drewN | apply Kd.R_drew)); exact HO_4.out) hb); have n1_ := Aside0.mk (Kd.R_below (by (with_reducible repeat (first | apply Kd.R_alloc | apply Kd.R_drewN | apply Kd.R_drew)); exact HO_6.out) hb); have n2_ := Aside0.mk (blk_below (g := gb169) (o := .cells #[.int .i64 x170000_2, .int .i64 x170001_2, .int .i64 x170002_2, .int .i64 x170003_2, .int .i64 x170004_2, .int .u8 x170005_2, .slice none 0 0, .int .i64 x170007_2] 25 (0, 0)) (by (with_reducible repeat (first | refine blk_drewN ?_ _ | refine blk_drew ?_ | refine blk_alloc ?_ _)); exact BK169.out) hb); have n3_ := Aside0.mk (below_step (by repeat (first | (with_reducible first | exact HB.out | apply below_alloc | apply pw_below_drewN | apply below_drew1 | refine below_set ?_ GE169.out) | exact HB.out)) hb); have n4_ := Aside0.mk (hbox); have n5_ := Aside0.mk ((by rw [hg]; exact (below_size (by repeat (first | (with_reducible first | exact HB.out | apply below_alloc | apply pw_below_drewN | apply below_drew1 | refine below_set ?_ GE169.out) | exact HB.out))) : w.heap.size ≤ gb185)); have n6_ := Aside0.mk ((by rw [hg]; exact (below_size (by repeat (first | (with_reducible first | exact HB.out | apply below_alloc | apply pw_below_drewN | apply below_drew1 | refine below_set ?_ GE169.out) | exact HB.out))) : w.heap.size ≤ gb185)); have n7_ := Aside0.mk ((by rw [hg]; exact Nat.ne_of_lt (blk_lt (g := gb169) (o := .cells #[.int .i64 x170000_2, .int .i64 x170001_2, .int .i64 x170002_2, .int .i64 x170003_2, .int .i64 x170004_2, .int .u8 x170005_2, .slice none 0 0, .int .i64 x170007_2] 25 (0, 0)) (by (with_reducible repeat (first | refine blk_drewN ?_ _ | refine blk_drew ?_ | refine blk_alloc ?_ _)); exact BK169.out)) : gb169 ≠ gb185)); have n8_ := Aside0.mk ((by rw [hg]; exact Nat.ne_of_gt (blk_lt (g := gb169) (o := .cells #[.int .i64 x170000_2, .int .i64 x170001_2, .int .i64 x170002_2, .int .i64 x170003_2, .int .i64 x170004_2, .int .u8 x170005_2, .slice none 0 0, .int .i64 x170007_2] 25 (0, 0)) (by (with_reducible repeat (first | refine blk_drewN ?_ _ | refine blk_drew ?_ | refine blk_alloc ?_ _)); exact BK169.out)) : gb185 ≠ gb169)); clear HO_4; clear HO_6; clear BK169; clear HB; have HO_4 := n0_; have HO_6 := n1_; have BK169 := n2_; have HB := n3_; have BK185 := n4_; have GW185 := n5_; have GE185 := n6_; have NB169_185 := n7_; have NB185_169 := n8_; clear n0_ n1_ n2_ n3_ n4_ n5_ n6_ n7_ n8_; clear hb hbox hg; have hnb37 := NB185_169.out; have hnc37 := NB169_185.out; have hcz38_0 : w36.cell? ⟨gb185, 0, none⟩ = some (.int .i64 0) := (blk_cell BK185.out 0).trans rfl; have hcz38_1 : w36.cell? ⟨gb185, 1, none⟩ = some (.int .i64 0) := (blk_cell BK185.out 1).trans rfl; have hcz38_2 : w36.cell? ⟨gb185, 2, none⟩ = some (.int .i64 0) := (blk_cell BK185.out 2).trans rfl; have hcz38_3 : w36.cell? ⟨gb185, 3, none⟩ = some (.int .i64 0) := (blk_cell BK185.out 3).trans rfl; have hcz38_4 : w36.cell? ⟨gb185, 4, none⟩ = some (.int .i64 0) := (blk_cell BK185.out 4).trans rfl; have hcz38_5 : w36.cell? ⟨gb185, 5, none⟩ = some (.int .u8 0) := (blk_cell BK185.out 5).trans rfl; have hcz38_6 : w36.cell? ⟨gb185, 6, none⟩ = some (.slice none 0 0) := (blk_cell BK185.out 6).trans rfl; have hcz38_7 : w36.cell? ⟨gb185, 7, none⟩ = some (.int .i64 0) := (blk_cell BK185.out 7).trans rfl; have hfz38_0 := blk_frozen BK185.out 0; have hfz38_1 := blk_frozen BK185.out 1; have hfz38_2 := blk_frozen BK185.out 2; have hfz38_3 := blk_frozen BK185.out 3; have hfz38_4 := blk_frozen BK185.out 4; have hfz38_5 := blk_frozen BK185.out 5; have hfz38_6 := blk_frozen BK185.out 6; have hfz38_7 := blk_frozen BK185.out 7))
                    go_loopg [10] k2 (fun kq v10 w' => ∃ (x10_3 : Int) (x170000_3 : Int) (x170001_3 : Int) (x170002_3 : Int) (x170003_3 : Int) (x170004_3 : Int) (x170005_3 : Int) (x170007_3 : Int) (x186000_3 : Int) (x186001_3 : Int) (x186002_3 : Int) (x186003_3 : Int) (x186004_3 : Int) (x186005_3 : Int) (x186006_3 : List Int) (x186007_3 : Int) (u186006 : Value), v10 = .int .i64 x10_3 ∧ Aside0 (jotterref15_Line.l1 kq t174 t178 t179 x10_3 x186000_3 x186001_3 x186002_3 x186003_3 x186004_3 x186005_3 x186006_3 x186007_3 = some (r1, r2, r3, r4, r5, r6, r7, r8)) ∧ Aside0 (kq ≤ k2) ∧ Aside0 (Kd.R Kd.string 9 w' w.heap.size (fun _ => True) (.slice (some ad177) t174.length co20) t174) ∧ Aside0 (Kd.R k59 59 w' w.heap.size (fun _ => True) (.slice Ao23 t179.length co23) t179) ∧ Aside0 (Kd.R (Kd.int .u8) 5 w' w.heap.size (fun _ => True) u186006 x186006_3) ∧ Aside0 (w'.heap[gb169]? = some (.cells #[.int .i64 x170000_3, .int .i64 x170001_3, .int .i64 x170002_3, .int .i64 x170003_3, .int .i64 x170004_3, .int .u8 x170005_3, (.slice none 0 0), .int .i64 x170007_3] 25 (0, 0))) ∧ Aside0 (w'.heap[gb185]? = some (.cells #[.int .i64 x186000_3, .int .i64 x186001_3, .int .i64 x186002_3, .int .i64 x186003_3, .int .i64 x186004_3, .int .u8 x186005_3, u186006, .int .i64 x186007_3] 25 (0, 0))) ∧ Aside0 (Below w.heap.size w w'))
                    case atStart => exact ⟨(0), (x170000_2), (x170001_2), (x170002_2), (x170003_2), (x170004_2), (x170005_2), (x170007_2), (t178), (0), (0), (0), (0), (0), (([] : List Int)), (0), (.slice none 0 0), (by first | rfl | (simp; done) | (simp [*]; done)), H', ⟨Nat.le_refl _⟩, ⟨by (with_reducible repeat (first | apply Kd.R_alloc | apply Kd.R_drewN | apply Kd.R_drew)); exact Kd.R_mono (Kd.R_far (p := ⟨gb185, 7, none⟩) (Kd.R_far (p := ⟨gb185, 6, none⟩) (Kd.R_far (p := ⟨gb185, 5, none⟩) (Kd.R_far (p := ⟨gb185, 4, none⟩) (Kd.R_far (p := ⟨gb185, 3, none⟩) (Kd.R_far (p := ⟨gb185, 2, none⟩) (Kd.R_far (p := ⟨gb185, 1, none⟩) (Kd.R_far (p := ⟨gb185, 0, none⟩) (Kd.R_types HO_4.out BK185.out (by decide)) (fun _ hk => hk.2) (.int .i64 t178)) (fun _ hk => hk.2) (.int .i64 0)) (fun _ hk => hk.2) (.int .i64 0)) (fun _ hk => hk.2) (.int .i64 0)) (fun _ hk => hk.2) (.int .i64 0)) (fun _ hk => hk.2) (.int .u8 0)) (fun _ hk => hk.2) (.slice none 0 0)) (fun _ hk => hk.2) (.int .i64 0)) (fun _ hk => trivial)⟩, ⟨by (with_reducible repeat (first | apply Kd.R_alloc | apply Kd.R_drewN | apply Kd.R_drew)); exact Kd.R_mono (Kd.R_far (p := ⟨gb185, 7, none⟩) (Kd.R_far (p := ⟨gb185, 6, none⟩) (Kd.R_far (p := ⟨gb185, 5, none⟩) (Kd.R_far (p := ⟨gb185, 4, none⟩) (Kd.R_far (p := ⟨gb185, 3, none⟩) (Kd.R_far (p := ⟨gb185, 2, none⟩) (Kd.R_far (p := ⟨gb185, 1, none⟩) (Kd.R_far (p := ⟨gb185, 0, none⟩) (Kd.R_types HO_6.out BK185.out (by decide)) (fun _ hk => hk.2) (.int .i64 t178)) (fun _ hk => hk.2) (.int .i64 0)) (fun _ hk => hk.2) (.int .i64 0)) (fun _ hk => hk.2) (.int .i64 0)) (fun _ hk => hk.2) (.int .i64 0)) (fun _ hk => hk.2) (.int .u8 0)) (fun _ hk => hk.2) (.slice none 0 0)) (fun _ hk => hk.2) (.int .i64 0)) (fun _ hk => trivial)⟩, ⟨by first | exact Kd.R_nil _ _ _ _ _ | exact Kd.N_nil _ _ _ _ _ | exact Kd.V_nil _ _ _ _ _ | exact Kd.Q_nil _ _ _ _ _ | exact Kd.S_nil _ _ _ _ _⟩, ⟨by (with_reducible repeat (first | refine blk_drewN ?_ _ | refine blk_drew ?_ | refine blk_alloc ?_ _)); refine blk_far ?_ NB169_185.out _; (with_reducible repeat (first | refine blk_drewN ?_ _ | refine blk_drew ?_ | refine blk_alloc ?_ _)); refine blk_far ?_ NB169_185.out _; (with_reducible repeat (first | refine blk_drewN ?_ _ | refine blk_drew ?_ | refine blk_alloc ?_ _)); refine blk_far ?_ NB169_185.out _; (with_reducible repeat (first | refine blk_drewN ?_ _ | refine blk_drew ?_ | refine blk_alloc ?_ _)); refine blk_far ?_ NB169_185.out _; (with_reducible repeat (first | refine blk_drewN ?_ _ | refine blk_drew ?_ | refine blk_alloc ?_ _)); refine blk_far ?_ NB169_185.out _; (with_reducible repeat (first | refine blk_drewN ?_ _ | refine blk_drew ?_ | refine blk_alloc ?_ _)); refine blk_far ?_ NB169_185.out _; (with_reducible repeat (first | refine blk_drewN ?_ _ | refine blk_drew ?_ | refine blk_alloc ?_ _)); refine blk_far ?_ NB169_185.out _; (with_reducible repeat (first | refine blk_drewN ?_ _ | refine blk_drew ?_ | refine blk_alloc ?_ _)); refine blk_far ?_ NB169_185.out _; (with_reducible repeat (first | refine blk_drewN ?_ _ | refine blk_drew ?_ | refine blk_alloc ?_ _)); exact BK169.out⟩, ⟨by (with_reducible repeat (first | refine blk_drewN ?_ _ | refine blk_drew ?_ | refine blk_alloc ?_ _)); refine blk_put (cs := #[.int .i64 t178, .int .i64 0, .int .i64 0, .int .i64 0, .int .i64 0, .int .u8 0, .slice none 0 0, .int .i64 0]) ?_ 7 _ rfl; (with_reducible repeat (first | refine blk_drewN ?_ _ | refine blk_drew ?_ | refine blk_alloc ?_ _)); refine blk_put (cs := #[.int .i64 t178, .int .i64 0, .int .i64 0, .int .i64 0, .int .i64 0, .int .u8 0, .slice none 0 0, .int .i64 0]) ?_ 6 _ rfl; (with_reducible repeat (first | refine blk_drewN ?_ _ | refine blk_drew ?_ | refine blk_alloc ?_ _)); refine blk_put (cs := #[.int .i64 t178, .int .i64 0, .int .i64 0, .int .i64 0, .int .i64 0, .int .u8 0, .slice none 0 0, .int .i64 0]) ?_ 5 _ rfl; (with_reducible repeat (first | refine blk_drewN ?_ _ | refine blk_drew ?_ | refine blk_alloc ?_ _)); refine blk_put (cs := #[.int .i64 t178, .int .i64 0, .int .i64 0, .int .i64 0, .int .i64 0, .int .u8 0, .slice none 0 0, .int .i64 0]) ?_ 4 _ rfl; (with_reducible repeat (first | refine blk_drewN ?_ _ | refine blk_drew ?_ | refine blk_alloc ?_ _)); refine blk_put (cs := #[.int .i64 t178, .int .i64 0, .int .i64 0, .int .i64 0, .int .i64 0, .int .u8 0, .slice none 0 0, .int .i64 0]) ?_ 3 _ rfl; (with_reducible repeat (first | refine blk_drewN ?_ _ | refine blk_drew ?_ | refine blk_alloc ?_ _)); refine blk_put (cs := #[.int .i64 t178, .int .i64 0, .int .i64 0, .int .i64 0, .int .i64 0, .int .u8 0, .slice none 0 0, .int .i64 0]) ?_ 2 _ rfl; (with_reducible repeat (first | refine blk_drewN ?_ _ | refine blk_drew ?_ | refine blk_alloc ?_ _)); refine blk_put (cs := #[.int .i64 t178, .int .i64 0, .int .i64 0, .int .i64 0, .int .i64 0, .int .u8 0, .slice none 0 0, .int .i64 0]) ?_ 1 _ rfl; (with_reducible repeat (first | refine blk_drewN ?_ _ | refine blk_drew ?_ | refine blk_alloc ?_ _)); refine blk_put (cs := #[.int .i64 0, .int .i64 0, .int .i64 0, .int .i64 0, .int .i64 0, .int .u8 0, .slice none 0 0, .int .i64 0]) ?_ 0 _ rfl; (with_reducible repeat (first | refine blk_drewN ?_ _ | refine blk_drew ?_ | refine blk_alloc ?_ _)); exact BK185.out⟩, ⟨by repeat (first | (with_reducible first | exact HB.out | apply below_alloc | apply pw_below_drewN | apply below_drew1 | refine below_set ?_ GE169.out | refine below_set ?_ GE185.out) | exact HB.out)⟩⟩
                    case round =>
                      clear H'
                      try clear c1
                      try clear p1
                      try clear q1
                      try clear hx1
                      try clear qi1
                      try clear c2
                      try clear p2
                      try clear c3
                      try clear c3b0
                      try clear c3b1
                      try clear p6
                      try clear c8
                      try clear c8b0
                      try clear c8b1
                      try clear c10
                      try clear c10b0
                      try clear c10b1
                      try clear c11
                      try clear c12
                      try clear c12b0
                      try clear c12b1
                      try clear p17
                      try clear q17
                      try clear hx17
                      try clear qi17
                      try clear c18
                      try clear c18b0
                      try clear c18b1
                      try clear p18
                      try clear q18
                      try clear hx18
                      try clear c22
                      try clear c23
                      try clear c24
                      try clear c24b0
                      try clear c25
                      try clear c25b0
                      try clear c27
                      try clear c27b0
                      try clear c28
                      try clear c28b0
                      try clear c30
                      try clear c30b0
                      try clear c30b1
                      try clear c37
                      try clear hcz16_0
                      try clear hcz16_1
                      try clear hcz16_2
                      try clear hcz16_3
                      try clear hcz16_4
                      try clear hcz16_5
                      try clear hcz16_6
                      try clear hcz16_7
                      try clear hcz35_0
                      try clear hcz35_1
                      try clear hcz35_2
                      try clear hcz35_3
                      try clear hcz35_4
                      try clear hcz35_5
                      try clear hcz35_6
                      try clear hcz35_7
                      try clear hcz38_0
                      try clear hcz38_1
                      try clear hcz38_2
                      try clear hcz38_3
                      try clear hcz38_4
                      try clear hcz38_5
                      try clear hcz38_6
                      try clear hcz38_7
                      try clear hfz16_0
                      try clear hfz16_1
                      try clear hfz16_2
                      try clear hfz16_3
                      try clear hfz16_4
                      try clear hfz16_5
                      try clear hfz16_6
                      try clear hfz16_7
                      try clear hfz35_0
                      try clear hfz35_1
                      try clear hfz35_2
                      try clear hfz35_3
                      try clear hfz35_4
                      try clear hfz35_5
                      try clear hfz35_6
                      try clear hfz35_7
                      try clear hfz38_0
                      try clear hfz38_1
                      try clear hfz38_2
                      try clear hfz38_3
                      try clear hfz38_4
                      try clear hfz38_5
                      try clear hfz38_6
                      try clear hfz38_7
                      try clear hx173_0
                      try clear hx177_0
                      try clear hx182_0
                      try clear hx182_1
                      try clear hx182_2
                      try clear hx183_0
                      try clear p1
                      try clear p17
                      try clear p173
                      try clear p177
                      try clear p182
                      try clear p183
                      try clear p2
                      try clear p6
                      try clear q1
                      try clear q17
                      try clear q173
                      try clear q177
                      try clear q182
                      try clear q183
                      obtain ⟨x10_3, x170000_3, x170001_3, x170002_3, x170003_3, x170004_3, x170005_3, x170007_3, x186000_3, x186001_3, x186002_3, x186003_3, x186004_3, x186005_3, x186006_3, x186007_3, u186006, rfl, HA, HK3, HO_4, HO_6, HO_186006, BK169, BK185, HB⟩ := hrel
                      cases gk with
                      | zero => exact absurd HA.out (by simp [jotterref15_Line.l1])
                      | succ k3 =>
                        have H := HA.out
                        clear HA
                        simp only [jotterref15_Line.l1] at H
                        by_cases c39 : x10_3 < (t179.length : Int)
                        · rw [if_pos c39] at H
                          have c39b0 : decide (x10_3 < (t179.length : Int)) = true := decide_eq_true c39
                          clear c39
                          by_cases c40 : 0 ≤ x10_3
                          · rw [if_pos c40] at H
                            have c40b0 : decide (0 ≤ x10_3) = true := decide_eq_true c40
                            clear c40
                            obtain ⟨ji41, hji41⟩ : ∃ j_ : Int, (wrap64 (x10_3 + 1)) = j_ := ⟨_, rfl⟩
                            replace H : (if 0 ≤ (ji41) then (if (ji41) < (t174.length : Int) then ((jotterref15_value.f k3 ((rd_T59 t179 x10_3).f0) ((rd_T59 t179 x10_3).f1) ((rd_T59 t179 x10_3).f2) (rdOf ByteArray.empty t174 (ji41))).bind fun t188 => (if t188 < ((rd_T59 t179 x10_3).f1) then (some (t178, 0, 0, 0, 0, 0, ([] : List Int), 155)) else (if t188 > ((rd_T59 t179 x10_3).f2) then (some (t178, 0, 0, 0, 0, 0, ([] : List Int), 155)) else ((jotterref15_with.f k3 x186000_3 x186001_3 x186002_3 x186003_3 x186004_3 x186005_3 x186006_3 x186007_3 ((rd_T59 t179 x10_3).f0) ((rd_T59 t179 x10_3).f1) ((rd_T59 t179 x10_3).f2) (rdOf ByteArray.empty t174 (ji41))).bind fun bt193 => (jotterref15_Line.l1 k3 t174 t178 t179 ji41 bt193.1 bt193.2.1 bt193.2.2.1 bt193.2.2.2.1 bt193.2.2.2.2.1 bt193.2.2.2.2.2.1 bt193.2.2.2.2.2.2.1 bt193.2.2.2.2.2.2.2))))) else (none)) else (none)) = some (r1, r2, r3, r4, r5, r6, r7, r8) := by first | (rw [hji41] at H; exact H) | (simp only [hji41] at H ⊢; exact H)
                            have hji41w : (IntKind.i64.wrap (x10_3 + 1)) = ji41 := (i64_w _).trans hji41
                            by_cases c42 : 0 ≤ (ji41)
                            · rw [if_pos c42] at H
                              have c42b0 : decide (0 ≤ (ji41)) = true := decide_eq_true c42
                              clear c42
                              by_cases c43 : (ji41) < (t174.length : Int)
                              · rw [if_pos c43] at H
                                have c43b0 : decide ((ji41) < (t174.length : Int)) = true := decide_eq_true c43
                                clear c43
                                replace H := Option.bind_eq_some_iff.mp H
                                obtain ⟨t188, A440, H⟩ := H
                                replace H : (if t188 < ((rd_T59 t179 x10_3).f1) then (some (t178, 0, 0, 0, 0, 0, ([] : List Int), 155)) else (if t188 > ((rd_T59 t179 x10_3).f2) then (some (t178, 0, 0, 0, 0, 0, ([] : List Int), 155)) else ((jotterref15_with.f k3 x186000_3 x186001_3 x186002_3 x186003_3 x186004_3 x186005_3 x186006_3 x186007_3 ((rd_T59 t179 x10_3).f0) ((rd_T59 t179 x10_3).f1) ((rd_T59 t179 x10_3).f2) (rdOf ByteArray.empty t174 (ji41))).bind fun bt193 => (jotterref15_Line.l1 k3 t174 t178 t179 ji41 bt193.1 bt193.2.1 bt193.2.2.1 bt193.2.2.2.1 bt193.2.2.2.2.1 bt193.2.2.2.2.2.1 bt193.2.2.2.2.2.2.1 bt193.2.2.2.2.2.2.2)))) = some (r1, r2, r3, r4, r5, r6, r7, r8) := H
                                have A44 := Aside0.mk A440
                                clear A440
                                by_cases c45 : t188 < ((rd_T59 t179 x10_3).f1)
                                · rw [if_pos c45] at H
                                  have c45b0 : decide (t188 < ((rd_T59 t179 x10_3).f1)) = true := decide_eq_true c45
                                  clear c45
                                  simp only [Option.some.injEq, Prod.mk.injEq] at H
                                  obtain ⟨rfl, rfl, rfl, rfl, rfl, rfl, rfl, rfl⟩ := H
                                  try go_wp2
                                  have n0_ := Aside0.mk (Kd.R_drew HO_4.out)
                                  have n1_ := Aside0.mk (Kd.R_drew HO_6.out)
                                  have n2_ := Aside0.mk (Kd.R_drew HO_186006.out)
                                  have n3_ := Aside0.mk (blk_drew BK169.out)
                                  have n4_ := Aside0.mk (blk_drew BK185.out)
                                  have n5_ := Aside0.mk (below_drew1 HB.out)
                                  clear HO_4
                                  clear HO_6
                                  clear HO_186006
                                  clear BK169
                                  clear BK185
                                  clear HB
                                  have HO_4 := n0_
                                  have HO_6 := n1_
                                  have HO_186006 := n2_
                                  have BK169 := n3_
                                  have BK185 := n4_
                                  have HB := n5_
                                  clear n0_ n1_ n2_ n3_ n4_ n5_
                                  have p186 : 0 ≤ (x10_3 : Int) := of_decide_eq_true (by first | (with_reducible assumption) | assumption)
                                  have q186 : x10_3 < (t179.length : Int) := of_decide_eq_true (by first | (with_reducible assumption) | assumption)
                                  obtain ⟨ad186, e186, hx186_0, hx186_1, hx186_2⟩ := at_T59 (Kd.R_reads' HO_6.out).2.2 x10_3 p186 q186
                                  cases e186
                                  replace p186 := eq_true p186
                                  replace q186 := eq_true q186
                                  have p187 : 0 ≤ ((ji41) : Int) := of_decide_eq_true (by first | (with_reducible assumption) | assumption)
                                  have q187 : (ji41) < (t174.length : Int) := of_decide_eq_true (by first | (with_reducible assumption) | assumption)
                                  obtain ⟨ad187, e187, hx187_0⟩ := Kd.at_string (Kd.R_reads' HO_4.out).2.2 (ji41) p187 q187
                                  obtain rfl : ad177 = ad187 := (by injection e187)
                                  replace p187 := eq_true p187
                                  replace q187 := eq_true q187
                                  refine start_ (n := 11) (S := fun w' => w'.cell? (ad186.add ((x10_3).toNat * 3)) = some (.int .u8 ((rd_T59 t179 x10_3).f0)) ∧ w'.cell? ⟨(ad186.add ((x10_3).toNat * 3)).block, (ad186.add ((x10_3).toNat * 3)).off + 1, none⟩ = some (.int .i64 ((rd_T59 t179 x10_3).f1)) ∧ w'.cell? ⟨(ad186.add ((x10_3).toNat * 3)).block, (ad186.add ((x10_3).toNat * 3)).off + 2, none⟩ = some (.int .i64 ((rd_T59 t179 x10_3).f2)) ∧ w'.cell? (ad177.add ((ji41)).toNat) = some (.string (rdOf ByteArray.empty t174 (ji41)))) (ds := []) #[false, false, false, false, false, false, false, false, false, false, false] (by kernel_rfl) rfl rfl ⟨hx186_0, hx186_1, hx186_2, hx187_0⟩ (fun hHeld => ?_); refine with_tabW jotterref15_Line.tab22 jotterref15_Line.bits22 (fun HT_ HW_ => ?_)
                                  generalize wr.drew = w46 at HO_4 HO_6 HO_186006 BK169 BK185 HB hx186_0 hx186_1 hx186_2 hx187_0 hHeld ⊢
                                  refine pure_ (i := 0) (N := some 67) (v := ?_) (a' := ?_) #[true, false, false, false, false, false, false, false, false, false, false] rfl rfl (any_of HT_.out (by kernel_rfl)) (fun _ _ _ h => h) (Or.inl ⟨by rfl, ?_⟩) ?_ ?_
                                  rotate_left
                                  · intro w'
                                    go_simp
                                    with_reducible rfl
                                  rotate_left
                                  · simp only [Act.put, List.setIfInBounds_toArray, List.set_cons_zero, List.set_cons_succ, i64_w, i32_w]
                                    rfl
                                  refine pure_ (i := 1) (N := some 68) (v := ?_) (a' := ?_) #[true, true, false, false, false, false, false, false, false, false, false] rfl rfl (any_of HT_.out (by kernel_rfl)) (fun _ _ _ h => h) (Or.inl ⟨by rfl, ?_⟩) ?_ ?_
                                  rotate_left
                                  · intro w'
                                    go_simp
                                    with_reducible rfl
                                  rotate_left
                                  · simp only [Act.put, List.setIfInBounds_toArray, List.set_cons_zero, List.set_cons_succ, i64_w, i32_w]
                                    rfl
                                  refine pure_ (i := 2) (N := some 69) (v := ?_) (a' := ?_) #[true, true, true, false, false, false, false, false, false, false, false] rfl rfl (any_of HT_.out (by kernel_rfl)) (fun _ _ _ h => h) (Or.inl ⟨by rfl, ?_⟩) ?_ ?_
                                  rotate_left
                                  · intro w'
                                    go_simp
                                    with_reducible rfl
                                  rotate_left
                                  · simp only [Act.put, List.setIfInBounds_toArray, List.set_cons_zero, List.set_cons_succ, i64_w, i32_w]
                                    rfl
                                  refine pure_ (i := 4) (N := some 71) (v := ?_) (a' := ?_) #[true, true, true, false, true, false, false, false, false, false, false] rfl rfl (any_of HT_.out (by kernel_rfl)) (fun _ _ _ h => h) (Or.inl ⟨by rfl, ?_⟩) ?_ ?_
                                  rotate_left
                                  · intro w'
                                    go_simp
                                    with_reducible rfl
                                  rotate_left
                                  · simp only [Act.put, List.setIfInBounds_toArray, List.set_cons_zero, List.set_cons_succ, i64_w, i32_w]
                                    rfl
                                  refine pure_ (i := 5) (N := some 72) (v := ?_) (a' := ?_) #[true, true, true, false, true, true, false, false, false, false, false] rfl rfl (any_of HT_.out (by kernel_rfl)) (fun _ _ _ h => h) (Or.inl ⟨by rfl, ?_⟩) ?_ ?_
                                  rotate_left
                                  · intro w'
                                    go_simp
                                    with_reducible rfl
                                  rotate_left
                                  · simp only [Act.put, List.setIfInBounds_toArray, List.set_cons_zero, List.set_cons_succ, i64_w, i32_w]
                                    rfl
                                  refine pure_ (i := 6) (N := some 73) (v := ?_) (a' := ?_) #[true, true, true, false, true, true, true, false, false, false, false] rfl rfl (any_of HT_.out (by kernel_rfl)) (fun _ _ _ h => h) (Or.inl ⟨by rfl, ?_⟩) ?_ ?_
                                  rotate_left
                                  · intro w'
                                    go_simp
                                    with_reducible rfl
                                  rotate_left
                                  · simp only [Act.put, List.setIfInBounds_toArray, List.set_cons_zero, List.set_cons_succ, i64_w, i32_w]
                                    rfl
                                  refine pure_ (i := 7) (N := some 74) (v := ?_) (a' := ?_) #[true, true, true, false, true, true, true, true, false, false, false] rfl rfl (any_of HT_.out (by kernel_rfl)) (fun _ _ _ h => h) (Or.inl ⟨by rfl, ?_⟩) ?_ ?_
                                  rotate_left
                                  · intro w'
                                    go_simp
                                    with_reducible rfl
                                  rotate_left
                                  · simp only [Act.put, List.setIfInBounds_toArray, List.set_cons_zero, List.set_cons_succ, i64_w, i32_w]
                                    rfl
                                  refine take_ (i := 3) (N := some 70) (v := ?_) (a' := ?_) #[true, true, true, true, true, true, true, true, false, false, false] rfl rfl (take_ofW HT_.out HW_.out (by kernel_rfl)) (fun _ _ _ h => h) (Or.inl ⟨by rfl, ?_⟩) hHeld ?_ ?_
                                  rotate_left
                                  · rintro w' ⟨s0, s1, s2, s3⟩
                                    go_simp
                                    with_reducible rfl
                                  rotate_left
                                  · simp only [Act.put, List.setIfInBounds_toArray, List.set_cons_zero, List.set_cons_succ, i64_w, i32_w]
                                    rfl
                                  refine take_ (i := 8) (N := some 75) (v := ?_) (a' := ?_) #[true, true, true, true, true, true, true, true, true, false, false] rfl rfl (take_ofW HT_.out HW_.out (by kernel_rfl)) (fun _ _ _ h => h) (Or.inl ⟨by rfl, ?_⟩) hHeld ?_ ?_
                                  rotate_left
                                  · rintro w' ⟨s0, s1, s2, s3⟩
                                    go_simp
                                    with_reducible rfl
                                  rotate_left
                                  · simp only [Act.put, List.setIfInBounds_toArray, List.set_cons_zero, List.set_cons_succ, i64_w, i32_w]
                                    rfl
                                  refine one_ (i := 9) (N := some 76) #[true, true, true, true, true, true, true, true, true, true, false] rfl rfl (one_of HT_.out (by kernel_rfl)) (by decide) (fun K hK => ?_)
                                  refine goes_ Tryd.func26 (by kernel_rfl) rfl #[.agg #[.int .u8 ((rd_T59 t179 x10_3).f0), .int .i64 ((rd_T59 t179 x10_3).f1), .int .i64 ((rd_T59 t179 x10_3).f2)], .string (rdOf ByteArray.empty t174 (ji41))] (by rfl) rfl rfl (by (try simp only [List.map_toArray, List.map_cons, List.map_nil]); first | done | (simp only [hji41]; rfl) | rfl | (simp only [List.length_drop, List.length_take]; rfl)) ?_
                                  with_reducible refine (jotterref15_value.calls k3 ((rd_T59 t179 x10_3).f0) ((rd_T59 t179 x10_3).f1) ((rd_T59 t179 x10_3).f2) (rdOf ByteArray.empty t174 (ji41)) t188 _ A44.out).mono ?_
                                  rintro e w47 ⟨rfl, hb⟩
                                  have HS0_ := (hb.cell (World.block_lt_of_cell? _ _ (hHeld.1))).trans (hHeld.1)
                                  have HS1_ := (hb.cell (World.block_lt_of_cell? _ _ (hHeld.2.1))).trans (hHeld.2.1)
                                  have HS2_ := (hb.cell (World.block_lt_of_cell? _ _ (hHeld.2.2.1))).trans (hHeld.2.2.1)
                                  have HS3_ := (hb.cell (World.block_lt_of_cell? _ _ (hHeld.2.2.2))).trans (hHeld.2.2.2)
                                  refine ⟨_, rfl, ?_⟩
                                  have n0_ := Aside0.mk (Kd.R_below (by (with_reducible repeat (first | apply Kd.R_alloc | apply Kd.R_drewN | apply Kd.R_drew)); exact HO_4.out) hb)
                                  have n1_ := Aside0.mk (Kd.R_below (by (with_reducible repeat (first | apply Kd.R_alloc | apply Kd.R_drewN | apply Kd.R_drew)); exact HO_6.out) hb)
                                  have n2_ := Aside0.mk (Kd.R_below (by (with_reducible repeat (first | apply Kd.R_alloc | apply Kd.R_drewN | apply Kd.R_drew)); exact HO_186006.out) hb)
                                  have n3_ := Aside0.mk (blk_below (g := gb169) (o := .cells #[.int .i64 x170000_3, .int .i64 x170001_3, .int .i64 x170002_3, .int .i64 x170003_3, .int .i64 x170004_3, .int .u8 x170005_3, .slice none 0 0, .int .i64 x170007_3] 25 (0, 0)) (by (with_reducible repeat (first | refine blk_drewN ?_ _ | refine blk_drew ?_ | refine blk_alloc ?_ _)); exact BK169.out) hb)
                                  have n4_ := Aside0.mk (blk_below (g := gb185) (o := .cells #[.int .i64 x186000_3, .int .i64 x186001_3, .int .i64 x186002_3, .int .i64 x186003_3, .int .i64 x186004_3, .int .u8 x186005_3, u186006, .int .i64 x186007_3] 25 (0, 0)) (by (with_reducible repeat (first | refine blk_drewN ?_ _ | refine blk_drew ?_ | refine blk_alloc ?_ _)); exact BK185.out) hb)
                                  have n5_ := Aside0.mk (below_step (by repeat (first | (with_reducible first | exact HB.out | apply below_alloc | apply pw_below_drewN | apply below_drew1 | refine below_set ?_ GE169.out | refine below_set ?_ GE185.out) | exact HB.out)) hb)
                                  clear HO_4
                                  clear HO_6
                                  clear HO_186006
                                  clear BK169
                                  clear BK185
                                  clear HB
                                  have HO_4 := n0_
                                  have HO_6 := n1_
                                  have HO_186006 := n2_
                                  have BK169 := n3_
                                  have BK185 := n4_
                                  have HB := n5_
                                  clear n0_ n1_ n2_ n3_ n4_ n5_
                                  (try clear hb)
                                  (try clear hb2)
                                  (try clear hk)
                                  (try clear hi)
                                  refine hK.out _ _ ⟨HS0_, HS1_, HS2_, HS3_⟩ (fun hHeld => ?_)
                                  clear hK K
                                  refine norm_ (a' := ?_) ?_ ?_
                                  rotate_left
                                  · show Act.put _ (some 76) _ = _
                                    simp only [Act.put, List.setIfInBounds_toArray, List.set_cons_zero, List.set_cons_succ, i64_w, i32_w]
                                    rfl
                                  refine pure_ (i := 10) (N := some 11) (v := ?_) (a' := ?_) #[true, true, true, true, true, true, true, true, true, true, true] rfl rfl (any_of HT_.out (by kernel_rfl)) (fun _ _ _ h => h) (Or.inl ⟨by rfl, ?_⟩) ?_ ?_
                                  rotate_left
                                  · intro w'
                                    go_simp
                                    with_reducible rfl
                                  rotate_left
                                  · simp only [Act.put, List.setIfInBounds_toArray, List.set_cons_zero, List.set_cons_succ, i64_w, i32_w]
                                    rfl
                                  refine done_ (done_of HT_.out (by kernel_rfl)) ?_
                                  have p189 : 0 ≤ (x10_3 : Int) := of_decide_eq_true (by first | (with_reducible assumption) | assumption)
                                  have q189 : x10_3 < (t179.length : Int) := of_decide_eq_true (by first | (with_reducible assumption) | assumption)
                                  obtain ⟨ad189, e189, hx189_0, hx189_1, hx189_2⟩ := at_T59 (Kd.R_reads' HO_6.out).2.2 x10_3 p189 q189
                                  obtain rfl : ad186 = ad189 := (by injection e189)
                                  replace p189 := eq_true p189
                                  replace q189 := eq_true q189
                                  have hnb48 := NB169_185.out
                                  have hnc48 := NB185_169.out
                                  have hcz49_0 : w47.cell? ⟨gb169, 0, none⟩ = some (.int .i64 x170000_3) := (blk_cell BK169.out 0).trans rfl
                                  have hcz49_1 : w47.cell? ⟨gb169, 1, none⟩ = some (.int .i64 x170001_3) := (blk_cell BK169.out 1).trans rfl
                                  have hcz49_2 : w47.cell? ⟨gb169, 2, none⟩ = some (.int .i64 x170002_3) := (blk_cell BK169.out 2).trans rfl
                                  have hcz49_3 : w47.cell? ⟨gb169, 3, none⟩ = some (.int .i64 x170003_3) := (blk_cell BK169.out 3).trans rfl
                                  have hcz49_4 : w47.cell? ⟨gb169, 4, none⟩ = some (.int .i64 x170004_3) := (blk_cell BK169.out 4).trans rfl
                                  have hcz49_5 : w47.cell? ⟨gb169, 5, none⟩ = some (.int .u8 x170005_3) := (blk_cell BK169.out 5).trans rfl
                                  have hcz49_6 : w47.cell? ⟨gb169, 6, none⟩ = some (.slice none 0 0) := (blk_cell BK169.out 6).trans rfl
                                  have hcz49_7 : w47.cell? ⟨gb169, 7, none⟩ = some (.int .i64 x170007_3) := (blk_cell BK169.out 7).trans rfl
                                  have hfz49_0 := blk_frozen BK169.out 0
                                  have hfz49_1 := blk_frozen BK169.out 1
                                  have hfz49_2 := blk_frozen BK169.out 2
                                  have hfz49_3 := blk_frozen BK169.out 3
                                  have hfz49_4 := blk_frozen BK169.out 4
                                  have hfz49_5 := blk_frozen BK169.out 5
                                  have hfz49_6 := blk_frozen BK169.out 6
                                  have hfz49_7 := blk_frozen BK169.out 7
                                  try go_wp2
                                  refine bodyPost_ret (results_cell_row rfl _ _ gb169 25 #[.int .i64 t178, .int .i64 0, .int .i64 0, .int .i64 0, .int .i64 0, .int .u8 0, .slice none 0 0, .int .i64 155] (0, 0) _ rfl (by (with_reducible repeat (first | refine blk_drewN ?_ _ | refine blk_drew ?_ | refine blk_alloc ?_ _)); refine blk_put (cs := #[.int .i64 t178, .int .i64 0, .int .i64 0, .int .i64 0, .int .i64 0, .int .u8 0, .slice none 0 0, .int .i64 x170007_3]) ?_ 7 _ rfl; (with_reducible repeat (first | refine blk_drewN ?_ _ | refine blk_drew ?_ | refine blk_alloc ?_ _)); refine blk_put (cs := #[.int .i64 t178, .int .i64 0, .int .i64 0, .int .i64 0, .int .i64 0, .int .u8 0, .slice none 0 0, .int .i64 x170007_3]) ?_ 6 _ rfl; (with_reducible repeat (first | refine blk_drewN ?_ _ | refine blk_drew ?_ | refine blk_alloc ?_ _)); refine blk_put (cs := #[.int .i64 t178, .int .i64 0, .int .i64 0, .int .i64 0, .int .i64 0, .int .u8 x170005_3, .slice none 0 0, .int .i64 x170007_3]) ?_ 5 _ rfl; (with_reducible repeat (first | refine blk_drewN ?_ _ | refine blk_drew ?_ | refine blk_alloc ?_ _)); refine blk_put (cs := #[.int .i64 t178, .int .i64 0, .int .i64 0, .int .i64 0, .int .i64 x170004_3, .int .u8 x170005_3, .slice none 0 0, .int .i64 x170007_3]) ?_ 4 _ rfl; (with_reducible repeat (first | refine blk_drewN ?_ _ | refine blk_drew ?_ | refine blk_alloc ?_ _)); refine blk_put (cs := #[.int .i64 t178, .int .i64 0, .int .i64 0, .int .i64 x170003_3, .int .i64 x170004_3, .int .u8 x170005_3, .slice none 0 0, .int .i64 x170007_3]) ?_ 3 _ rfl; (with_reducible repeat (first | refine blk_drewN ?_ _ | refine blk_drew ?_ | refine blk_alloc ?_ _)); refine blk_put (cs := #[.int .i64 t178, .int .i64 0, .int .i64 x170002_3, .int .i64 x170003_3, .int .i64 x170004_3, .int .u8 x170005_3, .slice none 0 0, .int .i64 x170007_3]) ?_ 2 _ rfl; (with_reducible repeat (first | refine blk_drewN ?_ _ | refine blk_drew ?_ | refine blk_alloc ?_ _)); refine blk_put (cs := #[.int .i64 t178, .int .i64 x170001_3, .int .i64 x170002_3, .int .i64 x170003_3, .int .i64 x170004_3, .int .u8 x170005_3, .slice none 0 0, .int .i64 x170007_3]) ?_ 1 _ rfl; (with_reducible repeat (first | refine blk_drewN ?_ _ | refine blk_drew ?_ | refine blk_alloc ?_ _)); refine blk_put (cs := #[.int .i64 x170000_3, .int .i64 x170001_3, .int .i64 x170002_3, .int .i64 x170003_3, .int .i64 x170004_3, .int .u8 x170005_3, .slice none 0 0, .int .i64 x170007_3]) ?_ 0 _ rfl; (with_reducible repeat (first | refine blk_drewN ?_ _ | refine blk_drew ?_ | refine blk_alloc ?_ _)); exact BK169.out) Tryd.underlying25 rfl (by kernel_rfl)) rfl ?_
                                  exact ⟨_, by first | rfl | (simp [errW_none, errW_some] <;> rfl) | (simp only [← hji41]; first | rfl | (simp [errW_none, errW_some] <;> rfl)) | (simp [*, errW_none, errW_some] <;> rfl), by first | exact Kd.R_nil _ _ _ _ _ | exact Kd.N_nil _ _ _ _ _ | exact Kd.V_nil _ _ _ _ _ | exact Kd.Q_nil _ _ _ _ _ | exact Kd.S_nil _ _ _ _ _, by repeat (first | (with_reducible first | exact HB.out | apply below_alloc | apply pw_below_drewN | apply below_drew1 | refine below_set ?_ GE169.out | refine below_set ?_ GE185.out) | exact HB.out)⟩
                                · rw [if_neg c45] at H
                                  have c45b0 : decide (t188 < ((rd_T59 t179 x10_3).f1)) = false := decide_eq_false c45
                                  clear c45
                                  by_cases c50 : t188 > ((rd_T59 t179 x10_3).f2)
                                  · rw [if_pos c50] at H
                                    have c50b0 : decide (((rd_T59 t179 x10_3).f2) < t188) = true := decide_eq_true c50
                                    clear c50
                                    simp only [Option.some.injEq, Prod.mk.injEq] at H
                                    obtain ⟨rfl, rfl, rfl, rfl, rfl, rfl, rfl, rfl⟩ := H
                                    try go_wp2
                                    have n0_ := Aside0.mk (Kd.R_drew HO_4.out)
                                    have n1_ := Aside0.mk (Kd.R_drew HO_6.out)
                                    have n2_ := Aside0.mk (Kd.R_drew HO_186006.out)
                                    have n3_ := Aside0.mk (blk_drew BK169.out)
                                    have n4_ := Aside0.mk (blk_drew BK185.out)
                                    have n5_ := Aside0.mk (below_drew1 HB.out)
                                    clear HO_4
                                    clear HO_6
                                    clear HO_186006
                                    clear BK169
                                    clear BK185
                                    clear HB
                                    have HO_4 := n0_
                                    have HO_6 := n1_
                                    have HO_186006 := n2_
                                    have BK169 := n3_
                                    have BK185 := n4_
                                    have HB := n5_
                                    clear n0_ n1_ n2_ n3_ n4_ n5_
                                    have p186 : 0 ≤ (x10_3 : Int) := of_decide_eq_true (by first | (with_reducible assumption) | assumption)
                                    have q186 : x10_3 < (t179.length : Int) := of_decide_eq_true (by first | (with_reducible assumption) | assumption)
                                    obtain ⟨ad186, e186, hx186_0, hx186_1, hx186_2⟩ := at_T59 (Kd.R_reads' HO_6.out).2.2 x10_3 p186 q186
                                    cases e186
                                    replace p186 := eq_true p186
                                    replace q186 := eq_true q186
                                    have p187 : 0 ≤ ((ji41) : Int) := of_decide_eq_true (by first | (with_reducible assumption) | assumption)
                                    have q187 : (ji41) < (t174.length : Int) := of_decide_eq_true (by first | (with_reducible assumption) | assumption)
                                    obtain ⟨ad187, e187, hx187_0⟩ := Kd.at_string (Kd.R_reads' HO_4.out).2.2 (ji41) p187 q187
                                    obtain rfl : ad177 = ad187 := (by injection e187)
                                    replace p187 := eq_true p187
                                    replace q187 := eq_true q187
                                    refine start_ (n := 11) (S := fun w' => w'.cell? (ad186.add ((x10_3).toNat * 3)) = some (.int .u8 ((rd_T59 t179 x10_3).f0)) ∧ w'.cell? ⟨(ad186.add ((x10_3).toNat * 3)).block, (ad186.add ((x10_3).toNat * 3)).off + 1, none⟩ = some (.int .i64 ((rd_T59 t179 x10_3).f1)) ∧ w'.cell? ⟨(ad186.add ((x10_3).toNat * 3)).block, (ad186.add ((x10_3).toNat * 3)).off + 2, none⟩ = some (.int .i64 ((rd_T59 t179 x10_3).f2)) ∧ w'.cell? (ad177.add ((ji41)).toNat) = some (.string (rdOf ByteArray.empty t174 (ji41)))) (ds := []) #[false, false, false, false, false, false, false, false, false, false, false] (by kernel_rfl) rfl rfl ⟨hx186_0, hx186_1, hx186_2, hx187_0⟩ (fun hHeld => ?_); refine with_tabW jotterref15_Line.tab22 jotterref15_Line.bits22 (fun HT_ HW_ => ?_)
                                    generalize wr.drew = w51 at HO_4 HO_6 HO_186006 BK169 BK185 HB hx186_0 hx186_1 hx186_2 hx187_0 hHeld ⊢
                                    refine pure_ (i := 0) (N := some 67) (v := ?_) (a' := ?_) #[true, false, false, false, false, false, false, false, false, false, false] rfl rfl (any_of HT_.out (by kernel_rfl)) (fun _ _ _ h => h) (Or.inl ⟨by rfl, ?_⟩) ?_ ?_
                                    rotate_left
                                    · intro w'
                                      go_simp
                                      with_reducible rfl
                                    rotate_left
                                    · simp only [Act.put, List.setIfInBounds_toArray, List.set_cons_zero, List.set_cons_succ, i64_w, i32_w]
                                      rfl
                                    refine pure_ (i := 1) (N := some 68) (v := ?_) (a' := ?_) #[true, true, false, false, false, false, false, false, false, false, false] rfl rfl (any_of HT_.out (by kernel_rfl)) (fun _ _ _ h => h) (Or.inl ⟨by rfl, ?_⟩) ?_ ?_
                                    rotate_left
                                    · intro w'
                                      go_simp
                                      with_reducible rfl
                                    rotate_left
                                    · simp only [Act.put, List.setIfInBounds_toArray, List.set_cons_zero, List.set_cons_succ, i64_w, i32_w]
                                      rfl
                                    refine pure_ (i := 2) (N := some 69) (v := ?_) (a' := ?_) #[true, true, true, false, false, false, false, false, false, false, false] rfl rfl (any_of HT_.out (by kernel_rfl)) (fun _ _ _ h => h) (Or.inl ⟨by rfl, ?_⟩) ?_ ?_
                                    rotate_left
                                    · intro w'
                                      go_simp
                                      with_reducible rfl
                                    rotate_left
                                    · simp only [Act.put, List.setIfInBounds_toArray, List.set_cons_zero, List.set_cons_succ, i64_w, i32_w]
                                      rfl
                                    refine pure_ (i := 4) (N := some 71) (v := ?_) (a' := ?_) #[true, true, true, false, true, false, false, false, false, false, false] rfl rfl (any_of HT_.out (by kernel_rfl)) (fun _ _ _ h => h) (Or.inl ⟨by rfl, ?_⟩) ?_ ?_
                                    rotate_left
                                    · intro w'
                                      go_simp
                                      with_reducible rfl
                                    rotate_left
                                    · simp only [Act.put, List.setIfInBounds_toArray, List.set_cons_zero, List.set_cons_succ, i64_w, i32_w]
                                      rfl
                                    refine pure_ (i := 5) (N := some 72) (v := ?_) (a' := ?_) #[true, true, true, false, true, true, false, false, false, false, false] rfl rfl (any_of HT_.out (by kernel_rfl)) (fun _ _ _ h => h) (Or.inl ⟨by rfl, ?_⟩) ?_ ?_
                                    rotate_left
                                    · intro w'
                                      go_simp
                                      with_reducible rfl
                                    rotate_left
                                    · simp only [Act.put, List.setIfInBounds_toArray, List.set_cons_zero, List.set_cons_succ, i64_w, i32_w]
                                      rfl
                                    refine pure_ (i := 6) (N := some 73) (v := ?_) (a' := ?_) #[true, true, true, false, true, true, true, false, false, false, false] rfl rfl (any_of HT_.out (by kernel_rfl)) (fun _ _ _ h => h) (Or.inl ⟨by rfl, ?_⟩) ?_ ?_
                                    rotate_left
                                    · intro w'
                                      go_simp
                                      with_reducible rfl
                                    rotate_left
                                    · simp only [Act.put, List.setIfInBounds_toArray, List.set_cons_zero, List.set_cons_succ, i64_w, i32_w]
                                      rfl
                                    refine pure_ (i := 7) (N := some 74) (v := ?_) (a' := ?_) #[true, true, true, false, true, true, true, true, false, false, false] rfl rfl (any_of HT_.out (by kernel_rfl)) (fun _ _ _ h => h) (Or.inl ⟨by rfl, ?_⟩) ?_ ?_
                                    rotate_left
                                    · intro w'
                                      go_simp
                                      with_reducible rfl
                                    rotate_left
                                    · simp only [Act.put, List.setIfInBounds_toArray, List.set_cons_zero, List.set_cons_succ, i64_w, i32_w]
                                      rfl
                                    refine take_ (i := 3) (N := some 70) (v := ?_) (a' := ?_) #[true, true, true, true, true, true, true, true, false, false, false] rfl rfl (take_ofW HT_.out HW_.out (by kernel_rfl)) (fun _ _ _ h => h) (Or.inl ⟨by rfl, ?_⟩) hHeld ?_ ?_
                                    rotate_left
                                    · rintro w' ⟨s0, s1, s2, s3⟩
                                      go_simp
                                      with_reducible rfl
                                    rotate_left
                                    · simp only [Act.put, List.setIfInBounds_toArray, List.set_cons_zero, List.set_cons_succ, i64_w, i32_w]
                                      rfl
                                    refine take_ (i := 8) (N := some 75) (v := ?_) (a' := ?_) #[true, true, true, true, true, true, true, true, true, false, false] rfl rfl (take_ofW HT_.out HW_.out (by kernel_rfl)) (fun _ _ _ h => h) (Or.inl ⟨by rfl, ?_⟩) hHeld ?_ ?_
                                    rotate_left
                                    · rintro w' ⟨s0, s1, s2, s3⟩
                                      go_simp
                                      with_reducible rfl
                                    rotate_left
                                    · simp only [Act.put, List.setIfInBounds_toArray, List.set_cons_zero, List.set_cons_succ, i64_w, i32_w]
                                      rfl
                                    refine one_ (i := 9) (N := some 76) #[true, true, true, true, true, true, true, true, true, true, false] rfl rfl (one_of HT_.out (by kernel_rfl)) (by decide) (fun K hK => ?_)
                                    refine goes_ Tryd.func26 (by kernel_rfl) rfl #[.agg #[.int .u8 ((rd_T59 t179 x10_3).f0), .int .i64 ((rd_T59 t179 x10_3).f1), .int .i64 ((rd_T59 t179 x10_3).f2)], .string (rdOf ByteArray.empty t174 (ji41))] (by rfl) rfl rfl (by (try simp only [List.map_toArray, List.map_cons, List.map_nil]); first | done | (simp only [hji41]; rfl) | rfl | (simp only [List.length_drop, List.length_take]; rfl)) ?_
                                    with_reducible refine (jotterref15_value.calls k3 ((rd_T59 t179 x10_3).f0) ((rd_T59 t179 x10_3).f1) ((rd_T59 t179 x10_3).f2) (rdOf ByteArray.empty t174 (ji41)) t188 _ A44.out).mono ?_
                                    rintro e w52 ⟨rfl, hb⟩
                                    have HS0_ := (hb.cell (World.block_lt_of_cell? _ _ (hHeld.1))).trans (hHeld.1)
                                    have HS1_ := (hb.cell (World.block_lt_of_cell? _ _ (hHeld.2.1))).trans (hHeld.2.1)
                                    have HS2_ := (hb.cell (World.block_lt_of_cell? _ _ (hHeld.2.2.1))).trans (hHeld.2.2.1)
                                    have HS3_ := (hb.cell (World.block_lt_of_cell? _ _ (hHeld.2.2.2))).trans (hHeld.2.2.2)
                                    refine ⟨_, rfl, ?_⟩
                                    have n0_ := Aside0.mk (Kd.R_below (by (with_reducible repeat (first | apply Kd.R_alloc | apply Kd.R_drewN | apply Kd.R_drew)); exact HO_4.out) hb)
                                    have n1_ := Aside0.mk (Kd.R_below (by (with_reducible repeat (first | apply Kd.R_alloc | apply Kd.R_drewN | apply Kd.R_drew)); exact HO_6.out) hb)
                                    have n2_ := Aside0.mk (Kd.R_below (by (with_reducible repeat (first | apply Kd.R_alloc | apply Kd.R_drewN | apply Kd.R_drew)); exact HO_186006.out) hb)
                                    have n3_ := Aside0.mk (blk_below (g := gb169) (o := .cells #[.int .i64 x170000_3, .int .i64 x170001_3, .int .i64 x170002_3, .int .i64 x170003_3, .int .i64 x170004_3, .int .u8 x170005_3, .slice none 0 0, .int .i64 x170007_3] 25 (0, 0)) (by (with_reducible repeat (first | refine blk_drewN ?_ _ | refine blk_drew ?_ | refine blk_alloc ?_ _)); exact BK169.out) hb)
                                    have n4_ := Aside0.mk (blk_below (g := gb185) (o := .cells #[.int .i64 x186000_3, .int .i64 x186001_3, .int .i64 x186002_3, .int .i64 x186003_3, .int .i64 x186004_3, .int .u8 x186005_3, u186006, .int .i64 x186007_3] 25 (0, 0)) (by (with_reducible repeat (first | refine blk_drewN ?_ _ | refine blk_drew ?_ | refine blk_alloc ?_ _)); exact BK185.out) hb)
                                    have n5_ := Aside0.mk (below_step (by repeat (first | (with_reducible first | exact HB.out | apply below_alloc | apply pw_below_drewN | apply below_drew1 | refine below_set ?_ GE169.out | refine below_set ?_ GE185.out) | exact HB.out)) hb)
                                    clear HO_4
                                    clear HO_6
                                    clear HO_186006
                                    clear BK169
                                    clear BK185
                                    clear HB
                                    have HO_4 := n0_
                                    have HO_6 := n1_
                                    have HO_186006 := n2_
                                    have BK169 := n3_
                                    have BK185 := n4_
                                    have HB := n5_
                                    clear n0_ n1_ n2_ n3_ n4_ n5_
                                    (try clear hb)
                                    (try clear hb2)
                                    (try clear hk)
                                    (try clear hi)
                                    refine hK.out _ _ ⟨HS0_, HS1_, HS2_, HS3_⟩ (fun hHeld => ?_)
                                    clear hK K
                                    refine norm_ (a' := ?_) ?_ ?_
                                    rotate_left
                                    · show Act.put _ (some 76) _ = _
                                      simp only [Act.put, List.setIfInBounds_toArray, List.set_cons_zero, List.set_cons_succ, i64_w, i32_w]
                                      rfl
                                    refine pure_ (i := 10) (N := some 11) (v := ?_) (a' := ?_) #[true, true, true, true, true, true, true, true, true, true, true] rfl rfl (any_of HT_.out (by kernel_rfl)) (fun _ _ _ h => h) (Or.inl ⟨by rfl, ?_⟩) ?_ ?_
                                    rotate_left
                                    · intro w'
                                      go_simp
                                      with_reducible rfl
                                    rotate_left
                                    · simp only [Act.put, List.setIfInBounds_toArray, List.set_cons_zero, List.set_cons_succ, i64_w, i32_w]
                                      rfl
                                    refine done_ (done_of HT_.out (by kernel_rfl)) ?_
                                    have p189 : 0 ≤ (x10_3 : Int) := of_decide_eq_true (by first | (with_reducible assumption) | assumption)
                                    have q189 : x10_3 < (t179.length : Int) := of_decide_eq_true (by first | (with_reducible assumption) | assumption)
                                    obtain ⟨ad189, e189, hx189_0, hx189_1, hx189_2⟩ := at_T59 (Kd.R_reads' HO_6.out).2.2 x10_3 p189 q189
                                    obtain rfl : ad186 = ad189 := (by injection e189)
                                    replace p189 := eq_true p189
                                    replace q189 := eq_true q189
                                    have p190 : 0 ≤ (x10_3 : Int) := of_decide_eq_true (by first | (with_reducible assumption) | assumption)
                                    have q190 : x10_3 < (t179.length : Int) := of_decide_eq_true (by first | (with_reducible assumption) | assumption)
                                    obtain ⟨ad190, e190, hx190_0, hx190_1, hx190_2⟩ := at_T59 (Kd.R_reads' HO_6.out).2.2 x10_3 p190 q190
                                    obtain rfl : ad186 = ad190 := (by injection e190)
                                    replace p190 := eq_true p190
                                    replace q190 := eq_true q190
                                    have hnb53 := NB169_185.out
                                    have hnc53 := NB185_169.out
                                    have hcz54_0 : w52.cell? ⟨gb169, 0, none⟩ = some (.int .i64 x170000_3) := (blk_cell BK169.out 0).trans rfl
                                    have hcz54_1 : w52.cell? ⟨gb169, 1, none⟩ = some (.int .i64 x170001_3) := (blk_cell BK169.out 1).trans rfl
                                    have hcz54_2 : w52.cell? ⟨gb169, 2, none⟩ = some (.int .i64 x170002_3) := (blk_cell BK169.out 2).trans rfl
                                    have hcz54_3 : w52.cell? ⟨gb169, 3, none⟩ = some (.int .i64 x170003_3) := (blk_cell BK169.out 3).trans rfl
                                    have hcz54_4 : w52.cell? ⟨gb169, 4, none⟩ = some (.int .i64 x170004_3) := (blk_cell BK169.out 4).trans rfl
                                    have hcz54_5 : w52.cell? ⟨gb169, 5, none⟩ = some (.int .u8 x170005_3) := (blk_cell BK169.out 5).trans rfl
                                    have hcz54_6 : w52.cell? ⟨gb169, 6, none⟩ = some (.slice none 0 0) := (blk_cell BK169.out 6).trans rfl
                                    have hcz54_7 : w52.cell? ⟨gb169, 7, none⟩ = some (.int .i64 x170007_3) := (blk_cell BK169.out 7).trans rfl
                                    have hfz54_0 := blk_frozen BK169.out 0
                                    have hfz54_1 := blk_frozen BK169.out 1
                                    have hfz54_2 := blk_frozen BK169.out 2
                                    have hfz54_3 := blk_frozen BK169.out 3
                                    have hfz54_4 := blk_frozen BK169.out 4
                                    have hfz54_5 := blk_frozen BK169.out 5
                                    have hfz54_6 := blk_frozen BK169.out 6
                                    have hfz54_7 := blk_frozen BK169.out 7
                                    try go_wp2
                                    refine bodyPost_ret (results_cell_row rfl _ _ gb169 25 #[.int .i64 t178, .int .i64 0, .int .i64 0, .int .i64 0, .int .i64 0, .int .u8 0, .slice none 0 0, .int .i64 155] (0, 0) _ rfl (by (with_reducible repeat (first | refine blk_drewN ?_ _ | refine blk_drew ?_ | refine blk_alloc ?_ _)); refine blk_put (cs := #[.int .i64 t178, .int .i64 0, .int .i64 0, .int .i64 0, .int .i64 0, .int .u8 0, .slice none 0 0, .int .i64 x170007_3]) ?_ 7 _ rfl; (with_reducible repeat (first | refine blk_drewN ?_ _ | refine blk_drew ?_ | refine blk_alloc ?_ _)); refine blk_put (cs := #[.int .i64 t178, .int .i64 0, .int .i64 0, .int .i64 0, .int .i64 0, .int .u8 0, .slice none 0 0, .int .i64 x170007_3]) ?_ 6 _ rfl; (with_reducible repeat (first | refine blk_drewN ?_ _ | refine blk_drew ?_ | refine blk_alloc ?_ _)); refine blk_put (cs := #[.int .i64 t178, .int .i64 0, .int .i64 0, .int .i64 0, .int .i64 0, .int .u8 x170005_3, .slice none 0 0, .int .i64 x170007_3]) ?_ 5 _ rfl; (with_reducible repeat (first | refine blk_drewN ?_ _ | refine blk_drew ?_ | refine blk_alloc ?_ _)); refine blk_put (cs := #[.int .i64 t178, .int .i64 0, .int .i64 0, .int .i64 0, .int .i64 x170004_3, .int .u8 x170005_3, .slice none 0 0, .int .i64 x170007_3]) ?_ 4 _ rfl; (with_reducible repeat (first | refine blk_drewN ?_ _ | refine blk_drew ?_ | refine blk_alloc ?_ _)); refine blk_put (cs := #[.int .i64 t178, .int .i64 0, .int .i64 0, .int .i64 x170003_3, .int .i64 x170004_3, .int .u8 x170005_3, .slice none 0 0, .int .i64 x170007_3]) ?_ 3 _ rfl; (with_reducible repeat (first | refine blk_drewN ?_ _ | refine blk_drew ?_ | refine blk_alloc ?_ _)); refine blk_put (cs := #[.int .i64 t178, .int .i64 0, .int .i64 x170002_3, .int .i64 x170003_3, .int .i64 x170004_3, .int .u8 x170005_3, .slice none 0 0, .int .i64 x170007_3]) ?_ 2 _ rfl; (with_reducible repeat (first | refine blk_drewN ?_ _ | refine blk_drew ?_ | refine blk_alloc ?_ _)); refine blk_put (cs := #[.int .i64 t178, .int .i64 x170001_3, .int .i64 x170002_3, .int .i64 x170003_3, .int .i64 x170004_3, .int .u8 x170005_3, .slice none 0 0, .int .i64 x170007_3]) ?_ 1 _ rfl; (with_reducible repeat (first | refine blk_drewN ?_ _ | refine blk_drew ?_ | refine blk_alloc ?_ _)); refine blk_put (cs := #[.int .i64 x170000_3, .int .i64 x170001_3, .int .i64 x170002_3, .int .i64 x170003_3, .int .i64 x170004_3, .int .u8 x170005_3, .slice none 0 0, .int .i64 x170007_3]) ?_ 0 _ rfl; (with_reducible repeat (first | refine blk_drewN ?_ _ | refine blk_drew ?_ | refine blk_alloc ?_ _)); exact BK169.out) Tryd.underlying25 rfl (by kernel_rfl)) rfl ?_
                                    exact ⟨_, by first | rfl | (simp [errW_none, errW_some] <;> rfl) | (simp only [← hji41]; first | rfl | (simp [errW_none, errW_some] <;> rfl)) | (simp [*, errW_none, errW_some] <;> rfl), by first | exact Kd.R_nil _ _ _ _ _ | exact Kd.N_nil _ _ _ _ _ | exact Kd.V_nil _ _ _ _ _ | exact Kd.Q_nil _ _ _ _ _ | exact Kd.S_nil _ _ _ _ _, by repeat (first | (with_reducible first | exact HB.out | apply below_alloc | apply pw_below_drewN | apply below_drew1 | refine below_set ?_ GE169.out | refine below_set ?_ GE185.out) | exact HB.out)⟩
                                  · rw [if_neg c50] at H
                                    have c50b0 : decide (((rd_T59 t179 x10_3).f2) < t188) = false := decide_eq_false c50
                                    clear c50
                                    replace H := Option.bind_eq_some_iff.mp H
                                    obtain ⟨⟨t193, t194, t195, t196, t197, t198, t199, t202⟩, A550, H⟩ := H
                                    replace H : (jotterref15_Line.l1 k3 t174 t178 t179 ji41 t193 t194 t195 t196 t197 t198 t199 t202) = some (r1, r2, r3, r4, r5, r6, r7, r8) := H
                                    have A55 := Aside0.mk A550
                                    clear A550
                                    have H' := Aside0.mk H
                                    clear H
                                    try go_wp2
                                    have n0_ := Aside0.mk (Kd.R_drew HO_4.out)
                                    have n1_ := Aside0.mk (Kd.R_drew HO_6.out)
                                    have n2_ := Aside0.mk (Kd.R_drew HO_186006.out)
                                    have n3_ := Aside0.mk (blk_drew BK169.out)
                                    have n4_ := Aside0.mk (blk_drew BK185.out)
                                    have n5_ := Aside0.mk (below_drew1 HB.out)
                                    clear HO_4
                                    clear HO_6
                                    clear HO_186006
                                    clear BK169
                                    clear BK185
                                    clear HB
                                    have HO_4 := n0_
                                    have HO_6 := n1_
                                    have HO_186006 := n2_
                                    have BK169 := n3_
                                    have BK185 := n4_
                                    have HB := n5_
                                    clear n0_ n1_ n2_ n3_ n4_ n5_
                                    have p186 : 0 ≤ (x10_3 : Int) := of_decide_eq_true (by first | (with_reducible assumption) | assumption)
                                    have q186 : x10_3 < (t179.length : Int) := of_decide_eq_true (by first | (with_reducible assumption) | assumption)
                                    obtain ⟨ad186, e186, hx186_0, hx186_1, hx186_2⟩ := at_T59 (Kd.R_reads' HO_6.out).2.2 x10_3 p186 q186
                                    cases e186
                                    replace p186 := eq_true p186
                                    replace q186 := eq_true q186
                                    have p187 : 0 ≤ ((ji41) : Int) := of_decide_eq_true (by first | (with_reducible assumption) | assumption)
                                    have q187 : (ji41) < (t174.length : Int) := of_decide_eq_true (by first | (with_reducible assumption) | assumption)
                                    obtain ⟨ad187, e187, hx187_0⟩ := Kd.at_string (Kd.R_reads' HO_4.out).2.2 (ji41) p187 q187
                                    obtain rfl : ad177 = ad187 := (by injection e187)
                                    replace p187 := eq_true p187
                                    replace q187 := eq_true q187
                                    refine start_ (n := 11) (S := fun w' => w'.cell? (ad186.add ((x10_3).toNat * 3)) = some (.int .u8 ((rd_T59 t179 x10_3).f0)) ∧ w'.cell? ⟨(ad186.add ((x10_3).toNat * 3)).block, (ad186.add ((x10_3).toNat * 3)).off + 1, none⟩ = some (.int .i64 ((rd_T59 t179 x10_3).f1)) ∧ w'.cell? ⟨(ad186.add ((x10_3).toNat * 3)).block, (ad186.add ((x10_3).toNat * 3)).off + 2, none⟩ = some (.int .i64 ((rd_T59 t179 x10_3).f2)) ∧ w'.cell? (ad177.add ((ji41)).toNat) = some (.string (rdOf ByteArray.empty t174 (ji41)))) (ds := []) #[false, false, false, false, false, false, false, false, false, false, false] (by kernel_rfl) rfl rfl ⟨hx186_0, hx186_1, hx186_2, hx187_0⟩ (fun hHeld => ?_); refine with_tabW jotterref15_Line.tab22 jotterref15_Line.bits22 (fun HT_ HW_ => ?_)
                                    generalize wr.drew = w56 at HO_4 HO_6 HO_186006 BK169 BK185 HB hx186_0 hx186_1 hx186_2 hx187_0 hHeld ⊢
                                    refine pure_ (i := 0) (N := some 67) (v := ?_) (a' := ?_) #[true, false, false, false, false, false, false, false, false, false, false] rfl rfl (any_of HT_.out (by kernel_rfl)) (fun _ _ _ h => h) (Or.inl ⟨by rfl, ?_⟩) ?_ ?_
                                    rotate_left
                                    · intro w'
                                      go_simp
                                      with_reducible rfl
                                    rotate_left
                                    · simp only [Act.put, List.setIfInBounds_toArray, List.set_cons_zero, List.set_cons_succ, i64_w, i32_w]
                                      rfl
                                    refine pure_ (i := 1) (N := some 68) (v := ?_) (a' := ?_) #[true, true, false, false, false, false, false, false, false, false, false] rfl rfl (any_of HT_.out (by kernel_rfl)) (fun _ _ _ h => h) (Or.inl ⟨by rfl, ?_⟩) ?_ ?_
                                    rotate_left
                                    · intro w'
                                      go_simp
                                      with_reducible rfl
                                    rotate_left
                                    · simp only [Act.put, List.setIfInBounds_toArray, List.set_cons_zero, List.set_cons_succ, i64_w, i32_w]
                                      rfl
                                    refine pure_ (i := 2) (N := some 69) (v := ?_) (a' := ?_) #[true, true, true, false, false, false, false, false, false, false, false] rfl rfl (any_of HT_.out (by kernel_rfl)) (fun _ _ _ h => h) (Or.inl ⟨by rfl, ?_⟩) ?_ ?_
                                    rotate_left
                                    · intro w'
                                      go_simp
                                      with_reducible rfl
                                    rotate_left
                                    · simp only [Act.put, List.setIfInBounds_toArray, List.set_cons_zero, List.set_cons_succ, i64_w, i32_w]
                                      rfl
                                    refine pure_ (i := 4) (N := some 71) (v := ?_) (a' := ?_) #[true, true, true, false, true, false, false, false, false, false, false] rfl rfl (any_of HT_.out (by kernel_rfl)) (fun _ _ _ h => h) (Or.inl ⟨by rfl, ?_⟩) ?_ ?_
                                    rotate_left
                                    · intro w'
                                      go_simp
                                      with_reducible rfl
                                    rotate_left
                                    · simp only [Act.put, List.setIfInBounds_toArray, List.set_cons_zero, List.set_cons_succ, i64_w, i32_w]
                                      rfl
                                    refine pure_ (i := 5) (N := some 72) (v := ?_) (a' := ?_) #[true, true, true, false, true, true, false, false, false, false, false] rfl rfl (any_of HT_.out (by kernel_rfl)) (fun _ _ _ h => h) (Or.inl ⟨by rfl, ?_⟩) ?_ ?_
                                    rotate_left
                                    · intro w'
                                      go_simp
                                      with_reducible rfl
                                    rotate_left
                                    · simp only [Act.put, List.setIfInBounds_toArray, List.set_cons_zero, List.set_cons_succ, i64_w, i32_w]
                                      rfl
                                    refine pure_ (i := 6) (N := some 73) (v := ?_) (a' := ?_) #[true, true, true, false, true, true, true, false, false, false, false] rfl rfl (any_of HT_.out (by kernel_rfl)) (fun _ _ _ h => h) (Or.inl ⟨by rfl, ?_⟩) ?_ ?_
                                    rotate_left
                                    · intro w'
                                      go_simp
                                      with_reducible rfl
                                    rotate_left
                                    · simp only [Act.put, List.setIfInBounds_toArray, List.set_cons_zero, List.set_cons_succ, i64_w, i32_w]
                                      rfl
                                    refine pure_ (i := 7) (N := some 74) (v := ?_) (a' := ?_) #[true, true, true, false, true, true, true, true, false, false, false] rfl rfl (any_of HT_.out (by kernel_rfl)) (fun _ _ _ h => h) (Or.inl ⟨by rfl, ?_⟩) ?_ ?_
                                    rotate_left
                                    · intro w'
                                      go_simp
                                      with_reducible rfl
                                    rotate_left
                                    · simp only [Act.put, List.setIfInBounds_toArray, List.set_cons_zero, List.set_cons_succ, i64_w, i32_w]
                                      rfl
                                    refine take_ (i := 3) (N := some 70) (v := ?_) (a' := ?_) #[true, true, true, true, true, true, true, true, false, false, false] rfl rfl (take_ofW HT_.out HW_.out (by kernel_rfl)) (fun _ _ _ h => h) (Or.inl ⟨by rfl, ?_⟩) hHeld ?_ ?_
                                    rotate_left
                                    · rintro w' ⟨s0, s1, s2, s3⟩
                                      go_simp
                                      with_reducible rfl
                                    rotate_left
                                    · simp only [Act.put, List.setIfInBounds_toArray, List.set_cons_zero, List.set_cons_succ, i64_w, i32_w]
                                      rfl
                                    refine take_ (i := 8) (N := some 75) (v := ?_) (a' := ?_) #[true, true, true, true, true, true, true, true, true, false, false] rfl rfl (take_ofW HT_.out HW_.out (by kernel_rfl)) (fun _ _ _ h => h) (Or.inl ⟨by rfl, ?_⟩) hHeld ?_ ?_
                                    rotate_left
                                    · rintro w' ⟨s0, s1, s2, s3⟩
                                      go_simp
                                      with_reducible rfl
                                    rotate_left
                                    · simp only [Act.put, List.setIfInBounds_toArray, List.set_cons_zero, List.set_cons_succ, i64_w, i32_w]
                                      rfl
                                    refine one_ (i := 9) (N := some 76) #[true, true, true, true, true, true, true, true, true, true, false] rfl rfl (one_of HT_.out (by kernel_rfl)) (by decide) (fun K hK => ?_)
                                    refine goes_ Tryd.func26 (by kernel_rfl) rfl #[.agg #[.int .u8 ((rd_T59 t179 x10_3).f0), .int .i64 ((rd_T59 t179 x10_3).f1), .int .i64 ((rd_T59 t179 x10_3).f2)], .string (rdOf ByteArray.empty t174 (ji41))] (by rfl) rfl rfl (by (try simp only [List.map_toArray, List.map_cons, List.map_nil]); first | done | (simp only [hji41]; rfl) | rfl | (simp only [List.length_drop, List.length_take]; rfl)) ?_
                                    with_reducible refine (jotterref15_value.calls k3 ((rd_T59 t179 x10_3).f0) ((rd_T59 t179 x10_3).f1) ((rd_T59 t179 x10_3).f2) (rdOf ByteArray.empty t174 (ji41)) t188 _ A44.out).mono ?_
                                    rintro e w57 ⟨rfl, hb⟩
                                    have HS0_ := (hb.cell (World.block_lt_of_cell? _ _ (hHeld.1))).trans (hHeld.1)
                                    have HS1_ := (hb.cell (World.block_lt_of_cell? _ _ (hHeld.2.1))).trans (hHeld.2.1)
                                    have HS2_ := (hb.cell (World.block_lt_of_cell? _ _ (hHeld.2.2.1))).trans (hHeld.2.2.1)
                                    have HS3_ := (hb.cell (World.block_lt_of_cell? _ _ (hHeld.2.2.2))).trans (hHeld.2.2.2)
                                    refine ⟨_, rfl, ?_⟩
                                    have n0_ := Aside0.mk (Kd.R_below (by (with_reducible repeat (first | apply Kd.R_alloc | apply Kd.R_drewN | apply Kd.R_drew)); exact HO_4.out) hb)
                                    have n1_ := Aside0.mk (Kd.R_below (by (with_reducible repeat (first | apply Kd.R_alloc | apply Kd.R_drewN | apply Kd.R_drew)); exact HO_6.out) hb)
                                    have n2_ := Aside0.mk (Kd.R_below (by (with_reducible repeat (first | apply Kd.R_alloc | apply Kd.R_drewN | apply Kd.R_drew)); exact HO_186006.out) hb)
                                    have n3_ := Aside0.mk (blk_below (g := gb169) (o := .cells #[.int .i64 x170000_3, .int .i64 x170001_3, .int .i64 x170002_3, .int .i64 x170003_3, .int .i64 x170004_3, .int .u8 x170005_3, .slice none 0 0, .int .i64 x170007_3] 25 (0, 0)) (by (with_reducible repeat (first | refine blk_drewN ?_ _ | refine blk_drew ?_ | refine blk_alloc ?_ _)); exact BK169.out) hb)
                                    have n4_ := Aside0.mk (blk_below (g := gb185) (o := .cells #[.int .i64 x186000_3, .int .i64 x186001_3, .int .i64 x186002_3, .int .i64 x186003_3, .int .i64 x186004_3, .int .u8 x186005_3, u186006, .int .i64 x186007_3] 25 (0, 0)) (by (with_reducible repeat (first | refine blk_drewN ?_ _ | refine blk_drew ?_ | refine blk_alloc ?_ _)); exact BK185.out) hb)
                                    have n5_ := Aside0.mk (below_step (by repeat (first | (with_reducible first | exact HB.out | apply below_alloc | apply pw_below_drewN | apply below_drew1 | refine below_set ?_ GE169.out | refine below_set ?_ GE185.out) | exact HB.out)) hb)
                                    clear HO_4
                                    clear HO_6
                                    clear HO_186006
                                    clear BK169
                                    clear BK185
                                    clear HB
                                    have HO_4 := n0_
                                    have HO_6 := n1_
                                    have HO_186006 := n2_
                                    have BK169 := n3_
                                    have BK185 := n4_
                                    have HB := n5_
                                    clear n0_ n1_ n2_ n3_ n4_ n5_
                                    (try clear hb)
                                    (try clear hb2)
                                    (try clear hk)
                                    (try clear hi)
                                    refine hK.out _ _ ⟨HS0_, HS1_, HS2_, HS3_⟩ (fun hHeld => ?_)
                                    clear hK K
                                    refine norm_ (a' := ?_) ?_ ?_
                                    rotate_left
                                    · show Act.put _ (some 76) _ = _
                                      simp only [Act.put, List.setIfInBounds_toArray, List.set_cons_zero, List.set_cons_succ, i64_w, i32_w]
                                      rfl
                                    refine pure_ (i := 10) (N := some 11) (v := ?_) (a' := ?_) #[true, true, true, true, true, true, true, true, true, true, true] rfl rfl (any_of HT_.out (by kernel_rfl)) (fun _ _ _ h => h) (Or.inl ⟨by rfl, ?_⟩) ?_ ?_
                                    rotate_left
                                    · intro w'
                                      go_simp
                                      with_reducible rfl
                                    rotate_left
                                    · simp only [Act.put, List.setIfInBounds_toArray, List.set_cons_zero, List.set_cons_succ, i64_w, i32_w]
                                      rfl
                                    refine done_ (done_of HT_.out (by kernel_rfl)) ?_
                                    have p189 : 0 ≤ (x10_3 : Int) := of_decide_eq_true (by first | (with_reducible assumption) | assumption)
                                    have q189 : x10_3 < (t179.length : Int) := of_decide_eq_true (by first | (with_reducible assumption) | assumption)
                                    obtain ⟨ad189, e189, hx189_0, hx189_1, hx189_2⟩ := at_T59 (Kd.R_reads' HO_6.out).2.2 x10_3 p189 q189
                                    obtain rfl : ad186 = ad189 := (by injection e189)
                                    replace p189 := eq_true p189
                                    replace q189 := eq_true q189
                                    have p190 : 0 ≤ (x10_3 : Int) := of_decide_eq_true (by first | (with_reducible assumption) | assumption)
                                    have q190 : x10_3 < (t179.length : Int) := of_decide_eq_true (by first | (with_reducible assumption) | assumption)
                                    obtain ⟨ad190, e190, hx190_0, hx190_1, hx190_2⟩ := at_T59 (Kd.R_reads' HO_6.out).2.2 x10_3 p190 q190
                                    obtain rfl : ad186 = ad190 := (by injection e190)
                                    replace p190 := eq_true p190
                                    replace q190 := eq_true q190
                                    try go_wp2
                                    have n0_ := Aside0.mk (Kd.R_drew HO_4.out)
                                    have n1_ := Aside0.mk (Kd.R_drew HO_6.out)
                                    have n2_ := Aside0.mk (Kd.R_drew HO_186006.out)
                                    have n3_ := Aside0.mk (blk_drew BK169.out)
                                    have n4_ := Aside0.mk (blk_drew BK185.out)
                                    have n5_ := Aside0.mk (below_drew1 HB.out)
                                    clear HO_4
                                    clear HO_6
                                    clear HO_186006
                                    clear BK169
                                    clear BK185
                                    clear HB
                                    have HO_4 := n0_
                                    have HO_6 := n1_
                                    have HO_186006 := n2_
                                    have BK169 := n3_
                                    have BK185 := n4_
                                    have HB := n5_
                                    clear n0_ n1_ n2_ n3_ n4_ n5_
                                    have p191 : 0 ≤ (x10_3 : Int) := of_decide_eq_true (by first | (with_reducible assumption) | assumption)
                                    have q191 : x10_3 < (t179.length : Int) := of_decide_eq_true (by first | (with_reducible assumption) | assumption)
                                    obtain ⟨ad191, e191, hx191_0, hx191_1, hx191_2⟩ := at_T59 (Kd.R_reads' HO_6.out).2.2 x10_3 p191 q191
                                    obtain rfl : ad186 = ad191 := (by injection e191)
                                    replace p191 := eq_true p191
                                    replace q191 := eq_true q191
                                    have p192 : 0 ≤ ((ji41) : Int) := of_decide_eq_true (by first | (with_reducible assumption) | assumption)
                                    have q192 : (ji41) < (t174.length : Int) := of_decide_eq_true (by first | (with_reducible assumption) | assumption)
                                    obtain ⟨ad192, e192, hx192_0⟩ := Kd.at_string (Kd.R_reads' HO_4.out).2.2 (ji41) p192 q192
                                    obtain rfl : ad177 = ad192 := (by injection e192)
                                    replace p192 := eq_true p192
                                    replace q192 := eq_true q192
                                    obtain ⟨Ao59, co59, eo59⟩ := Kd.R_slice HO_186006.out
                                    (first | subst eo59 | (injection eo59 with f1_ f2_ f3_; have f4_ := f1_.symm; have f5_ := f3_.symm; clear f1_ f2_ f3_; subst f4_; subst f5_))
                                    refine start_ (n := 12) (S := fun w' => w'.cell? ⟨gb185, 0, none⟩ = some (.int .i64 x186000_3) ∧ w'.cell? ⟨gb185, 1, none⟩ = some (.int .i64 x186001_3) ∧ w'.cell? ⟨gb185, 2, none⟩ = some (.int .i64 x186002_3) ∧ w'.cell? ⟨gb185, 3, none⟩ = some (.int .i64 x186003_3) ∧ w'.cell? ⟨gb185, 4, none⟩ = some (.int .i64 x186004_3) ∧ w'.cell? ⟨gb185, 5, none⟩ = some (.int .u8 x186005_3) ∧ w'.cell? ⟨gb185, 6, none⟩ = some (.slice Ao59 x186006_3.length co59) ∧ w'.cell? ⟨gb185, 7, none⟩ = some (.int .i64 x186007_3) ∧ w'.cell? (ad186.add ((x10_3).toNat * 3)) = some (.int .u8 ((rd_T59 t179 x10_3).f0)) ∧ w'.cell? ⟨(ad186.add ((x10_3).toNat * 3)).block, (ad186.add ((x10_3).toNat * 3)).off + 1, none⟩ = some (.int .i64 ((rd_T59 t179 x10_3).f1)) ∧ w'.cell? ⟨(ad186.add ((x10_3).toNat * 3)).block, (ad186.add ((x10_3).toNat * 3)).off + 2, none⟩ = some (.int .i64 ((rd_T59 t179 x10_3).f2)) ∧ w'.cell? (ad177.add ((ji41)).toNat) = some (.string (rdOf ByteArray.empty t174 (ji41)))) (ds := [11]) #[false, false, false, false, false, false, false, false, false, false, false, false] (by kernel_rfl) rfl rfl ⟨(blk_cell BK185.out 0).trans rfl, (blk_cell BK185.out 1).trans rfl, (blk_cell BK185.out 2).trans rfl, (blk_cell BK185.out 3).trans rfl, (blk_cell BK185.out 4).trans rfl, (blk_cell BK185.out 5).trans rfl, (blk_cell BK185.out 6).trans rfl, (blk_cell BK185.out 7).trans rfl, hx191_0, hx191_1, hx191_2, hx192_0⟩ (fun hHeld => ?_); refine with_tabW jotterref15_Line.tab25 jotterref15_Line.bits25 (fun HT_ HW_ => ?_)
                                    generalize w57.drew = w58 at HO_4 HO_6 HO_186006 BK169 BK185 HB hx191_0 hx191_1 hx191_2 hx192_0 hHeld ⊢
                                    refine pure_ (i := 1) (N := some 96) (v := ?_) (a' := ?_) #[false, true, false, false, false, false, false, false, false, false, false, false] rfl rfl (any_of HT_.out (by kernel_rfl)) (fun _ _ _ h => h) (Or.inl ⟨by rfl, ?_⟩) ?_ ?_
                                    rotate_left
                                    · intro w'
                                      go_simp
                                      with_reducible rfl
                                    rotate_left
                                    · simp only [Act.put, List.setIfInBounds_toArray, List.set_cons_zero, List.set_cons_succ, i64_w, i32_w]
                                      rfl
                                    refine pure_ (i := 2) (N := some 97) (v := ?_) (a' := ?_) #[false, true, true, false, false, false, false, false, false, false, false, false] rfl rfl (any_of HT_.out (by kernel_rfl)) (fun _ _ _ h => h) (Or.inl ⟨by rfl, ?_⟩) ?_ ?_
                                    rotate_left
                                    · intro w'
                                      go_simp
                                      with_reducible rfl
                                    rotate_left
                                    · simp only [Act.put, List.setIfInBounds_toArray, List.set_cons_zero, List.set_cons_succ, i64_w, i32_w]
                                      rfl
                                    refine pure_ (i := 3) (N := some 98) (v := ?_) (a' := ?_) #[false, true, true, true, false, false, false, false, false, false, false, false] rfl rfl (any_of HT_.out (by kernel_rfl)) (fun _ _ _ h => h) (Or.inl ⟨by rfl, ?_⟩) ?_ ?_
                                    rotate_left
                                    · intro w'
                                      go_simp
                                      with_reducible rfl
                                    rotate_left
                                    · simp only [Act.put, List.setIfInBounds_toArray, List.set_cons_zero, List.set_cons_succ, i64_w, i32_w]
                                      rfl
                                    refine pure_ (i := 5) (N := some 100) (v := ?_) (a' := ?_) #[false, true, true, true, false, true, false, false, false, false, false, false] rfl rfl (any_of HT_.out (by kernel_rfl)) (fun _ _ _ h => h) (Or.inl ⟨by rfl, ?_⟩) ?_ ?_
                                    rotate_left
                                    · intro w'
                                      go_simp
                                      with_reducible rfl
                                    rotate_left
                                    · simp only [Act.put, List.setIfInBounds_toArray, List.set_cons_zero, List.set_cons_succ, i64_w, i32_w]
                                      rfl
                                    refine pure_ (i := 6) (N := some 101) (v := ?_) (a' := ?_) #[false, true, true, true, false, true, true, false, false, false, false, false] rfl rfl (any_of HT_.out (by kernel_rfl)) (fun _ _ _ h => h) (Or.inl ⟨by rfl, ?_⟩) ?_ ?_
                                    rotate_left
                                    · intro w'
                                      go_simp
                                      with_reducible rfl
                                    rotate_left
                                    · simp only [Act.put, List.setIfInBounds_toArray, List.set_cons_zero, List.set_cons_succ, i64_w, i32_w]
                                      rfl
                                    refine pure_ (i := 7) (N := some 102) (v := ?_) (a' := ?_) #[false, true, true, true, false, true, true, true, false, false, false, false] rfl rfl (any_of HT_.out (by kernel_rfl)) (fun _ _ _ h => h) (Or.inl ⟨by rfl, ?_⟩) ?_ ?_
                                    rotate_left
                                    · intro w'
                                      go_simp
                                      with_reducible rfl
                                    rotate_left
                                    · simp only [Act.put, List.setIfInBounds_toArray, List.set_cons_zero, List.set_cons_succ, i64_w, i32_w]
                                      rfl
                                    refine pure_ (i := 8) (N := some 103) (v := ?_) (a' := ?_) #[false, true, true, true, false, true, true, true, true, false, false, false] rfl rfl (any_of HT_.out (by kernel_rfl)) (fun _ _ _ h => h) (Or.inl ⟨by rfl, ?_⟩) ?_ ?_
                                    rotate_left
                                    · intro w'
                                      go_simp
                                      with_reducible rfl
                                    rotate_left
                                    · simp only [Act.put, List.setIfInBounds_toArray, List.set_cons_zero, List.set_cons_succ, i64_w, i32_w]
                                      rfl
                                    refine take_ (i := 0) (N := some 95) (v := ?_) (a' := ?_) #[true, true, true, true, false, true, true, true, true, false, false, false] rfl rfl (take_ofW HT_.out HW_.out (by kernel_rfl)) (fun _ _ _ h => h) (Or.inl ⟨by rfl, ?_⟩) hHeld ?_ ?_
                                    rotate_left
                                    · rintro w' ⟨s0, s1, s2, s3, s4, s5, s6, s7, s8, s9, s10, s11⟩
                                      go_simp
                                      with_reducible rfl
                                    rotate_left
                                    · simp only [Act.put, List.setIfInBounds_toArray, List.set_cons_zero, List.set_cons_succ, i64_w, i32_w]
                                      rfl
                                    refine take_ (i := 4) (N := some 99) (v := ?_) (a' := ?_) #[true, true, true, true, true, true, true, true, true, false, false, false] rfl rfl (take_ofW HT_.out HW_.out (by kernel_rfl)) (fun _ _ _ h => h) (Or.inl ⟨by rfl, ?_⟩) hHeld ?_ ?_
                                    rotate_left
                                    · rintro w' ⟨s0, s1, s2, s3, s4, s5, s6, s7, s8, s9, s10, s11⟩
                                      go_simp
                                      with_reducible rfl
                                    rotate_left
                                    · simp only [Act.put, List.setIfInBounds_toArray, List.set_cons_zero, List.set_cons_succ, i64_w, i32_w]
                                      rfl
                                    refine take_ (i := 9) (N := some 104) (v := ?_) (a' := ?_) #[true, true, true, true, true, true, true, true, true, true, false, false] rfl rfl (take_ofW HT_.out HW_.out (by kernel_rfl)) (fun _ _ _ h => h) (Or.inl ⟨by rfl, ?_⟩) hHeld ?_ ?_
                                    rotate_left
                                    · rintro w' ⟨s0, s1, s2, s3, s4, s5, s6, s7, s8, s9, s10, s11⟩
                                      go_simp
                                      with_reducible rfl
                                    rotate_left
                                    · simp only [Act.put, List.setIfInBounds_toArray, List.set_cons_zero, List.set_cons_succ, i64_w, i32_w]
                                      rfl
                                    refine one_ (i := 10) (N := some 105) #[true, true, true, true, true, true, true, true, true, true, true, false] rfl rfl (one_of HT_.out (by kernel_rfl)) (by decide) (fun K hK => ?_)
                                    refine goes_ Tryd.func27 (by kernel_rfl) rfl #[.agg #[.int .i64 x186000_3, .int .i64 x186001_3, .int .i64 x186002_3, .int .i64 x186003_3, .int .i64 x186004_3, .int .u8 x186005_3, .slice Ao59 x186006_3.length co59, .int .i64 x186007_3], .agg #[.int .u8 ((rd_T59 t179 x10_3).f0), .int .i64 ((rd_T59 t179 x10_3).f1), .int .i64 ((rd_T59 t179 x10_3).f2)], .string (rdOf ByteArray.empty t174 (ji41))] (by rfl) rfl rfl (by (try simp only [List.map_toArray, List.map_cons, List.map_nil]); first | done | (simp only [hji41]; rfl) | rfl | (simp only [List.length_drop, List.length_take]; rfl)) ?_
                                    with_reducible refine (jotterref15_with.calls k3 x186000_3 x186001_3 x186002_3 x186003_3 x186004_3 x186005_3 (fun k_ => some k_ = (.slice Ao59 x186006_3.length co59 : Value).ownBlock) (.slice Ao59 x186006_3.length co59) x186006_3 x186007_3 ((rd_T59 t179 x10_3).f0) ((rd_T59 t179 x10_3).f1) ((rd_T59 t179 x10_3).f2) (rdOf ByteArray.empty t174 (ji41)) t193 t194 t195 t196 t197 t198 t199 t202 w _ ?side1 ?side2 A55.out).mono ?_
                                    (case side1 => repeat (first | (with_reducible first | exact HB.out | apply below_alloc | apply pw_below_drewN | apply below_drew1 | refine below_set ?_ GE169.out | refine below_set ?_ GE185.out) | exact HB.out))
                                    (case side2 => exact Kd.R_tight rfl HO_186006.out)
                                    rintro e w60 ⟨v200, rfl, ho0, hb, hkp⟩
                                    have HS8_ := cell_kept (hHeld.2.2.2.2.2.2.2.2.1) hkp (by first | (rw [add_block]; exact (fun hs_ => ((((Kd.R_apart' HO_6.out (Kd.R_typed HO_186006.out) (by decide))).1 _ rfl).2) hs_)) | (show ¬ _; simp only [add_block]; exact (fun hs_ => ((((Kd.R_apart' HO_6.out (Kd.R_typed HO_186006.out) (by decide))).1 _ rfl).2) hs_)) | exact (fun hs_ => ((((Kd.R_apart' HO_6.out (Kd.R_typed HO_186006.out) (by decide))).1 _ rfl).2) hs_))
                                    have HS9_ := cell_kept (hHeld.2.2.2.2.2.2.2.2.2.1) hkp (by first | (rw [add_block]; exact (fun hs_ => ((((Kd.R_apart' HO_6.out (Kd.R_typed HO_186006.out) (by decide))).1 _ rfl).2) hs_)) | (show ¬ _; simp only [add_block]; exact (fun hs_ => ((((Kd.R_apart' HO_6.out (Kd.R_typed HO_186006.out) (by decide))).1 _ rfl).2) hs_)) | exact (fun hs_ => ((((Kd.R_apart' HO_6.out (Kd.R_typed HO_186006.out) (by decide))).1 _ rfl).2) hs_))
                                    have HS10_ := cell_kept (hHeld.2.2.2.2.2.2.2.2.2.2.1) hkp (by first | (rw [add_block]; exact (fun hs_ => ((((Kd.R_apart' HO_6.out (Kd.R_typed HO_186006.out) (by decide))).1 _ rfl).2) hs_)) | (show ¬ _; simp only [add_block]; exact (fun hs_ => ((((Kd.R_apart' HO_6.out (Kd.R_typed HO_186006.out) (by decide))).1 _ rfl).2) hs_)) | exact (fun hs_ => ((((Kd.R_apart' HO_6.out (Kd.R_typed HO_186006.out) (by decide))).1 _ rfl).2) hs_))
                                    have HS11_ := cell_kept (hHeld.2.2.2.2.2.2.2.2.2.2.2) hkp (by first | (rw [add_block]; exact (fun hs_ => ((((Kd.R_apart' HO_4.out (Kd.R_typed HO_186006.out) (by decide))).1 _ rfl).2) hs_)) | (show ¬ _; simp only [add_block]; exact (fun hs_ => ((((Kd.R_apart' HO_4.out (Kd.R_typed HO_186006.out) (by decide))).1 _ rfl).2) hs_)) | exact (fun hs_ => ((((Kd.R_apart' HO_4.out (Kd.R_typed HO_186006.out) (by decide))).1 _ rfl).2) hs_))
                                    refine ⟨_, rfl, ?_⟩
                                    have n0_ := Aside0.mk (Kd.R_mono (ok' := fun k_ => True) (Kd.R_keptB ((Kd.R_apart' HO_4.out (Kd.R_typed HO_186006.out) (by decide))) hkp (fun k_ hk_ hs_ => (hk_.2) hs_)) (fun k_ hk_ => trivial))
                                    have n1_ := Aside0.mk (Kd.R_mono (ok' := fun k_ => True) (Kd.R_keptB ((Kd.R_apart' HO_6.out (Kd.R_typed HO_186006.out) (by decide))) hkp (fun k_ hk_ hs_ => (hk_.2) hs_)) (fun k_ hk_ => trivial))
                                    have n2_ := Aside0.mk (blk_kept (by (with_reducible repeat (first | refine blk_drewN ?_ _ | refine blk_drew ?_ | refine blk_alloc ?_ _)); exact BK169.out) hkp (fun hs_ => (fun e_ => (Kd.R_ne HO_186006.out BK169.out (by decide)) e_) hs_))
                                    have n3_ := Aside0.mk (blk_kept (by (with_reducible repeat (first | refine blk_drewN ?_ _ | refine blk_drew ?_ | refine blk_alloc ?_ _)); exact BK185.out) hkp (fun hs_ => (fun e_ => (Kd.R_ne HO_186006.out BK185.out (by decide)) e_) hs_))
                                    have n4_ := Aside0.mk (Kd.R_mono (ok' := fun k_ => True) ho0 (fun k_ hk_ => trivial))
                                    have n5_ := Aside0.mk (hb)
                                    clear HO_4
                                    clear HO_6
                                    clear BK169
                                    clear BK185
                                    clear HB
                                    clear HO_186006
                                    have HO_4 := n0_
                                    have HO_6 := n1_
                                    have BK169 := n2_
                                    have BK185 := n3_
                                    have HO201 := n4_
                                    have HB := n5_
                                    clear n0_ n1_ n2_ n3_ n4_ n5_
                                    (try clear hb)
                                    (try clear hkp)
                                    (try clear ho0)
                                    obtain ⟨Ao67, co67, eo67⟩ := Kd.R_slice HO201.out
                                    (first | subst eo67 | (injection eo67 with f1_ f2_ f3_; have f4_ := f1_.symm; have f5_ := f3_.symm; clear f1_ f2_ f3_; subst f4_; subst f5_))
                                    refine hK.out _ _ ⟨(blk_cell BK185.out 0).trans rfl, (blk_cell BK185.out 1).trans rfl, (blk_cell BK185.out 2).trans rfl, (blk_cell BK185.out 3).trans rfl, (blk_cell BK185.out 4).trans rfl, (blk_cell BK185.out 5).trans rfl, (blk_cell BK185.out 6).trans rfl, (blk_cell BK185.out 7).trans rfl, HS8_, HS9_, HS10_, HS11_⟩ (fun hHeld => ?_)
                                    clear hK K
                                    refine norm_ (a' := ?_) ?_ ?_
                                    rotate_left
                                    · show Act.put _ (some 105) _ = _
                                      simp only [Act.put, List.setIfInBounds_toArray, List.set_cons_zero, List.set_cons_succ, i64_w, i32_w]
                                      rfl
                                    refine last_ (i := 11) (N := none) #[true, true, true, true, true, true, true, true, true, true, true, true] rfl rfl (one_of HT_.out (by kernel_rfl)) (by decide) (fun K hK => ?_)
                                    have hs61 : w60.cell? ⟨gb185, 0, none⟩ = some (.int .i64 x186000_3) := (blk_cell BK185.out 0).trans rfl
                                    have hfs61 := blk_frozen BK185.out 0
                                    have hns61_0 := NB169_185.out
                                    have hms61_0 := NB185_169.out
                                    have hs62 : w60.cell? ⟨gb185, 1, none⟩ = some (.int .i64 x186001_3) := (blk_cell BK185.out 1).trans rfl
                                    have hfs62 := blk_frozen BK185.out 1
                                    have hns62_0 := NB169_185.out
                                    have hms62_0 := NB185_169.out
                                    have hs63 : w60.cell? ⟨gb185, 2, none⟩ = some (.int .i64 x186002_3) := (blk_cell BK185.out 2).trans rfl
                                    have hfs63 := blk_frozen BK185.out 2
                                    have hns63_0 := NB169_185.out
                                    have hms63_0 := NB185_169.out
                                    have hs64 : w60.cell? ⟨gb185, 3, none⟩ = some (.int .i64 x186003_3) := (blk_cell BK185.out 3).trans rfl
                                    have hfs64 := blk_frozen BK185.out 3
                                    have hns64_0 := NB169_185.out
                                    have hms64_0 := NB185_169.out
                                    have hs65 : w60.cell? ⟨gb185, 4, none⟩ = some (.int .i64 x186004_3) := (blk_cell BK185.out 4).trans rfl
                                    have hfs65 := blk_frozen BK185.out 4
                                    have hns65_0 := NB169_185.out
                                    have hms65_0 := NB185_169.out
                                    have hs66 : w60.cell? ⟨gb185, 5, none⟩ = some (.int .u8 x186005_3) := (blk_cell BK185.out 5).trans rfl
                                    have hfs66 := blk_frozen BK185.out 5
                                    have hns66_0 := NB169_185.out
                                    have hms66_0 := NB185_169.out
                                    have hs68 : w60.cell? ⟨gb185, 6, none⟩ = some (.slice Ao59 x186006_3.length co59) := (blk_cell BK185.out 6).trans rfl
                                    have hfs68 := blk_frozen BK185.out 6
                                    have hns68_0 := NB169_185.out
                                    have hms68_0 := NB185_169.out
                                    have hs69 : w60.cell? ⟨gb185, 7, none⟩ = some (.int .i64 x186007_3) := (blk_cell BK185.out 7).trans rfl
                                    have hfs69 := blk_frozen BK185.out 7
                                    have hns69_0 := NB169_185.out
                                    have hms69_0 := NB185_169.out
                                    refine skip_ (w1 := ?_) (by rfl) rfl ?_ ?_
                                    rotate_left
                                    · go_simp
                                      rfl
                                    refine hK.out _ _ ?_
                                    clear hK K
                                    refine done_ (done_of HT_.out (by kernel_rfl)) ?_
                                    try go_wp2
                                    go_roundg k3
                                    case measure => have := HJ3.out; have := HK2.out; have := HK3.out; omega
                                    case rel => exact ⟨(ji41), (x170000_3), (x170001_3), (x170002_3), (x170003_3), (x170004_3), (x170005_3), (x170007_3), (t193), (t194), (t195), (t196), (t197), (t198), (t199), (t202), (.slice Ao67 t199.length co67), (by first | rfl | (simp; done) | (simp only [← hji41] <;> (first | rfl | simp)) | (simp [*]; done)), H', ⟨by have := HJ3.out; have := HK2.out; have := HK3.out; omega⟩, ⟨by (with_reducible repeat (first | apply Kd.R_alloc | apply Kd.R_drewN | apply Kd.R_drew)); exact Kd.R_mono (Kd.R_far (p := ⟨gb185, 7, none⟩) (Kd.R_far (p := ⟨gb185, 6, none⟩) (Kd.R_far (p := ⟨gb185, 5, none⟩) (Kd.R_far (p := ⟨gb185, 4, none⟩) (Kd.R_far (p := ⟨gb185, 3, none⟩) (Kd.R_far (p := ⟨gb185, 2, none⟩) (Kd.R_far (p := ⟨gb185, 1, none⟩) (Kd.R_far (p := ⟨gb185, 0, none⟩) (Kd.R_types HO_4.out BK185.out (by decide)) (fun _ hk => hk.2) (.int .i64 t193)) (fun _ hk => hk.2) (.int .i64 t194)) (fun _ hk => hk.2) (.int .i64 t195)) (fun _ hk => hk.2) (.int .i64 t196)) (fun _ hk => hk.2) (.int .i64 t197)) (fun _ hk => hk.2) (.int .u8 t198)) (fun _ hk => hk.2) (.slice Ao67 t199.length co67)) (fun _ hk => hk.2) (.int .i64 t202)) (fun _ hk => trivial)⟩, ⟨by (with_reducible repeat (first | apply Kd.R_alloc | apply Kd.R_drewN | apply Kd.R_drew)); exact Kd.R_mono (Kd.R_far (p := ⟨gb185, 7, none⟩) (Kd.R_far (p := ⟨gb185, 6, none⟩) (Kd.R_far (p := ⟨gb185, 5, none⟩) (Kd.R_far (p := ⟨gb185, 4, none⟩) (Kd.R_far (p := ⟨gb185, 3, none⟩) (Kd.R_far (p := ⟨gb185, 2, none⟩) (Kd.R_far (p := ⟨gb185, 1, none⟩) (Kd.R_far (p := ⟨gb185, 0, none⟩) (Kd.R_types HO_6.out BK185.out (by decide)) (fun _ hk => hk.2) (.int .i64 t193)) (fun _ hk => hk.2) (.int .i64 t194)) (fun _ hk => hk.2) (.int .i64 t195)) (fun _ hk => hk.2) (.int .i64 t196)) (fun _ hk => hk.2) (.int .i64 t197)) (fun _ hk => hk.2) (.int .u8 t198)) (fun _ hk => hk.2) (.slice Ao67 t199.length co67)) (fun _ hk => hk.2) (.int .i64 t202)) (fun _ hk => trivial)⟩, ⟨by (with_reducible repeat (first | apply Kd.R_alloc | apply Kd.R_drewN | apply Kd.R_drew)); exact Kd.R_mono (Kd.R_far (p := ⟨gb185, 7, none⟩) (Kd.R_far (p := ⟨gb185, 6, none⟩) (Kd.R_far (p := ⟨gb185, 5, none⟩) (Kd.R_far (p := ⟨gb185, 4, none⟩) (Kd.R_far (p := ⟨gb185, 3, none⟩) (Kd.R_far (p := ⟨gb185, 2, none⟩) (Kd.R_far (p := ⟨gb185, 1, none⟩) (Kd.R_far (p := ⟨gb185, 0, none⟩) (Kd.R_types HO201.out BK185.out (by decide)) (fun _ hk => hk.2) (.int .i64 t193)) (fun _ hk => hk.2) (.int .i64 t194)) (fun _ hk => hk.2) (.int .i64 t195)) (fun _ hk => hk.2) (.int .i64 t196)) (fun _ hk => hk.2) (.int .i64 t197)) (fun _ hk => hk.2) (.int .u8 t198)) (fun _ hk => hk.2) (.slice Ao67 t199.length co67)) (fun _ hk => hk.2) (.int .i64 t202)) (fun _ hk => trivial)⟩, ⟨by (with_reducible repeat (first | refine blk_drewN ?_ _ | refine blk_drew ?_ | refine blk_alloc ?_ _)); refine blk_far ?_ NB169_185.out _; (with_reducible repeat (first | refine blk_drewN ?_ _ | refine blk_drew ?_ | refine blk_alloc ?_ _)); refine blk_far ?_ NB169_185.out _; (with_reducible repeat (first | refine blk_drewN ?_ _ | refine blk_drew ?_ | refine blk_alloc ?_ _)); refine blk_far ?_ NB169_185.out _; (with_reducible repeat (first | refine blk_drewN ?_ _ | refine blk_drew ?_ | refine blk_alloc ?_ _)); refine blk_far ?_ NB169_185.out _; (with_reducible repeat (first | refine blk_drewN ?_ _ | refine blk_drew ?_ | refine blk_alloc ?_ _)); refine blk_far ?_ NB169_185.out _; (with_reducible repeat (first | refine blk_drewN ?_ _ | refine blk_drew ?_ | refine blk_alloc ?_ _)); refine blk_far ?_ NB169_185.out _; (with_reducible repeat (first | refine blk_drewN ?_ _ | refine blk_drew ?_ | refine blk_alloc ?_ _)); refine blk_far ?_ NB169_185.out _; (with_reducible repeat (first | refine blk_drewN ?_ _ | refine blk_drew ?_ | refine blk_alloc ?_ _)); refine blk_far ?_ NB169_185.out _; (with_reducible repeat (first | refine blk_drewN ?_ _ | refine blk_drew ?_ | refine blk_alloc ?_ _)); exact BK169.out⟩, ⟨by (with_reducible repeat (first | refine blk_drewN ?_ _ | refine blk_drew ?_ | refine blk_alloc ?_ _)); refine blk_put (cs := #[.int .i64 t193, .int .i64 t194, .int .i64 t195, .int .i64 t196, .int .i64 t197, .int .u8 t198, .slice Ao67 t199.length co67, .int .i64 x186007_3]) ?_ 7 _ rfl; (with_reducible repeat (first | refine blk_drewN ?_ _ | refine blk_drew ?_ | refine blk_alloc ?_ _)); refine blk_put (cs := #[.int .i64 t193, .int .i64 t194, .int .i64 t195, .int .i64 t196, .int .i64 t197, .int .u8 t198, .slice Ao59 x186006_3.length co59, .int .i64 x186007_3]) ?_ 6 _ rfl; (with_reducible repeat (first | refine blk_drewN ?_ _ | refine blk_drew ?_ | refine blk_alloc ?_ _)); refine blk_put (cs := #[.int .i64 t193, .int .i64 t194, .int .i64 t195, .int .i64 t196, .int .i64 t197, .int .u8 x186005_3, .slice Ao59 x186006_3.length co59, .int .i64 x186007_3]) ?_ 5 _ rfl; (with_reducible repeat (first | refine blk_drewN ?_ _ | refine blk_drew ?_ | refine blk_alloc ?_ _)); refine blk_put (cs := #[.int .i64 t193, .int .i64 t194, .int .i64 t195, .int .i64 t196, .int .i64 x186004_3, .int .u8 x186005_3, .slice Ao59 x186006_3.length co59, .int .i64 x186007_3]) ?_ 4 _ rfl; (with_reducible repeat (first | refine blk_drewN ?_ _ | refine blk_drew ?_ | refine blk_alloc ?_ _)); refine blk_put (cs := #[.int .i64 t193, .int .i64 t194, .int .i64 t195, .int .i64 x186003_3, .int .i64 x186004_3, .int .u8 x186005_3, .slice Ao59 x186006_3.length co59, .int .i64 x186007_3]) ?_ 3 _ rfl; (with_reducible repeat (first | refine blk_drewN ?_ _ | refine blk_drew ?_ | refine blk_alloc ?_ _)); refine blk_put (cs := #[.int .i64 t193, .int .i64 t194, .int .i64 x186002_3, .int .i64 x186003_3, .int .i64 x186004_3, .int .u8 x186005_3, .slice Ao59 x186006_3.length co59, .int .i64 x186007_3]) ?_ 2 _ rfl; (with_reducible repeat (first | refine blk_drewN ?_ _ | refine blk_drew ?_ | refine blk_alloc ?_ _)); refine blk_put (cs := #[.int .i64 t193, .int .i64 x186001_3, .int .i64 x186002_3, .int .i64 x186003_3, .int .i64 x186004_3, .int .u8 x186005_3, .slice Ao59 x186006_3.length co59, .int .i64 x186007_3]) ?_ 1 _ rfl; (with_reducible repeat (first | refine blk_drewN ?_ _ | refine blk_drew ?_ | refine blk_alloc ?_ _)); refine blk_put (cs := #[.int .i64 x186000_3, .int .i64 x186001_3, .int .i64 x186002_3, .int .i64 x186003_3, .int .i64 x186004_3, .int .u8 x186005_3, .slice Ao59 x186006_3.length co59, .int .i64 x186007_3]) ?_ 0 _ rfl; (with_reducible repeat (first | refine blk_drewN ?_ _ | refine blk_drew ?_ | refine blk_alloc ?_ _)); exact BK185.out⟩, ⟨by repeat (first | (with_reducible first | exact HB.out | apply below_alloc | apply pw_below_drewN | apply below_drew1 | refine below_set ?_ GE169.out | refine below_set ?_ GE185.out) | exact HB.out)⟩⟩
                              · rw [if_neg c43] at H
                                exact absurd H (by simp)
                            · rw [if_neg c42] at H
                              exact absurd H (by simp)
                          · rw [if_neg c40] at H
                            exact absurd H (by simp)
                        · rw [if_neg c39] at H
                          have c39b0 : decide (x10_3 < (t179.length : Int)) = false := decide_eq_false c39
                          clear c39
                          simp only [Option.some.injEq, Prod.mk.injEq] at H
                          obtain ⟨rfl, rfl, rfl, rfl, rfl, rfl, rfl, rfl⟩ := H
                          have hnb70 := NB185_169.out
                          have hnc70 := NB169_185.out
                          have hcz71_0 : wr.cell? ⟨gb185, 0, none⟩ = some (.int .i64 x186000_3) := (blk_cell BK185.out 0).trans rfl
                          have hcz71_1 : wr.cell? ⟨gb185, 1, none⟩ = some (.int .i64 x186001_3) := (blk_cell BK185.out 1).trans rfl
                          have hcz71_2 : wr.cell? ⟨gb185, 2, none⟩ = some (.int .i64 x186002_3) := (blk_cell BK185.out 2).trans rfl
                          have hcz71_3 : wr.cell? ⟨gb185, 3, none⟩ = some (.int .i64 x186003_3) := (blk_cell BK185.out 3).trans rfl
                          have hcz71_4 : wr.cell? ⟨gb185, 4, none⟩ = some (.int .i64 x186004_3) := (blk_cell BK185.out 4).trans rfl
                          have hcz71_5 : wr.cell? ⟨gb185, 5, none⟩ = some (.int .u8 x186005_3) := (blk_cell BK185.out 5).trans rfl
                          have hcz71_6 : wr.cell? ⟨gb185, 6, none⟩ = some (u186006) := (blk_cell BK185.out 6).trans rfl
                          have hcz71_7 : wr.cell? ⟨gb185, 7, none⟩ = some (.int .i64 x186007_3) := (blk_cell BK185.out 7).trans rfl
                          have hfz71_0 := blk_frozen BK185.out 0
                          have hfz71_1 := blk_frozen BK185.out 1
                          have hfz71_2 := blk_frozen BK185.out 2
                          have hfz71_3 := blk_frozen BK185.out 3
                          have hfz71_4 := blk_frozen BK185.out 4
                          have hfz71_5 := blk_frozen BK185.out 5
                          have hfz71_6 := blk_frozen BK185.out 6
                          have hfz71_7 := blk_frozen BK185.out 7
                          have hcz72_0 : wr.cell? ⟨gb169, 0, none⟩ = some (.int .i64 x170000_3) := (blk_cell BK169.out 0).trans rfl
                          have hcz72_1 : wr.cell? ⟨gb169, 1, none⟩ = some (.int .i64 x170001_3) := (blk_cell BK169.out 1).trans rfl
                          have hcz72_2 : wr.cell? ⟨gb169, 2, none⟩ = some (.int .i64 x170002_3) := (blk_cell BK169.out 2).trans rfl
                          have hcz72_3 : wr.cell? ⟨gb169, 3, none⟩ = some (.int .i64 x170003_3) := (blk_cell BK169.out 3).trans rfl
                          have hcz72_4 : wr.cell? ⟨gb169, 4, none⟩ = some (.int .i64 x170004_3) := (blk_cell BK169.out 4).trans rfl
                          have hcz72_5 : wr.cell? ⟨gb169, 5, none⟩ = some (.int .u8 x170005_3) := (blk_cell BK169.out 5).trans rfl
                          have hcz72_6 : wr.cell? ⟨gb169, 6, none⟩ = some (.slice none 0 0) := (blk_cell BK169.out 6).trans rfl
                          have hcz72_7 : wr.cell? ⟨gb169, 7, none⟩ = some (.int .i64 x170007_3) := (blk_cell BK169.out 7).trans rfl
                          have hfz72_0 := blk_frozen BK169.out 0
                          have hfz72_1 := blk_frozen BK169.out 1
                          have hfz72_2 := blk_frozen BK169.out 2
                          have hfz72_3 := blk_frozen BK169.out 3
                          have hfz72_4 := blk_frozen BK169.out 4
                          have hfz72_5 := blk_frozen BK169.out 5
                          have hfz72_6 := blk_frozen BK169.out 6
                          have hfz72_7 := blk_frozen BK169.out 7
                          obtain ⟨Ao73, co73, eo73⟩ := Kd.R_slice HO_186006.out
                          subst eo73
                          go_wp2
                          refine bodyPost_ret (results_cell_row rfl _ _ gb169 25 #[.int .i64 x186000_3, .int .i64 x186001_3, .int .i64 x186002_3, .int .i64 x186003_3, .int .i64 x186004_3, .int .u8 x186005_3, .slice Ao73 x186006_3.length co73, .int .i64 x186007_3] (0, 0) _ rfl (by (with_reducible repeat (first | refine blk_drewN ?_ _ | refine blk_drew ?_ | refine blk_alloc ?_ _)); refine blk_put (cs := #[.int .i64 x186000_3, .int .i64 x186001_3, .int .i64 x186002_3, .int .i64 x186003_3, .int .i64 x186004_3, .int .u8 x186005_3, .slice Ao73 x186006_3.length co73, .int .i64 x170007_3]) ?_ 7 _ rfl; (with_reducible repeat (first | refine blk_drewN ?_ _ | refine blk_drew ?_ | refine blk_alloc ?_ _)); refine blk_put (cs := #[.int .i64 x186000_3, .int .i64 x186001_3, .int .i64 x186002_3, .int .i64 x186003_3, .int .i64 x186004_3, .int .u8 x186005_3, .slice none 0 0, .int .i64 x170007_3]) ?_ 6 _ rfl; (with_reducible repeat (first | refine blk_drewN ?_ _ | refine blk_drew ?_ | refine blk_alloc ?_ _)); refine blk_put (cs := #[.int .i64 x186000_3, .int .i64 x186001_3, .int .i64 x186002_3, .int .i64 x186003_3, .int .i64 x186004_3, .int .u8 x170005_3, .slice none 0 0, .int .i64 x170007_3]) ?_ 5 _ rfl; (with_reducible repeat (first | refine blk_drewN ?_ _ | refine blk_drew ?_ | refine blk_alloc ?_ _)); refine blk_put (cs := #[.int .i64 x186000_3, .int .i64 x186001_3, .int .i64 x186002_3, .int .i64 x186003_3, .int .i64 x170004_3, .int .u8 x170005_3, .slice none 0 0, .int .i64 x170007_3]) ?_ 4 _ rfl; (with_reducible repeat (first | refine blk_drewN ?_ _ | refine blk_drew ?_ | refine blk_alloc ?_ _)); refine blk_put (cs := #[.int .i64 x186000_3, .int .i64 x186001_3, .int .i64 x186002_3, .int .i64 x170003_3, .int .i64 x170004_3, .int .u8 x170005_3, .slice none 0 0, .int .i64 x170007_3]) ?_ 3 _ rfl; (with_reducible repeat (first | refine blk_drewN ?_ _ | refine blk_drew ?_ | refine blk_alloc ?_ _)); refine blk_put (cs := #[.int .i64 x186000_3, .int .i64 x186001_3, .int .i64 x170002_3, .int .i64 x170003_3, .int .i64 x170004_3, .int .u8 x170005_3, .slice none 0 0, .int .i64 x170007_3]) ?_ 2 _ rfl; (with_reducible repeat (first | refine blk_drewN ?_ _ | refine blk_drew ?_ | refine blk_alloc ?_ _)); refine blk_put (cs := #[.int .i64 x186000_3, .int .i64 x170001_3, .int .i64 x170002_3, .int .i64 x170003_3, .int .i64 x170004_3, .int .u8 x170005_3, .slice none 0 0, .int .i64 x170007_3]) ?_ 1 _ rfl; (with_reducible repeat (first | refine blk_drewN ?_ _ | refine blk_drew ?_ | refine blk_alloc ?_ _)); refine blk_put (cs := #[.int .i64 x170000_3, .int .i64 x170001_3, .int .i64 x170002_3, .int .i64 x170003_3, .int .i64 x170004_3, .int .u8 x170005_3, .slice none 0 0, .int .i64 x170007_3]) ?_ 0 _ rfl; (with_reducible repeat (first | refine blk_drewN ?_ _ | refine blk_drew ?_ | refine blk_alloc ?_ _)); exact BK169.out) Tryd.underlying25 rfl (by kernel_rfl)) rfl ?_
                          exact ⟨_, by first | rfl | (simp [errW_none, errW_some] <;> rfl) | (simp [*, errW_none, errW_some] <;> rfl), by (with_reducible repeat (first | apply Kd.R_alloc | apply Kd.R_drewN | apply Kd.R_drew)); exact Kd.R_mono (Kd.R_far (p := ⟨gb169, 7, none⟩) (Kd.R_far (p := ⟨gb169, 6, none⟩) (Kd.R_far (p := ⟨gb169, 5, none⟩) (Kd.R_far (p := ⟨gb169, 4, none⟩) (Kd.R_far (p := ⟨gb169, 3, none⟩) (Kd.R_far (p := ⟨gb169, 2, none⟩) (Kd.R_far (p := ⟨gb169, 1, none⟩) (Kd.R_far (p := ⟨gb169, 0, none⟩) (Kd.R_types HO_186006.out BK169.out (by decide)) (fun _ hk => hk.2) (.int .i64 x186000_3)) (fun _ hk => hk.2) (.int .i64 x186001_3)) (fun _ hk => hk.2) (.int .i64 x186002_3)) (fun _ hk => hk.2) (.int .i64 x186003_3)) (fun _ hk => hk.2) (.int .i64 x186004_3)) (fun _ hk => hk.2) (.int .u8 x186005_3)) (fun _ hk => hk.2) (.slice Ao73 x186006_3.length co73)) (fun _ hk => hk.2) (.int .i64 x186007_3)) (fun _ hk => trivial), by repeat (first | (with_reducible first | exact HB.out | apply below_alloc | apply pw_below_drewN | apply below_drew1 | refine below_set ?_ GE169.out | refine below_set ?_ GE185.out) | exact HB.out)⟩
            · rw [if_neg c18] at H
              have c18b0 : ((t174.length : Int) == (wrap64 ((t179.length : Int) + 1))) = false := beq_eq_false_iff_ne.mpr c18
              have c18b1 : ((t174.length : Int) != (wrap64 ((t179.length : Int) + 1))) = true := bne_iff_ne.mpr c18
              simp only [Option.some.injEq, Prod.mk.injEq] at H
              obtain ⟨rfl, rfl, rfl, rfl, rfl, rfl, rfl, rfl⟩ := H
              go_wp2_with (first | ((with_reducible refine gate_callee (f := 22) rfl ?_); refine goesL_ (some 20) rfl rfl Tryd.func22 (by kernel_rfl) rfl #[.string a0, .int .u8 32, .int .i64 x3_3] rfl (by (try simp only [List.map_toArray, List.map_cons, List.map_nil]); first | done | rfl | (simp only [List.length_drop, List.length_take]; rfl)) ?_; (with_reducible refine (jotterref15_cut.calls kj3 a0 32 x3_3 t174 _ A9.out).mono ?_); rintro e w74 ⟨v175, rfl, ho0, hb⟩; refine ⟨_, rfl, ?_⟩; have n0_ := Aside0.mk (Kd.R_lower ho0 (below_size (by repeat (first | (with_reducible first | exact HB.out | apply below_alloc | apply pw_below_drewN | apply below_drew1 | refine below_set ?_ GE169.out) | exact HB.out)))); have n1_ := Aside0.mk (blk_below (g := gb169) (o := .cells #[.int .i64 0, .int .i64 0, .int .i64 0, .int .i64 0, .int .i64 0, .int .u8 0, .slice none 0 0, .int .i64 0] 25 (0, 0)) (by (with_reducible repeat (first | refine blk_drewN ?_ _ | refine blk_drew ?_ | refine blk_alloc ?_ _)); exact BK169.out) hb); have n2_ := Aside0.mk (below_step (by repeat (first | (with_reducible first | exact HB.out | apply below_alloc | apply pw_below_drewN | apply below_drew1 | refine below_set ?_ GE169.out) | exact HB.out)) hb); clear BK169; clear HB; have HO176 := n0_; have BK169 := n1_; have HB := n2_; clear n0_ n1_ n2_; (try clear hb); (try clear hb2); (try clear hk); (try clear hi); (try clear ho0); obtain ⟨Ao75, co75, eo75⟩ := Kd.R_slice HO176.out; subst eo75; have p177 : 0 ≤ (0 : Int) := (by omega); have q177 : 0 < (t174.length : Int) := of_decide_eq_true (by first | (with_reducible assumption) | assumption); obtain ⟨ad177, e177, hx177_0⟩ := Kd.at_string (Kd.R_reads' HO176.out).2.2 0 p177 q177; cases e177; have qi177 : (0 < t174.length) = True := eq_true (by omega); (try rw [show ((0 : Int)).toNat = 0 from rfl] at hx177_0); (try rw [Addr.add_zero'] at hx177_0); replace p177 := eq_true p177; replace q177 := eq_true q177) | ((with_reducible refine gate_callee (f := 23) rfl ?_); refine goesL_ (some 24) rfl rfl Tryd.func23 (by kernel_rfl) rfl #[.string (rdOf ByteArray.empty t174 0)] rfl (by (try simp only [List.map_toArray, List.map_cons, List.map_nil]); first | done | rfl | (simp only [List.length_drop, List.length_take]; rfl)) ?_; (with_reducible refine (jotterref15_kindOf.calls kj3 (rdOf ByteArray.empty t174 0) t178 _ A11.out).mono ?_); rintro e w76 ⟨rfl, hb⟩; refine ⟨_, rfl, ?_⟩; have n0_ := Aside0.mk (Kd.R_below (by (with_reducible repeat (first | apply Kd.R_alloc | apply Kd.R_drewN | apply Kd.R_drew)); exact HO176.out) hb); have n1_ := Aside0.mk (blk_below (g := gb169) (o := .cells #[.int .i64 0, .int .i64 0, .int .i64 0, .int .i64 0, .int .i64 0, .int .u8 0, .slice none 0 0, .int .i64 0] 25 (0, 0)) (by (with_reducible repeat (first | refine blk_drewN ?_ _ | refine blk_drew ?_ | refine blk_alloc ?_ _)); exact BK169.out) hb); have n2_ := Aside0.mk (below_step (by repeat (first | (with_reducible first | exact HB.out | apply below_alloc | apply pw_below_drewN | apply below_drew1 | refine below_set ?_ GE169.out) | exact HB.out)) hb); clear HO176; clear BK169; clear HB; have HO176 := n0_; have BK169 := n1_; have HB := n2_; clear n0_ n1_ n2_; (try clear hb); (try clear hb2); (try clear hk); (try clear hi)) | ((with_reducible refine gate_callee (f := 24) rfl ?_); refine goesL_ (some 29) rfl rfl Tryd.func24 (by kernel_rfl) rfl #[.int .i64 t178] rfl (by (try simp only [List.map_toArray, List.map_cons, List.map_nil]); first | done | rfl | (simp only [List.length_drop, List.length_take]; rfl)) ?_; (with_reducible refine (jotterref15_words.calls kj3 t178 t179 _ A17.out).mono ?_); rintro e w77 ⟨v180, rfl, ho0, hb⟩; refine ⟨_, rfl, ?_⟩; have n0_ := Aside0.mk (Kd.R_below (by (with_reducible repeat (first | apply Kd.R_alloc | apply Kd.R_drewN | apply Kd.R_drew)); exact HO176.out) hb); have n1_ := Aside0.mk (Kd.R_lower ho0 (below_size (by repeat (first | (with_reducible first | exact HB.out | apply below_alloc | apply pw_below_drewN | apply below_drew1 | refine below_set ?_ GE169.out) | exact HB.out)))); have n2_ := Aside0.mk (blk_below (g := gb169) (o := .cells #[.int .i64 0, .int .i64 0, .int .i64 0, .int .i64 0, .int .i64 0, .int .u8 0, .slice none 0 0, .int .i64 0] 25 (0, 0)) (by (with_reducible repeat (first | refine blk_drewN ?_ _ | refine blk_drew ?_ | refine blk_alloc ?_ _)); exact BK169.out) hb); have n3_ := Aside0.mk (below_step (by repeat (first | (with_reducible first | exact HB.out | apply below_alloc | apply pw_below_drewN | apply below_drew1 | refine below_set ?_ GE169.out) | exact HB.out)) hb); clear HO176; clear BK169; clear HB; have HO176 := n0_; have HO181 := n1_; have BK169 := n2_; have HB := n3_; clear n0_ n1_ n2_ n3_; (try clear hb); (try clear hb2); (try clear hk); (try clear hi); (try clear ho0); obtain ⟨Ao78, co78, eo78⟩ := Kd.R_slice HO181.out; subst eo78; have hcz79_0 : w77.cell? ⟨gb169, 0, none⟩ = some (.int .i64 0) := (blk_cell BK169.out 0).trans rfl; have hcz79_1 : w77.cell? ⟨gb169, 1, none⟩ = some (.int .i64 0) := (blk_cell BK169.out 1).trans rfl; have hcz79_2 : w77.cell? ⟨gb169, 2, none⟩ = some (.int .i64 0) := (blk_cell BK169.out 2).trans rfl; have hcz79_3 : w77.cell? ⟨gb169, 3, none⟩ = some (.int .i64 0) := (blk_cell BK169.out 3).trans rfl; have hcz79_4 : w77.cell? ⟨gb169, 4, none⟩ = some (.int .i64 0) := (blk_cell BK169.out 4).trans rfl; have hcz79_5 : w77.cell? ⟨gb169, 5, none⟩ = some (.int .u8 0) := (blk_cell BK169.out 5).trans rfl; have hcz79_6 : w77.cell? ⟨gb169, 6, none⟩ = some (.slice none 0 0) := (blk_cell BK169.out 6).trans rfl; have hcz79_7 : w77.cell? ⟨gb169, 7, none⟩ = some (.int .i64 0) := (blk_cell BK169.out 7).trans rfl; have hfz79_0 := blk_frozen BK169.out 0; have hfz79_1 := blk_frozen BK169.out 1; have hfz79_2 := blk_frozen BK169.out 2; have hfz79_3 := blk_frozen BK169.out 3; have hfz79_4 := blk_frozen BK169.out 4; have hfz79_5 := blk_frozen BK169.out 5; have hfz79_6 := blk_frozen BK169.out 6; have hfz79_7 := blk_frozen BK169.out 7))
              refine bodyPost_ret (results_cell_row rfl _ _ gb169 25 #[.int .i64 t178, .int .i64 0, .int .i64 0, .int .i64 0, .int .i64 0, .int .u8 0, .slice none 0 0, .int .i64 154] (0, 0) _ rfl (by (with_reducible repeat (first | refine blk_drewN ?_ _ | refine blk_drew ?_ | refine blk_alloc ?_ _)); refine blk_put (cs := #[.int .i64 t178, .int .i64 0, .int .i64 0, .int .i64 0, .int .i64 0, .int .u8 0, .slice none 0 0, .int .i64 0]) ?_ 7 _ rfl; (with_reducible repeat (first | refine blk_drewN ?_ _ | refine blk_drew ?_ | refine blk_alloc ?_ _)); refine blk_put (cs := #[.int .i64 t178, .int .i64 0, .int .i64 0, .int .i64 0, .int .i64 0, .int .u8 0, .slice none 0 0, .int .i64 0]) ?_ 6 _ rfl; (with_reducible repeat (first | refine blk_drewN ?_ _ | refine blk_drew ?_ | refine blk_alloc ?_ _)); refine blk_put (cs := #[.int .i64 t178, .int .i64 0, .int .i64 0, .int .i64 0, .int .i64 0, .int .u8 0, .slice none 0 0, .int .i64 0]) ?_ 5 _ rfl; (with_reducible repeat (first | refine blk_drewN ?_ _ | refine blk_drew ?_ | refine blk_alloc ?_ _)); refine blk_put (cs := #[.int .i64 t178, .int .i64 0, .int .i64 0, .int .i64 0, .int .i64 0, .int .u8 0, .slice none 0 0, .int .i64 0]) ?_ 4 _ rfl; (with_reducible repeat (first | refine blk_drewN ?_ _ | refine blk_drew ?_ | refine blk_alloc ?_ _)); refine blk_put (cs := #[.int .i64 t178, .int .i64 0, .int .i64 0, .int .i64 0, .int .i64 0, .int .u8 0, .slice none 0 0, .int .i64 0]) ?_ 3 _ rfl; (with_reducible repeat (first | refine blk_drewN ?_ _ | refine blk_drew ?_ | refine blk_alloc ?_ _)); refine blk_put (cs := #[.int .i64 t178, .int .i64 0, .int .i64 0, .int .i64 0, .int .i64 0, .int .u8 0, .slice none 0 0, .int .i64 0]) ?_ 2 _ rfl; (with_reducible repeat (first | refine blk_drewN ?_ _ | refine blk_drew ?_ | refine blk_alloc ?_ _)); refine blk_put (cs := #[.int .i64 t178, .int .i64 0, .int .i64 0, .int .i64 0, .int .i64 0, .int .u8 0, .slice none 0 0, .int .i64 0]) ?_ 1 _ rfl; (with_reducible repeat (first | refine blk_drewN ?_ _ | refine blk_drew ?_ | refine blk_alloc ?_ _)); refine blk_put (cs := #[.int .i64 0, .int .i64 0, .int .i64 0, .int .i64 0, .int .i64 0, .int .u8 0, .slice none 0 0, .int .i64 0]) ?_ 0 _ rfl; (with_reducible repeat (first | refine blk_drewN ?_ _ | refine blk_drew ?_ | refine blk_alloc ?_ _)); exact BK169.out) Tryd.underlying25 rfl (by kernel_rfl)) rfl ?_
              exact ⟨_, by first | rfl | (simp [errW_none, errW_some] <;> rfl) | (simp [*, errW_none, errW_some] <;> rfl), by first | exact Kd.R_nil _ _ _ _ _ | exact Kd.N_nil _ _ _ _ _ | exact Kd.V_nil _ _ _ _ _ | exact Kd.Q_nil _ _ _ _ _ | exact Kd.S_nil _ _ _ _ _, by repeat (first | (with_reducible first | exact HB.out | apply below_alloc | apply pw_below_drewN | apply below_drew1 | refine below_set ?_ GE169.out) | exact HB.out)⟩
        · rw [if_neg c10] at H
          exact absurd H (by simp)
  · rw [if_neg c3] at H
    exact absurd H (by simp)

end Go.Proofs.YtbjkljmhhpoooaaDoor.PScriptLines
