/- What script.Line returns: a line is cut, its verb looked up, its words read by the verb's forms. -/
import Derived.Test.YtbjkljmhhpoooaaDoorEntryZ
import Derived.StillTailTactics
namespace Go.Proofs.YtbjkljmhhpoooaaDoor
open Go.RowKit
set_option linter.unusedVariables false

def vWords : List ByteArray := [⟨#[105, 110, 115, 101, 114, 116]⟩, ⟨#[100, 101, 108, 101, 116, 101]⟩, ⟨#[116, 105, 99, 107]⟩, ⟨#[100, 101, 108, 105, 118, 101, 114]⟩, ⟨#[100, 114, 111, 112]⟩, ⟨#[100, 111, 117, 98, 108, 101]⟩, ⟨#[102, 108, 105, 112]⟩, ⟨#[97, 108, 108]⟩, ⟨#[114, 111, 117, 110, 100]⟩, ⟨#[99, 114, 97, 115, 104]⟩, ⟨#[98, 111, 111, 116]⟩, ⟨#[115, 116, 117, 109, 98, 108, 101]⟩, ⟨#[102, 111, 114, 103, 101]⟩]
def vForms : List (List Nat) := [[0, 2, 8], [0, 2], [1], [3], [3], [3], [3, 4, 5], [], [], [6, 6, 7], [], [6, 6, 7], [1, 9]]
/-- the program's own tables, as they read -/
structure VerbsAt (V o cap : Nat) (F : Nat → Option Addr) (C : Nat → Nat) (w : World) : Prop where
  g : w.cell? ⟨0, 0, none⟩ = some (.slice (some ⟨V, o, none⟩) 13 cap)
  word : ∀ j, j < 13 → w.cell? ⟨V, o + 2 * j, none⟩ = some (.string (vWords.getD j ByteArray.empty))
  form : ∀ j, j < 13 → w.cell? ⟨V, o + 2 * j + 1, none⟩ = some (.slice (F j) (vForms.getD j []).length (C j))
  ints : ∀ j, j < 13 → IntsIn w (F j) (vForms.getD j [])
  least : ∀ f, f < 8 → w.cell? ⟨1, f, none⟩ = some (.int .i64 (lows.getD f 0 : Nat))
  most : ∀ f, f < 8 → w.cell? ⟨2, f, none⟩ = some (.int .i64 (mosts.getD f 0 : Nat))
theorem VerbsAt.below {V o cap : Nat} {F : Nat → Option Addr} {C : Nat → Nat} {w w' : World} (h : VerbsAt V o cap F C w) (hb : Below w.heap.size w w') : VerbsAt V o cap F C w' :=
  ⟨by rw [hb.cell (World.block_lt_of_cell? w _ h.g)]; exact h.g, fun j hj => by rw [hb.cell (World.block_lt_of_cell? w _ (h.word j hj))]; exact h.word j hj, fun j hj => by rw [hb.cell (World.block_lt_of_cell? w _ (h.form j hj))]; exact h.form j hj,
   fun j hj => (h.ints j hj).below hb, fun f hf => by rw [hb.cell (World.block_lt_of_cell? w _ (h.least f hf))]; exact h.least f hf, fun f hf => by rw [hb.cell (World.block_lt_of_cell? w _ (h.most f hf))]; exact h.most f hf⟩
def verbIx (x : ByteArray) : Nat := vWords.findIdx fun y => decide (y = x)
def lineS (ws : List ByteArray) : Ent := if verbIx (ws.getD 0 ByteArray.empty) < 13 then entryS (1 + verbIx (ws.getD 0 ByteArray.empty)) (vForms.getD (verbIx (ws.getD 0 ByteArray.empty)) []) (strL (ws.drop 1)) else entBad 0 153

theorem verbIx_eq (i : Nat) (x : ByteArray) (h : i < 13) (hne : ∀ j, j < i → ¬ vWords.getD j ByteArray.empty = x) (he : vWords.getD i ByteArray.empty = x) : verbIx x = i := by
  have hl : i < vWords.length := h
  unfold verbIx
  rw [List.findIdx_eq hl]
  have g : ∀ j (hj : j < vWords.length), vWords.getD j ByteArray.empty = vWords[j] := fun j hj => by rw [List.getD_eq_getElem?_getD, List.getElem?_eq_getElem hj]; rfl
  refine ⟨decide_eq_true (by rw [← g i hl]; exact he), fun j hj => decide_eq_false ?_⟩
  have := hne j hj
  rwa [g j (by omega)] at this
theorem forms_ok : ∀ i : Fin 13, numsLeft (vForms.getD i.val []) ≤ 3 ∧ ∀ f, f ∈ vForms.getD i.val [] → f ≤ 9 := by decide
theorem splitB_sizes (sep : ByteArray) : ∀ (k : Nat) (s : ByteArray), ∀ x, x ∈ Lib.splitB sep 0 k s → x.size ≤ s.size
  | 0, s, x, h => by simp [Lib.splitB] at h; rw [h]; exact Nat.le_refl _
  | k + 1, s, x, h => by
    unfold Lib.splitB at h
    split at h
    · simp at h; rw [h]; exact Nat.le_refl _
    · rcases List.mem_cons.1 h with h | h
      · rw [h, ByteArray.size_extract]; omega
      · have := splitB_sizes sep k _ x h
        rw [ByteArray.size_extract] at this; omega
theorem wordsB_sizes (s : ByteArray) (j : Nat) : ((wordsB s).getD j ByteArray.empty).size ≤ s.size := by
  rw [List.getD_eq_getElem?_getD]
  cases h : (wordsB s)[j]? with
  | none => exact Nat.zero_le _
  | some x =>
    have hm := List.mem_of_getElem? h
    unfold wordsB at hm
    split at hm <;> exact splitB_sizes _ _ _ _ hm
def entVals (E : Ent) (bv : Value) : Array Value := #[.int .i64 E.kind, .int .i64 E.site, .int .i64 E.a, .int .i64 E.b, .int .i64 E.c, .int .u8 E.ch, bv, .int .i64 E.err]
theorem entry_one {w : World} {base : Nat} {e : TypeId} {size n : Nat} {bv : Value} {xs : List Value} (h : w.ownsRow base e size bv n xs) (E : Ent) : (entVals E bv).toList.all (·.oneCell') = true := by
  obtain ⟨A, cap, rfl⟩ := own_form h
  rfl
set_option maxRecDepth 100000 in
set_option maxHeartbeats 2000000 in
theorem line_calls (s : ByteArray) (w : World) (m : Int) (V o cap : Nat) (F : Nat → Option Addr) (C : Nat → Nat) (hs : s.size ≤ 1099511627) (hm : w.cell? ⟨4, 0, none⟩ = some (.int .i64 m)) (hv : VerbsAt V o cap F C w) :
    Calls Tryd.prog 9 #[.string s] w fun e w' => EntRet w.heap.size w (lineS (wordsB s)) e w' := by
  have hB0 : ∀ ob : Obj, Below w.heap.size w (w.alloc ob) := fun ob => (Below.refl _ _).alloc (Nat.le_refl _) _
  have HB0 := Lib.hid hB0
  have hm0 := fun ob => cell_alloc hm ob
  have HV := Lib.hid hv
  clear hv hB0 hm
  go_enter Tryd.func9, Tryd.ntmps9
  go_wp2_with fail
  refine (words_calls s _ m (by omega) (hm0 _)).mono ?_
  generalize hw0 : w.alloc _ = w0
  have hr0 : w0.heap[w.heap.size]? = some (.cells zeroCells8 25 (0, 0)) := by rw [← hw0]; exact alloc_at rfl
  have hbe0 : Below w.heap.size w w0 := by rw [← hw0]; exact HB0.out _
  clear hw0 hm0
  rintro e w1 ⟨v, rfl, ⟨b, c, rfl, hb0, hbl, hbc, hws⟩, hb⟩
  have hpos := wordsB_pos s
  have hlen := wordsB_len s
  have hbe : Below w.heap.size w w1 := hbe0.trans (hb.mono hbe0.size)
  have hr1 : w1.heap[w.heap.size]? = some (.cells zeroCells8 25 (0, 0)) := (hb.block _ (Array.getElem?_eq_some_iff.1 hr0).1).trans hr0
  have hg1 := (HV.out.below hbe).g
  generalize hgw : wordsB s = ws at hws hbc hpos hlen ⊢
  have HWS := Lib.hid hws
  have HR1 := Lib.hid hr1
  have HBE := Lib.hid hbe
  have HGW := Lib.hid hgw
  have h0 := hws 0 hpos
  clear hws hr1 hbe hbe0 hb hr0 hgw HB0
  go_wp2_with fail
  go_loopw [10] (fun vi wr => ∃ i : Nat, i ≤ 13 ∧ vi = .int .i64 (i : Int) ∧ (∀ j, j < i → ¬ vWords.getD j ByteArray.empty = ws.getD 0 ByteArray.empty) ∧ Below w1.heap.size w1 wr) (fun vi _ => 13 - (intOf vi).toNat)
  case atStart => exact ⟨0, by omega, rfl, fun j hj => absurd hj (by omega), Below.refl _ _⟩
  case round =>
    obtain ⟨i, hi, rfl, hne, hb⟩ := hrel
    have HNE := Lib.hid hne
    have HB := Lib.hid hb
    have hr := (hb.block _ (Array.getElem?_eq_some_iff.1 HR1.out).1).trans HR1.out
    have h0' := (hb.cell (p := ⟨b, 0, none⟩) hbl).trans h0
    have hvr := (HV.out.below HBE.out).below hb
    by_cases hlt : i < 13
    · have hw := hvr.word i hlt
      have hf := hvr.form i hlt
      have hin := hvr.ints i hlt
      generalize hvw : vWords.getD i ByteArray.empty = vw at hw
      generalize hvf : vForms.getD i [] = vf at hf hin
      generalize hAA : F i = FA at hf hin
      generalize hCC : C i = FC at hf
      rw [Nat.mul_comm] at hw hf
      have HVR := Lib.hid hvr
      have HIN := Lib.hid hin
      have HVW := Lib.hid hvw
      have HVF := Lib.hid hvf
      have HR := Lib.hid hr
      have HAA := Lib.hid hAA
      clear hne hb hvr hin hvw hvf hr hAA hCC
      have hlt' : (i : Int) < 13 := by omega
      go_wp2_with fail
      have hc0 : (wr.alloc (.cells #[.string vw, .slice FA vf.length FC] 51)).cell? ⟨wr.heap.size, 0, none⟩ = some (.string vw) := cell_of_heap (alloc_at rfl) rfl
      have hc1 : (wr.alloc (.cells #[.string vw, .slice FA vf.length FC] 51)).cell? ⟨wr.heap.size, 1, none⟩ = some (.slice FA vf.length FC) := cell_of_heap (alloc_at rfl) rfl
      have hc2 := cell_alloc h0' (.cells #[.string vw, .slice FA vf.length FC] 51)
      have hb2 : Below w1.heap.size w1 (wr.alloc (.cells #[.string vw, .slice FA vf.length FC] 51)) := HB.out.alloc HB.out.size _
      have hb3 := (Below.refl wr.heap.size wr).alloc (Nat.le_refl _) (.cells #[.string vw, .slice FA vf.length FC] 51)
      have HB2 := Lib.hid hb2
      have HB3 := Lib.hid hb3
      clear hb2 hb3
      generalize wr.alloc _ = w2 at hc0 hc1 hc2 HB2 HB3 ⊢
      generalize wr.heap.size = vp at hc0 hc1 ⊢
      have hws0 : ws.getD 0 ByteArray.empty = ws[0] := by rw [List.getD_eq_getElem?_getD, List.getElem?_eq_getElem hpos]; rfl
      by_cases he : vw = ws.getD 0 ByteArray.empty
      · have hd : (vw.toList == (ws[0]'hpos).toList) = true := by rw [he, hws0]; exact beq_self_eq_true _
        have HE := Lib.hid he
        clear he hws0
        go_quiet (fail)
        generalize hw3 : w2.drewN nq = w3
        have hb3 : Below w1.heap.size w1 w3 := by rw [← hw3]; exact below_drewN HB2.out _
        have hc3 : w3.cell? ⟨vp, 1, none⟩ = some (.slice FA vf.length FC) := by rw [← hw3]; exact hc1
        have HB5 := Lib.hid hb3
        clear hw3 hb3
        have hw1 : IntKind.i64.wrap (1 + (i : Int)) = 1 + (i : Int) := IntWalk.i64_in _ (by omega)
        have hpos1 : (1 : Int) ≤ (ws.length : Int) := by omega
        have hbc1 : (ws.length : Int) ≤ (c : Int) := by omega
        have hc1' : (1 : Int) ≤ (c : Int) := by omega
        go_wp2_with fail
        go_still_tail 6, (by kernel_rfl)
        change wpList _ _ _ _ _ w3.drew
        have hb4 : Below w1.heap.size w1 w3.drew := HB5.out.drew
        generalize w3.drew = w4 at hb4 ⊢
        have hk : (1 + (i : Int)) = ((1 + i : Nat) : Int) := by push_cast; rfl
        have hdl : ws.length - 1 = (ws.drop 1).length := by simp
        have HK := Lib.hid hk
        have HDL := Lib.hid hdl
        clear hk hdl
        have hE : lineS ws = entryS (1 + i) vf (strL (ws.drop 1)) := by
          have hx := verbIx_eq i (ws.getD 0 ByteArray.empty) hlt HNE.out (by rw [HVW.out]; exact HE.out)
          unfold lineS
          rw [hx, if_pos hlt, HVF.out]
        have hv4 := (HV.out.below HBE.out).below hb4
        have hin4 := hv4.ints i hlt
        have hfi : F i = FA := HAA.out
        rw [HVF.out, hfi] at hin4
        have hr4 := (hb4.block _ (Array.getElem?_eq_some_iff.1 HR1.out).1).trans HR1.out
        have hstr : StrsIn w4 (if c = 1 then some ⟨b, 0, none⟩ else some ⟨b, 1, none⟩) (ws.drop 1) := by
          refine ⟨by simp; omega, fun h => ⟨b, 1, ?_, Nat.lt_of_lt_of_le hbl hb4.size, fun j hj => ?_⟩⟩
          · rw [if_neg]; simp at h; omega
          · rw [hb4.cell (by exact hbl), Nat.add_comm 1 j]
            have := HWS.out (j + 1) (by simp at hj; omega)
            rw [this]
            congr 2
            simp [List.getD_eq_getElem?_getD]
        have hent := entry_calls (1 + i) FA _ FC (c - 1) vf (ws.drop 1) w4 hin4 hstr (by rw [← HVF.out]; exact (forms_ok ⟨i, hlt⟩).1) (by rw [← HVF.out]; exact (forms_ok ⟨i, hlt⟩).2) (fun j => by
          have h1 := wordsB_sizes s (j + 1)
          rw [HGW.out] at h1
          have h2 : ((ws.drop 1).getD j ByteArray.empty) = ws.getD (j + 1) ByteArray.empty := by simp [List.getD_eq_getElem?_getD]
          rw [h2]; omega) hv4.least hv4.most
        generalize entryS (1 + i) vf (strL (ws.drop 1)) = E at hent hE
        have HENT := Lib.hid hent
        have HE4 := Lib.hid hE
        have HB4 := Lib.hid hb4
        have HR4 := Lib.hid hr4
        clear hent hE hb4 hr4 hv4 hin4 hstr hfi
        go_wp2_with (first | (go_at_call 21; rw [HK.out, HDL.out]; refine HENT.out.mono ?_; rintro e w5 ⟨v, rfl, ⟨bv, rfl, hov⟩, hb5⟩; have hr5 := (hb5.block _ (Array.getElem?_eq_some_iff.1 HR4.out).1).trans HR4.out; have hone := entry_one hov E) | (refine wpList_store_block rfl 25 _ _ rfl w.heap.size _ zeroCells8 _ rfl rfl hr5 rfl (by kernel_rfl) hone ?_; intro w6 hw6))
        all_goals
          refine bodyPost_ret (v := .agg (entVals E bv)) (results_cell Tryd.results9 rfl hw6.at_ (by kernel_rfl) (by kernel_rfl)) rfl ?_
          rw [HGW.out, HE4.out]
          have hs1 := HBE.out.size
          have hs4 := HB4.out.size
          have hrl := (Array.getElem?_eq_some_iff.1 HR1.out).1
          refine ⟨_, rfl, ⟨bv, rfl, own_mono (hw6.own hov ?_) (by omega)⟩, (HBE.out.trans ((HB4.out.trans (hb5.mono hs4)).mono hs1)).trans (hw6.below (Nat.le_refl _))⟩
          obtain ⟨_, h2 | ⟨g, cap', cur, e, hg, _⟩⟩ := hov
          · rw [h2.1]; simp [Value.ownBlock]
          · rw [e]; simp [Value.ownBlock]; omega
      · have hd : (vw.toList == (ws[0]'hpos).toList) = false := by
          rw [hws0] at he
          rw [beq_eq_false_iff_ne]
          intro h
          apply he
          rw [ByteArray.toList_eq, ByteArray.toList_eq] at h
          have h2 := Array.toList_inj.1 h
          cases vw; cases hq : ws[0]; rw [hq] at h2; exact congrArg ByteArray.mk h2
        have HE := Lib.hid he
        clear he hws0
        go_quiet (fail)
        generalize hw3 : w2.drewN nq = w3
        have hb3 : Below w1.heap.size w1 w3 := by rw [← hw3]; exact below_drewN HB2.out _
        have HB4 := Lib.hid hb3
        clear hb3 hw3
        go_wp2_with fail
        refine ⟨⟨i + 1, by omega, by push_cast; rfl, fun j hj => ?_, HB4.out⟩, by simp [intOf]; omega⟩
        rcases Nat.lt_succ_iff_lt_or_eq.1 hj with hj | rfl
        · exact HNE.out j hj
        · rw [HVW.out]; exact HE.out
    · have hi' : i = 13 := by omega
      subst hi'
      have hE : lineS ws = entBad 0 153 := by
        unfold lineS
        rw [if_neg]
        intro hx
        have hx' : verbIx (ws.getD 0 ByteArray.empty) < vWords.length := hx
        have h1 := List.findIdx_getElem (w := hx')
        have h2 := hne _ hx
        apply h2
        rw [List.getD_eq_getElem?_getD, List.getElem?_eq_getElem hx']
        exact of_decide_eq_true h1
      have HE := Lib.hid hE
      have hbe := HBE.out.trans (hb.mono HBE.out.size)
      have HBB := Lib.hid hbe
      have HR := Lib.hid hr
      have HB2 := Lib.hid hb
      clear hne hb hvr hr hE hbe
      go_wp2_with (refine wpList_store_block rfl 25 _ _ rfl w.heap.size _ zeroCells8 _ rfl rfl HR.out rfl (by kernel_rfl) rfl ?_; intro w2 hw2)
      refine bodyPost_ret (v := .agg #[.int .i64 ((0 : Nat) : Int), .int .i64 0, .int .i64 0, .int .i64 0, .int .i64 0, .int .u8 0, .slice none 0 0, .int .i64 ((153 : Nat) : Int)]) (results_cell Tryd.results9 rfl hw2.at_ (by kernel_rfl) (by kernel_rfl)) rfl ?_
      rw [HGW.out, HE.out]
      exact EntRet.bad 0 153 (HBB.out.trans (hw2.below (Nat.le_refl _)))
end Go.Proofs.YtbjkljmhhpoooaaDoor
