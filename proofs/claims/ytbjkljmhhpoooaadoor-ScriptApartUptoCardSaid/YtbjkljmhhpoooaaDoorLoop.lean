/- One round of Parse's loop: a line is looked at. -/
import Derived.Test.YtbjkljmhhpoooaaDoorEnts
namespace Go.Proofs.YtbjkljmhhpoooaaDoor
open Go.RowKit
set_option linter.unusedVariables false

/-- What Parse has gathered. -/
structure PS where
  first : Bool
  many : Bool
  cl : Nat
  es : List Ent
def PS.step (st : PS) (l : ByteArray) : PS :=
  if st.first = true then { st with cl := headS l, first := false }
  else if st.cl = 0 then st
  else if st.es.length = 1024 then { st with many := true }
  else { st with es := st.es ++ [lineS (wordsB l)] }

noncomputable def bodyP : Code := Tryd.f15.body.getD .skip
noncomputable def loopP : Code := match bodyP with | .seq _ (.seq _ (.seq _ (.seq _ (.seq _ (.seq _ (.seq (.seq _ (.block _ (.loop c))) _)))))) => c | _ => .skip
noncomputable def restP : Code := match bodyP with | .seq _ (.seq _ (.seq _ (.seq _ (.seq _ (.seq _ (.seq (.seq _ _) c)))))) => c | _ => .skip
noncomputable def roundP : Code := match loopP with | .seq _ (.seq _ c) => c | _ => .skip

structure PMem (w : World) (lo res p : Nat) (st : PS) (v : Value) : Prop where
  hres : w.heap[res]? = some (.cells #[.int .i64 0, .slice none 0 0] 31 (0, 0))
  var : w.heap[p]? = some (.cells #[.int .i64 st.cl, v] 31 (0, 0))
  es : EntsAt w lo v st.es
  lores : lo ≤ res
  lop : lo ≤ p
  ne : res ≠ p
structure PTmps (T : Array Value) (res p c : Nat) (st : PS) : Prop where
  size : T.size = 51
  t2 : T[2]? = some (.pointer (some ⟨res, 0, none⟩))
  t5 : T[5]? = some (.pointer (some ⟨p, 0, none⟩))
  t6 : T[6]? = some (.bool st.first)
  t7 : T[7]? = some (.bool st.many)
  t17 : T[17]? = some (.chan (some c))

theorem PMem.other {w : World} {lo res p : Nat} {st : PS} {v : Value} (h : PMem w lo res p st v) {w' : World} {cells : Array Value} (hs : ∀ k, k ≠ p → w'.heap[k]? = w.heap[k]?) : EntsAt w' lo v st.es ∧ w'.heap[res]? = some (.cells #[.int .i64 0, .slice none 0 0] 31 (0, 0)) := by
  refine ⟨h.es.keep fun k cur t hl hk ht => hs k ?_, (hs res h.ne).trans h.hres⟩
  rintro rfl
  rw [h.var] at hk
  injection hk with hk
  injection hk with _ e _
  subst e
  rcases ht with ht | ht <;> exact absurd ht (by decide)
theorem PMem.setCl {w : World} {lo res p : Nat} {st : PS} {v : Value} (h : PMem w lo res p st v) (n : Nat) (f : Bool) : PMem (w.setCell ⟨p, 0, none⟩ (.int .i64 n)) lo res p { st with cl := n, first := f } v := by
  obtain ⟨h1, h2⟩ := h.other (w' := w.setCell ⟨p, 0, none⟩ (.int .i64 n)) (cells := #[]) fun k hk => heap_set_other hk
  exact ⟨h2, heap_set_same h.var, h1, h.lores, h.lop, h.ne⟩
theorem PMem.setEs {w : World} {lo res p cl : Nat} {v v' : Value} {st : PS} (hr : w.heap[res]? = some (.cells #[.int .i64 0, .slice none 0 0] 31 (0, 0))) (hv : w.heap[p]? = some (.cells #[.int .i64 st.cl, v] 31 (0, 0)))
    (h1 : lo ≤ res) (h2 : lo ≤ p) (h3 : res ≠ p) (he : EntsAt w lo v' st.es) : PMem (w.setCell ⟨p, 1, none⟩ v') lo res p st v' := by
  refine ⟨(heap_set_other h3).trans hr, heap_set_same hv, ?_, h1, h2, h3⟩
  refine he.keep fun k cur t hl hk ht => heap_set_other ?_
  rintro rfl
  rw [hv] at hk
  injection hk with hk
  injection hk with _ e _
  subst e
  rcases ht with ht | ht <;> exact absurd ht (by decide)
theorem PMem.below {w w' : World} {lo res p : Nat} {st : PS} {v : Value} (h : PMem w lo res p st v) (hb : Below w.heap.size w w') : PMem w' lo res p st v :=
  ⟨(hb.block _ (Array.getElem?_eq_some_iff.1 h.hres).1).trans h.hres, (hb.block _ (Array.getElem?_eq_some_iff.1 h.var).1).trans h.var, h.es.below hb, h.lores, h.lop, h.ne⟩
theorem PMem.size {w : World} {lo res p : Nat} {st : PS} {v : Value} (h : PMem w lo res p st v) : lo ≤ w.heap.size := by
  have := (Array.getElem?_eq_some_iff.1 h.hres).1
  have := h.lores
  omega
/-- the entries' row is another block than the variables -/
theorem PMem.grown {w w' : World} {lo res p : Nat} {st : PS} {v : Value} (h : PMem w lo res p st v) (hg : w.grownBy w' v.ownBlock) (hb : ∀ g, v.ownBlock = some g → lo ≤ g ∧ ∃ cur, w.heap[g]? = some (.cells cur 25 (0, 0))) :
    w'.heap[res]? = some (.cells #[.int .i64 0, .slice none 0 0] 31 (0, 0)) ∧ w'.heap[p]? = some (.cells #[.int .i64 st.cl, v] 31 (0, 0)) ∧ Below lo w w' := by
  have key : ∀ (k : Nat) (cs : Array Value), w.heap[k]? = some (.cells cs 31 (0, 0)) → w'.heap[k]? = some (.cells cs 31 (0, 0)) := by
    intro k cs hk
    refine (hg.block k (Array.getElem?_eq_some_iff.1 hk).1 fun e => ?_).trans hk
    obtain ⟨_, cur, hc⟩ := hb k e.symm
    rw [hk] at hc
    injection hc with hc
    injection hc with _ e _
    exact absurd e (by decide)
  refine ⟨key _ _ h.hres, key _ _ h.var, hg.os, hg.tape, hg.output, hg.size, fun k hk => hg.block k (Nat.lt_of_lt_of_le hk h.size) fun e => ?_⟩
  have := (hb k e.symm).1
  omega

set_option maxRecDepth 100000 in
set_option maxHeartbeats 2000000 in
theorem round_wp (st : PS) (l : ByteArray) (hl : l.size ≤ 1048576) (hn : st.es.length ≤ 1024) (w : World) (lo res p c : Nat) (sv : Value) (m : Int) (V o cap : Nat) (F : Nat → Option Addr) (C : Nat → Nat)
    (hm : w.cell? ⟨4, 0, none⟩ = some (.int .i64 m)) (hv : VerbsAt V o cap F C w) (hp : PMem w lo res p st sv) (v0 v1 v3 v4 v8 v9 v10 v11 v12 v13 v14 v15 v16 v20 v21 v22 v23 v24 v25 v26 v27 v28 v29 v30 v31 v32 v33 v34 v35 v36 v37 v38 v39 v40 v41 v42 v43 v44 v45 v46 v47 v48 v49 v50 : Value) :
    roundP.wp Tryd.prog (fun e a' w' => match e with | .normal => ∃ T, a' = ⟨T, []⟩ ∧ PTmps T res p c (st.step l) ∧ Below lo w w' ∧ ∃ sv', PMem w' lo res p (st.step l) sv' | _ => False) ⟨#[v0, v1, .pointer (some ⟨res, 0, none⟩), v3, v4, .pointer (some ⟨p, 0, none⟩), .bool st.first, .bool st.many, v8, v9, v10, v11, v12, v13, v14, v15, v16, .chan (some c), .tuple #[.string l, .bool true], .bool true, v20, v21, v22, v23, v24, v25, v26, v27, v28, v29, v30, v31, v32, v33, v34, v35, v36, v37, v38, v39, v40, v41, v42, v43, v44, v45, v46, v47, v48, v49, v50], []⟩ w := by
  simp only [roundP, loopP, bodyP, Tryd.f15, Option.getD_some]
  cases st with | mk f mn cl es
  cases f with
  | true =>
    have hh := header_calls l w (by omega)
    have HP := Lib.hid hp
    have HH := Lib.hid hh
    clear hp hh hm hv
    go_wp2_with fail
    refine HH.out.mono ?_
    rintro e w1 ⟨rfl, hb⟩
    have hp1 := HP.out.below hb
    have hsz := HP.out.size
    have hc := cell_of_heap (i := 0) hp1.var (v := .int .i64 cl) rfl
    have hf : w1.frozen? ⟨p, 0, none⟩ = false := frozen_of_heap hp1.var
    have HP1 := Lib.hid hp1
    have HB := Lib.hid hb
    clear hp1 hb
    go_wp2_with fail
    refine ⟨⟨rfl, rfl, rfl, rfl, rfl, rfl⟩, ((HB.out.mono hsz).setCell (by have := HP1.out.lop; omega) _), sv, HP1.out.setCl (headS l) false⟩
  | false =>
    by_cases h0 : cl = 0
    · subst h0
      have hc := cell_of_heap (i := 0) hp.var (v := .int .i64 0) rfl
      have HP := Lib.hid hp
      clear hp hm hv
      go_wp2_with fail
      have e : (PS.mk false mn 0 es).step l = ⟨false, mn, 0, es⟩ := rfl
      rw [e]
      exact ⟨⟨rfl, rfl, rfl, rfl, rfl, rfl⟩, Below.refl _ _, sv, HP.out⟩
    · obtain ⟨A, cp, rfl⟩ := hp.es.form
      have hc := cell_of_heap (i := 0) hp.var (v := .int .i64 cl) rfl
      have hc1 := cell_of_heap (i := 1) hp.var (v := .slice A es.length cp) rfl
      have h0' : ((cl : Int) == 0) = false := by simp; exact h0
      by_cases h4 : es.length = 1024
      · have h4' : ((es.length : Int) == 1024) = true := by simp; omega
        have HP := Lib.hid hp
        clear hp hm hv
        go_wp2_with fail
        have e : (PS.mk false mn cl es).step l = ⟨false, true, cl, es⟩ := by
          unfold PS.step
          rw [if_neg (by simp), if_neg h0, if_pos h4]
        rw [e]
        exact ⟨⟨rfl, rfl, rfl, rfl, rfl, rfl⟩, Below.refl _ _, _, HP.out.hres, HP.out.var, HP.out.es, HP.out.lores, HP.out.lop, HP.out.ne⟩
      · have h4' : ((es.length : Int) == 1024) = false := by simp; omega
        have hline := line_calls l w.drew m V o cap F C (by omega) hm (hv.below ⟨rfl, rfl, rfl, Nat.le_refl _, fun _ _ => rfl⟩)
        have hst : (PS.mk false mn cl es).step l = ⟨false, mn, cl, es ++ [lineS (wordsB l)]⟩ := by
          unfold PS.step
          rw [if_neg (by simp), if_neg h0, if_neg h4]
        rw [hst]
        generalize lineS (wordsB l) = E at hline
        have hlay := hline.mono fun _ _ h => h.lay
        have hsz := hp.size
        have hc1d : w.drew.cell? ⟨p, 1, none⟩ = some (.slice A es.length cp) := hc1
        have HP := Lib.hid (show PMem w.drew lo res p ⟨false, mn, cl, es⟩ (.slice A es.length cp) from ⟨hp.hres, hp.var, hp.es.keep fun k cur t _ h _ => rfl, hp.lores, hp.lop, hp.ne⟩)
        have HL := Lib.hid hlay
        have hb0 : Below lo w w.drew := ⟨rfl, rfl, rfl, Nat.le_refl _, fun _ _ => rfl⟩
        have HB0 := Lib.hid hb0
        clear hp hm hv hline hlay hst hb0
        go_wp2_with fail
        go_region_law (first
          | (go_simp; go_at_call 9; refine HL.out.mono ?_; rintro e w1 ⟨A1, c1, rfl, ho1, hb1⟩; have hp1 := HP.out.below hb1; have hc1w := cell_of_heap (i := 1) hp1.var (v := .slice A es.length cp) rfl; have hc1a := fun o => cell_alloc hc1w o; have hba : Below w1.heap.size w1 (w1.alloc (.cells (entArr E A1 c1) 25)) := (Below.refl _ _).alloc (Nat.le_refl _) _; have HPA := Lib.hid (hp1.below hba); have HVA := Lib.hid (EntC.of (own_mono (own_below ho1 hba) hsz)); have HBA := Lib.hid ((hb1.mono hsz).trans (hba.mono (Nat.le_trans hsz hb1.size))); have hsa := Nat.le_trans (Nat.le_trans hsz hb1.size) hba.size; clear hp1 ho1 hb1 hba)
          | (refine step_append_entry (es := es) (v := .slice A es.length cp) (E := E) rfl (.tmp 22) (.tmp 25) rfl rfl HPA.out.es hsa w1.heap.size 1 rfl (entArr E A1 c1) HVA.out (alloc_at rfl) (show es.length ≤ 1048576 by omega) fun g cap' w2 hes hgr hbl => ?_; obtain ⟨hr2, hv2, hb2⟩ := HPA.out.grown hgr hbl; have hc2 := cell_of_heap (i := 1) hv2 (v := .slice A es.length cp) rfl; have hf2 : w2.frozen? ⟨p, 1, none⟩ = false := frozen_of_heap hv2; have HES := Lib.hid hes; have HR2 := Lib.hid hr2; have HV2 := Lib.hid hv2; have HB2 := Lib.hid hb2; clear hes hgr hbl hr2 hv2 hb2))
        all_goals go_wp2_with fail
        all_goals exact ⟨⟨rfl, rfl, rfl, rfl, rfl, rfl⟩, (HB0.out.trans (HBA.out.trans HB2.out)).setCell HP.out.lop _, _, PMem.setEs (cl := cl) (st := ⟨false, mn, cl, es ++ [E]⟩) HR2.out HV2.out HP.out.lores HP.out.lop HP.out.ne HES.out⟩
end Go.Proofs.YtbjkljmhhpoooaaDoor
