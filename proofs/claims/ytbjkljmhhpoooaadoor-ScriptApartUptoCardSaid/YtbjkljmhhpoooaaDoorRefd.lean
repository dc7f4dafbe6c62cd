/-
  jotterlaw15.ScriptRefused: what it does behind the fixed run.
-/
import Derived.Test.YtbjkljmhhpoooaaDoorFixD
namespace Go.Proofs.YtbjkljmhhpoooaaDoor
open Go.Conc Go.Co Go.Proofs Go.RowKit
set_option linter.unusedVariables false

noncomputable def bodyR : Code := Tryd.f6.body.getD .skip
noncomputable def ops1R : Array Oper := match bodyR with | .seq _ (.seq (.seq (.region _ ops _) _) _) => ops | _ => #[]
noncomputable def condR : Code := match bodyR with | .seq _ (.seq (.seq _ c) _) => c | _ => .skip
noncomputable def restR : Code := match bodyR with | .seq _ (.seq _ c) => c | _ => .skip
theorem restR_ok : okCode Tryd.prog S2 6 restR = true := by kernel_rfl
theorem restR_brought : S2.D 6 = [] := by kernel_rfl

/-- A refused line: its kind, the reason, nothing else. -/
theorem line_bad {s : ByteArray} (h : (lineS (wordsB s)).err ≠ 0) : ∃ k x, lineS (wordsB s) = entBad k x ∧ 153 ≤ x ∧ x ≤ 156 ∧ (k = 0 ↔ x = 153) ∧ k ≤ 13 := by
  generalize wordsB s = ws at h ⊢
  unfold lineS at h ⊢
  split at h
  · rename_i hi
    rw [if_pos hi]
    generalize verbIx (ws.getD 0 ByteArray.empty) = i at hi h ⊢
    have hstep : ∀ (f : Nat) (l : List UInt8) (e : EnSt) (x : Nat), enStep f l e = .inl x → x = 154 ∨ x = 156 := by
      intro f l e x hs
      unfold enStep at hs
      split at hs
      · split at hs
        · cases hs
        · injection hs with hs; exact .inl hs.symm
      · split at hs
        · split at hs
          · injection hs with hs; exact .inr hs.symm
          · cases hs
        · split at hs
          · injection hs with hs; exact .inl hs.symm
          · cases hs
    have hrun : ∀ (fs : List Nat) (ls : List (List UInt8)) (e : EnSt) (x : Nat), enRun fs ls e = .inl x → x = 154 ∨ x = 156 := by
      intro fs
      induction fs with
      | nil => intro ls e x h; simp [enRun] at h
      | cons f fs ih =>
        intro ls e x h
        cases ls with
        | nil => simp [enRun] at h
        | cons l ls =>
          simp only [enRun] at h
          cases hs : enStep f l e with
          | inl y =>
            rw [hs] at h
            injection h with h
            subst h
            exact hstep f l e _ hs
          | inr e' => rw [hs] at h; exact ih ls e' x h
    unfold entryS at h ⊢
    split
    · exact ⟨_, _, rfl, by decide, by decide, by constructor <;> intro h <;> omega, by omega⟩
    · rename_i hl
      rw [if_neg hl] at h
      cases hr : enRun (vForms.getD i []) (strL (ws.drop 1)) st0 with
      | inl x =>
        have := hrun _ _ _ _ hr
        exact ⟨_, _, rfl, by omega, by omega, by constructor <;> intro h <;> omega, by omega⟩
      | inr r =>
        rw [hr] at h
        simp only at h ⊢
        split
        · exact ⟨_, _, rfl, by decide, by decide, by constructor <;> intro h <;> omega, by omega⟩
        · rename_i hw
          rw [if_neg hw] at h
          exact absurd rfl h
  · rename_i hi
    rw [if_neg hi]
    exact ⟨_, _, rfl, by decide, by decide, by constructor <;> intro <;> rfl, by decide⟩

set_option maxRecDepth 100000 in
set_option maxHeartbeats 2000000 in
theorem rest_refused (s : ByteArray) (hs : s.size ≤ 1048576) (w : World) (m : Int) (V o cap0 : Nat) (F : Nat → Option Addr) (C : Nat → Nat)
    (hm : w.cell? ⟨4, 0, none⟩ = some (.int .i64 m)) (hv : VerbsAt V o cap0 F C w) (hp : PowAt w) :
    restR.wp Tryd.prog (fun e a' w' => match e with | .ret => ∃ T, a' = ⟨T, []⟩ ∧ T[2]? = some (.bool true) ∧ Below w.heap.size w w' | _ => False) ⟨#[.string s, undef, .bool false, undef, undef, undef, undef, .bool true, .bool false, undef, undef, undef, undef, undef, undef, undef, undef, undef, undef, undef, undef, undef, undef, undef, undef, undef, undef, undef, undef, undef, undef, undef, undef, undef, undef, undef, undef, undef, undef, undef, undef, undef, undef, undef, undef, undef, undef, undef, undef, undef, undef, undef, undef, undef, undef, undef, undef, undef, undef, undef, undef, undef, undef, undef, undef, undef, undef], []⟩ w := by
  simp only [restR, bodyR, Tryd.f6, Option.getD_some]
  have HM := Lib.hid hm
  have HV := Lib.hid hv
  have HP := Lib.hid hp
  have HLINE := Lib.hid (line_calls s w m V o cap0 F C (by omega) hm hv)
  clear hm hv hp
  go_wp2_with fail
  refine HLINE.out.mono ?_
  intro e w1 h
  obtain ⟨A, c, rfl, ho, hb1⟩ := h.lay
  clear h
  have HB1 := Lib.hid hb1
  have hbi := own_in ho
  clear ho hb1
  by_cases he : (lineS (wordsB s)).err = 0
  · obtain ⟨hme, hwr⟩ := written_read he
    generalize lineS (wordsB s) = E at he hme hwr hbi ⊢
    have he7 : (((E.err : Nat) : Int) != 0) = false := by rw [he]; rfl
    have hbn : ∀ ob, Below w1.heap.size w1 (w1.alloc ob) := fun ob => (Below.refl _ _).alloc (Nat.le_refl _) _
    have HBN := Lib.hid hbn
    have HBI := Lib.hid hbi
    have HME := Lib.hid hme
    have HWR := Lib.hid hwr
    clear hbn hbi hme hwr he
    go_wp2_with fail
    have hb2 : Below w1.heap.size w1 ((w1.alloc (.cells (entArr E A c) 25)).alloc (.cells (entArr E A c) 25)) := ((Below.refl _ _).alloc (Nat.le_refl _) _).alloc (by simp) _
    have hq : ((w1.alloc (.cells (entArr E A c) 25)).alloc (.cells (entArr E A c) 25)).heap[w1.heap.size + 1]? = some (.cells (entArr E A c) 25 (0, 0)) := alloc_at (by simp)
    change Calls _ _ _ ((w1.alloc (.cells (entArr E A c) 25)).alloc (.cells (entArr E A c) 25)) _
    generalize (w1.alloc (.cells (entArr E A c) 25)).alloc (.cells (entArr E A c) 25) = w2 at hb2 hq ⊢
    generalize w1.heap.size + 1 = q at hq ⊢
    have hb02 : Below w.heap.size w w2 := HB1.out.trans (hb2.mono HB1.out.size)
    have hall : ∀ e ∈ [E], Meant e := by intro e he; simp only [List.mem_singleton] at he; subst he; exact HME.out
    have hpr := print_good 1 (by decide) (by decide) [E] hall (by simp) (by have := planW_len 1 (by decide) [E] hall; simp only [List.length_cons, List.length_nil] at this; omega) (some ⟨q, 0, none⟩) 1 w2 m V o cap0 F C ((hb02.cell (World.block_lt_of_cell? w _ HM.out)).trans HM.out) (HV.out.below hb02) (pow_below HP.out hb02)
      (.inr ⟨q, 0, rfl, (Array.getElem?_eq_some_iff.1 hq).1, fun i e hi => by
        have : i = 0 := by
          have := (List.getElem?_eq_some_iff.1 hi).1
          simpa using this
        subst this
        simp only [List.getElem?_cons_zero, Option.some.injEq] at hi
        subst hi
        exact ⟨A, c, HBI.out.below hb2, range_block hq⟩⟩)
    have htx : strB (planW 1 ([E].map writW)) = ⟨#[99, 108, 105, 101, 110, 116, 115, 32, 49, 10]⟩ ++ s ++ ⟨#[10]⟩ := by
      rw [← HWR.out]
      apply ByteArray.ext
      simp [strB, planW, dd_one, clB, ByteArray.data_append]
    have HB02 := Lib.hid hb02
    have HPR := Lib.hid hpr
    have HTX := Lib.hid htx
    clear hb02 hpr htx hb2 hq hall
    have hx1 : ¬ 9223372036854775807 < 10 + s.size := by omega
    have hx2 : ¬ 9223372036854775807 < 10 + s.size + 1 := by omega
    refine HPR.out.mono ?_
    rintro e' w3 ⟨rfl, hb3⟩
    rw [HTX.out]
    have HB3 := Lib.hid (HB02.out.trans (hb3.mono HB02.out.size))
    clear hb3
    go_wp2_with fail
    exact HB3.out
  · obtain ⟨k, x, hE, hx1, hx2, hkx, hk13⟩ := line_bad he
    rw [hE] at hbi ⊢
    have hx7 : (((x : Nat) : Int) != 0) = true := by simp; omega
    have HBI := Lib.hid hbi
    have h53 : (153 : Int) ≤ (x : Int) := by omega
    have h56 : (x : Int) ≤ 156 := by omega
    have h13 : (k : Int) ≤ 13 := by omega
    have h0 : (0 : Int) ≤ (k : Int) := by omega
    have hbb : (((k : Int) == 0) == ((x : Int) == 153)) = true := by
      by_cases h : k = 0
      · have := hkx.1 h; subst h this; rfl
      · have h' : x ≠ 153 := fun e => h (hkx.2 e)
        have e1 : ((k : Int) == 0) = false := by simp; exact h
        have e2 : ((x : Int) == 153) = false := by simp; omega
        rw [e1, e2]; rfl
    clear hbi hE hkx hk13 hx1 hx2 he
    unfold entBad at HBI ⊢
    dsimp only at HBI ⊢
    go_wp2_with fail
    have hb2 : Below w1.heap.size w1 (w1.alloc (.cells (entArr ⟨k, 0, 0, 0, 0, 0, [], x⟩ A c) 25)) := (Below.refl _ _).alloc (Nat.le_refl _) _
    have hq : (w1.alloc (.cells (entArr ⟨k, 0, 0, 0, 0, 0, [], x⟩ A c) 25)).heap[w1.heap.size]? = some (.cells (entArr ⟨k, 0, 0, 0, 0, 0, [], x⟩ A c) 25 (0, 0)) := alloc_at rfl
    change Calls _ _ _ (w1.alloc (.cells (entArr ⟨k, 0, 0, 0, 0, 0, [], x⟩ A c) 25)) _
    generalize w1.alloc (.cells (entArr ⟨k, 0, 0, 0, 0, 0, [], x⟩ A c) 25) = w2 at hb2 hq ⊢
    have HB2 := Lib.hid (HB1.out.trans (hb2.mono HB1.out.size))
    generalize w1.heap.size = q at hq ⊢
    have HQ := Lib.hid hq
    refine (alike_yes ⟨k, 0, 0, 0, 0, 0, [], x⟩ A none c 0 w2 (HBI.out.below hb2) (.inl ⟨rfl, rfl⟩) (Nat.zero_le _)).mono ?_
    rintro e' w3 ⟨rfl, hb3⟩
    have hq3 := (hb3.block q (Array.getElem?_eq_some_iff.1 hq).1).trans hq
    have HB3 := Lib.hid (HB2.out.trans (hb3.mono HB2.out.size))
    have c0 := cell_of_heap (i := 0) hq3 (v := .int .i64 (k : Int)) rfl
    have c7 := cell_of_heap (i := 7) hq3 (v := .int .i64 (x : Int)) rfl
    clear hb2 hq hb3 hq3
    go_wp2_with fail
    exact HB3.out
end Go.Proofs.YtbjkljmhhpoooaaDoor
