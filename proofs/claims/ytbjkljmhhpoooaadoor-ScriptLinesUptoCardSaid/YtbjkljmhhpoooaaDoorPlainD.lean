/- Plain laws: one word by its form, read twice; then the whole line. -/
import Derived.Test.YtbjkljmhhpoooaaDoorPlainC
namespace Go.Proofs.YtbjkljmhhpoooaaDoor
open Go.RowKit Go.Proofs.YtbjkljmhhpoooaaDoor.PScriptLines Go.Proofs.YtbjkljmhhpoooaaDoorW.PrintWords
set_option linter.unusedVariables false

theorem formed_ref (f n : Nat) (l : ByteArray) (e : EnSt) (k : Nat) (hk : l.size + 20 ≤ k) (hl : l.size ≤ 1099511627776) (hf : f ≤ 9) (hn : n ≤ 2) :
    jotterref15_formed.f k (wOf f n).f0 (wOf f n).f1 (wOf f n).f2 l = some (match enStep f l.data.toList e with | .inl x => (x : Int) | .inr _ => 0) := by
  unfold jotterref15_formed.f
  by_cases h8 : f = 8
  · subst h8
    rw [if_pos (show (wOf 8 n).f0 = 99 by simp [wOf])]
    by_cases h1 : l.size = 1
    · rw [if_pos (by omega), enStep_letter l h1]
    · rw [if_neg (by omega), enStep_letter_bad l h1]; rfl
  · by_cases h9 : f = 9
    · subst h9
      rw [if_neg (show ¬ (wOf 9 n).f0 = 99 by simp [wOf]), if_pos (show (wOf 9 n).f0 = 104 by simp [wOf]), bytes_ref l hl k hk]
      simp only [Option.bind_some]
      cases h : hexS l.data.toList with
      | none => rw [enStep_hex_none l h]; simp
      | some b => rw [enStep_hex_some l b h]; simp
    · have h0 : ¬ (wOf f n).f0 = 99 ∧ ¬ (wOf f n).f0 = 104 := by
        unfold wOf
        by_cases h1 : f ≤ 1
        · rw [if_pos h1]; simp
        · rw [if_neg h1, if_neg h8, if_neg h9]; simp only []; omega
      rw [if_neg h0.1, if_neg h0.2, number_ref l k (by omega)]
      simp only [Option.bind_some]
      unfold numI
      cases h : numS l.data.toList with
      | none => rw [enStep_num_none f l h8 h9 h]; simp
      | some m => rw [enStep_num_some f m l h8 h9 h]; simp only []; rw [if_neg (by omega)]

def flds (kind : Nat) (e : EnSt) : Int × Int × Int × Int × Int × Int × List Int × Int := ((kind : Int), (e.site : Int), (e.a : Int), (e.b : Int), (e.c : Int), (e.ch : Int), ints e.by_, 0)
theorem value_ref (f kind : Nat) (l : ByteArray) (e e' : EnSt) (k : Nat) (hk : l.size + 20 ≤ k) (hl : l.size ≤ 1099511627776) (hf : f ≤ 9) (hn : e.nums ≤ 2 ∨ ¬ (2 ≤ f ∧ f < 8)) (hs : enStep f l.data.toList e = .inr e') :
    ∃ v, jotterref15_value.f k (wOf f e.nums).f0 (wOf f e.nums).f1 (wOf f e.nums).f2 l = some v ∧ e'.wide = (e.wide || (decide (v < (wOf f e.nums).f1) || decide ((wOf f e.nums).f2 < v))) ∧
      jotterref15_with.f k kind e.site e.a e.b e.c e.ch (ints e.by_) 0 (wOf f e.nums).f0 (wOf f e.nums).f1 (wOf f e.nums).f2 l = some (flds kind e') := by
  by_cases h8 : f = 8
  · subst h8
    have h1 : l.size = 1 := by
      by_cases h1 : l.size = 1
      · exact h1
      · rw [enStep_letter_bad l h1] at hs; cases hs
    rw [enStep_letter l h1] at hs
    injection hs with hs
    have hw : wOf 8 e.nums = ⟨99, 32, 126⟩ := by simp [wOf]
    have hb := bt_get l 0 (by omega)
    have hlt := (l[0]'(by omega)).toNat_lt
    have hv : jotterref15_value.f k 99 32 126 l = some ((l[0]'(by omega)).toNat : Int) := by
      unfold jotterref15_value.f
      rw [if_pos rfl, if_pos (by omega)]
      rw [show ((0 : Nat) : Int) = 0 from rfl] at hb
      rw [hb, w64 _ (by omega)]
    rw [hw]
    refine ⟨_, hv, ?_, ?_⟩
    · rw [← hs]
      simp only []
      congr 2
      · rw [Bool.eq_iff_iff, decide_eq_true_iff, decide_eq_true_iff]; omega
      · rw [Bool.eq_iff_iff, decide_eq_true_iff, decide_eq_true_iff]; omega
    · unfold jotterref15_with.f
      simp only [hv, Option.bind_some]
      rw [if_neg (by decide), if_neg (by decide), if_neg (by decide), if_neg (by decide), if_pos trivial, ← hs]
      unfold flds
      simp only []
      have hm : ((l[0]'(by omega)).toNat : Int) % (256 : Int) = ((l[0]'(by omega)).toNat : Int) := by omega
      rw [hm]
  · by_cases h9 : f = 9
    · subst h9
      have hw : wOf 9 e.nums = ⟨104, 0, 64⟩ := by simp [wOf]
      cases h : hexS l.data.toList with
      | none => rw [enStep_hex_none l h] at hs; cases hs
      | some b =>
        rw [enStep_hex_some l b h] at hs
        injection hs with hs
        have hb : jotterref15_bytesOf.f k l = some (ints b, true) := by rw [bytes_ref l hl k hk, h]; rfl
        have hv : jotterref15_value.f k 104 0 64 l = some (b.length : Int) := by
          unfold jotterref15_value.f
          rw [if_neg (by decide), if_pos rfl, hb]
          simp [ints]
        rw [hw]
        refine ⟨_, hv, ?_, ?_⟩
        · rw [← hs]
          simp only []
          congr 1
          rw [show decide ((b.length : Int) < 0) = false from decide_eq_false (by omega), Bool.false_or, Bool.eq_iff_iff, decide_eq_true_iff, decide_eq_true_iff]; omega
        · unfold jotterref15_with.f
          simp only [hv, Option.bind_some]
          rw [if_neg (by decide), if_neg (by decide), if_neg (by decide), if_neg (by decide), if_neg (by decide), if_pos trivial, hb, ← hs]
          rfl
    · cases h : numS l.data.toList with
      | none => rw [enStep_num_none f l h8 h9 h] at hs; cases hs
      | some n =>
        rw [enStep_num_some f n l h8 h9 h] at hs
        injection hs with hs
        have hnum : jotterref15_number.f k l = some (n : Int) := by rw [number_ref l k (by omega)]; unfold numI; rw [h]
        by_cases h1 : f ≤ 1
        · have hw : wOf f e.nums = ⟨83, lows.getD f 0, mosts.getD f 0⟩ := by unfold wOf; rw [if_pos h1]
          have hv : jotterref15_value.f k 83 (lows.getD f 0) (mosts.getD f 0) l = some (n : Int) := by
            unfold jotterref15_value.f
            rw [if_neg (by decide), if_neg (by decide), hnum]; rfl
          rw [hw]
          refine ⟨_, hv, ?_, ?_⟩
          · rw [← hs]
            unfold enPut
            rw [if_pos h1]
            simp only []
            congr 2
            · rw [Bool.eq_iff_iff, decide_eq_true_iff, decide_eq_true_iff]; omega
            · rw [Bool.eq_iff_iff, decide_eq_true_iff, decide_eq_true_iff]; omega
          · unfold jotterref15_with.f
            simp only [hv, Option.bind_some]
            rw [if_pos trivial, ← hs]
            unfold enPut
            rw [if_pos h1]
            rfl
        · have hw : wOf f e.nums = ⟨65 + e.nums, lows.getD f 0, mosts.getD f 0⟩ := by unfold wOf; rw [if_neg h1, if_neg h8, if_neg h9]
          have hn2 : e.nums ≤ 2 := by rcases hn with hn | hn; · exact hn
                                      · omega
          have hv : jotterref15_value.f k (65 + e.nums) (lows.getD f 0) (mosts.getD f 0) l = some (n : Int) := by
            unfold jotterref15_value.f
            rw [if_neg (by omega), if_neg (by omega), hnum]; rfl
          rw [hw]
          have hwide : e'.wide = (e.wide || (decide (n < lows.getD f 0) || decide (mosts.getD f 0 < n))) := by
            rw [← hs, enPut_wide f n { e with wide := e.wide || (decide (n < lows.getD f 0) || decide (mosts.getD f 0 < n)) } (by omega) hn2]
            split
            · rfl
            · split <;> rfl
          refine ⟨_, hv, ?_, ?_⟩
          · rw [hwide]
            simp only []
            congr 2
            · rw [Bool.eq_iff_iff, decide_eq_true_iff, decide_eq_true_iff]; omega
            · rw [Bool.eq_iff_iff, decide_eq_true_iff, decide_eq_true_iff]; omega
          · unfold jotterref15_with.f
            simp only [hv, Option.bind_some]
            rw [← hs, enPut_wide f n { e with wide := e.wide || (decide (n < lows.getD f 0) || decide (mosts.getD f 0 < n)) } (by omega) hn2]
            rcases (by omega : e.nums = 0 ∨ e.nums = 1 ∨ e.nums = 2) with h0 | h0 | h0
            · rw [if_neg (by omega), if_pos (by omega)]; simp [h0, flds]
            · rw [if_neg (by omega), if_neg (by omega), if_pos (by omega)]; simp [h0, flds]
            · rw [if_neg (by omega), if_neg (by omega), if_neg (by omega), if_pos (by omega)]; simp [h0, flds]

/-! ### the line -/
theorem rd_get (xs : List ByteArray) (i : Nat) : rdOf ByteArray.empty xs (i : Int) = xs.getD i ByteArray.empty := rfl
theorem wList_get : ∀ (fs : List Nat) (n i : Nat), i < fs.length → (wList fs n).getD i z59 = wOf (fs.getD i 0) (n + numsLeft (fs.take i))
  | [], n, i, h => absurd h (by simp)
  | f :: fs, n, 0, h => by simp [wList, numsLeft]
  | f :: fs, n, i + 1, h => by
    have := wList_get fs (n + numOf f) i (by simpa using h)
    simp only [wList, List.getD_cons_succ, List.take_succ_cons]
    rw [this]
    congr 1
    unfold numsLeft numOf
    rw [List.filter_cons]
    by_cases h2 : 2 ≤ f ∧ f < 8
    · rw [if_pos h2, if_pos (by simpa using h2), List.length_cons]; omega
    · rw [if_neg h2, if_neg (by simpa using h2)]; omega
theorem wList_length : ∀ (fs : List Nat) (n : Nat), (wList fs n).length = fs.length
  | [], n => rfl
  | f :: fs, n => by simp [wList, wList_length fs]
theorem enRun_wide : ∀ (fs : List Nat) (ls : List (List UInt8)) (e e' : EnSt), enRun fs ls e = .inr e' → e.wide = true → e'.wide = true
  | [], ls, e, e', h, hw => by simp [enRun] at h; rw [← h]; exact hw
  | f :: fs, [], e, e', h, hw => by simp [enRun] at h; rw [← h]; exact hw
  | f :: fs, l :: ls, e, e', h, hw => by
    simp only [enRun] at h
    cases hs : enStep f l e with
    | inl x => rw [hs] at h; cases h
    | inr e2 =>
      rw [hs] at h
      refine enRun_wide fs ls e2 e' h ?_
      unfold enStep at hs
      split at hs
      · split at hs
        · injection hs with hs; rw [← hs]; simp [hw]
        · cases hs
      · split at hs
        · split at hs
          · cases hs
          · injection hs with hs; rw [← hs]; simp [hw]
        · split at hs
          · cases hs
          · injection hs with hs
            rw [← hs]
            unfold enPut
            split
            · simp [hw]
            · split
              · simp [hw]
              · split <;> simp [hw]
theorem strL_drop (ws : List ByteArray) (i : Nat) (h : i + 1 < ws.length) : (strL (ws.drop 1)).drop i = (ws.getD (i + 1) ByteArray.empty).data.toList :: (strL (ws.drop 1)).drop (i + 1) := by
  rw [List.drop_eq_getElem_cons (by simp [strL]; omega)]
  congr 1
  simp [strL, List.getD_eq_getElem?_getD, List.getElem?_eq_getElem h]
theorem fs_drop (fs : List Nat) (i : Nat) (h : i < fs.length) : fs.drop i = fs.getD i 0 :: fs.drop (i + 1) := by
  rw [List.drop_eq_getElem_cons h]
  simp [List.getD_eq_getElem?_getD, List.getElem?_eq_getElem h]

theorem take_left (fs : List Nat) (i : Nat) (h : i < fs.length) : numsLeft (fs.take i) + (if 2 ≤ fs.getD i 0 ∧ fs.getD i 0 < 8 then 1 else 0) + numsLeft (fs.drop (i + 1)) = numsLeft fs := by
  have h1 := numsLeft_drop fs i h
  have h2 : numsLeft fs = numsLeft (fs.take i) + numsLeft (fs.drop i) := by
    unfold numsLeft
    conv => lhs; rw [← List.take_append_drop i fs]
    rw [List.filter_append, List.length_append]
  omega
theorem take_nums (fs : List Nat) (ws : List ByteArray) (hf : ∀ f, f ∈ fs → f ≤ 9) (hn : numsLeft fs ≤ 3) (i : Nat) (h : i < fs.length) (e e' : EnSt) (he : e.nums = numsLeft (fs.take i)) (hc : e.ch ≤ 255) (hs : enStep (fs.getD i 0) (ws.getD (i + 1) ByteArray.empty).data.toList e = .inr e') : e'.nums = numsLeft (fs.take (i + 1)) ∧ e'.ch ≤ 255 := by
  have h0 := take_left fs i h
  have h9 : fs.getD i 0 ≤ 9 := hf _ (by rw [List.getD_eq_getElem?_getD, List.getElem?_eq_getElem h]; exact List.getElem_mem _)
  have := enStep_nums _ _ e e' h9 (by omega) hc hs
  refine ⟨?_, this.2⟩
  rw [this.1, fs_get fs i h, he]
  unfold numsLeft
  rw [List.filter_append, List.length_append, List.filter_cons]
  by_cases h2 : 2 ≤ fs.getD i 0 ∧ fs.getD i 0 < 8
  · rw [if_pos h2, if_pos (by simpa using h2)]; rfl
  · rw [if_neg h2, if_neg (by simpa using h2)]; rfl
theorem wOf_any (f m : Nat) (h9 : f ≤ 9) (h2 : ¬ (2 ≤ f ∧ f < 8)) : wOf f m = wOf f 0 := by
  unfold wOf
  split
  · rfl
  · split
    · rfl
    · split
      · rfl
      · exfalso; apply h2; omega
theorem step_bad (f : Nat) (l : List UInt8) (e : EnSt) (x : Nat) (hs : enStep f l e = .inl x) : ¬ ((x : Int) = 0) := by
  unfold enStep at hs
  split at hs
  · split at hs
    · cases hs
    · injection hs with hs; omega
  · split at hs
    · split at hs
      · injection hs with hs; omega
      · cases hs
    · split at hs
      · injection hs with hs; omega
      · cases hs
theorem room (fs : List Nat) (hn : numsLeft fs ≤ 3) (i : Nat) (h : i < fs.length) : numsLeft (fs.take i) ≤ 2 ∨ ¬ (2 ≤ fs.getD i 0 ∧ fs.getD i 0 < 8) := by
  have hleft := take_left fs i h
  by_cases h2 : 2 ≤ fs.getD i 0 ∧ fs.getD i 0 < 8
  · left; rw [if_pos h2] at hleft; omega
  · exact Or.inr h2
theorem form_at (fs : List Nat) (hf : ∀ f, f ∈ fs → f ≤ 9) (i : Nat) (hlt : i < fs.length) : fs.getD i 0 ≤ 9 :=
  hf _ (by rw [List.getD_eq_getElem?_getD, List.getElem?_eq_getElem hlt]; exact List.getElem_mem _)
theorem rd_at (fs : List Nat) (i : Nat) (hlt : i < fs.length) : rd_T59 (wList fs 0) (i : Int) = wOf (fs.getD i 0) (numsLeft (fs.take i)) := by
  have := wList_get fs 0 i hlt
  rw [Nat.zero_add] at this
  exact this
theorem w64_up (i : Nat) (h : i < 1000000) : wrap64 ((i : Int) + 1) = ((i + 1 : Nat) : Int) := by
  rw [w64 _ (by omega)]; push_cast; rfl
/-- one round of the second loop -/
theorem l1_round (kind : Nat) (fs : List Nat) (ws : List ByteArray) (hl : ws.length = fs.length + 1) (h5 : fs.length ≤ 5) (i k : Nat) (hlt : i < fs.length) (a : Int) (b c d e ch : Int) (bs : List Int) :
    jotterref15_Line.l1 (k + 1) ws kind (wList fs 0) i a b c d e ch bs 0 = (jotterref15_value.f k (wOf (fs.getD i 0) (numsLeft (fs.take i))).f0 (wOf (fs.getD i 0) (numsLeft (fs.take i))).f1 (wOf (fs.getD i 0) (numsLeft (fs.take i))).f2 (ws.getD (i + 1) ByteArray.empty)).bind fun v =>
      if v < (wOf (fs.getD i 0) (numsLeft (fs.take i))).f1 then some ((kind : Int), 0, 0, 0, 0, 0, ([] : List Int), 155) else if v > (wOf (fs.getD i 0) (numsLeft (fs.take i))).f2 then some ((kind : Int), 0, 0, 0, 0, 0, ([] : List Int), 155)
      else (jotterref15_with.f k a b c d e ch bs 0 (wOf (fs.getD i 0) (numsLeft (fs.take i))).f0 (wOf (fs.getD i 0) (numsLeft (fs.take i))).f1 (wOf (fs.getD i 0) (numsLeft (fs.take i))).f2 (ws.getD (i + 1) ByteArray.empty)).bind fun r =>
        jotterref15_Line.l1 k ws kind (wList fs 0) ((i + 1 : Nat) : Int) r.1 r.2.1 r.2.2.1 r.2.2.2.1 r.2.2.2.2.1 r.2.2.2.2.2.1 r.2.2.2.2.2.2.1 r.2.2.2.2.2.2.2 := by
  have a1 : (i : Int) < ((wList fs 0).length : Int) := by rw [wList_length]; omega
  have a2 : (0 : Int) ≤ (i : Int) := by omega
  have a3 : (0 : Int) ≤ ((i + 1 : Nat) : Int) := by omega
  have a4 : ((i + 1 : Nat) : Int) < (ws.length : Int) := by omega
  rw [jotterref15_Line.l1, if_pos a1, if_pos a2, w64_up i (by omega), if_pos a3, if_pos a4, rd_at fs i hlt, rd_get]
theorem l0_round (kind : Nat) (fs : List Nat) (ws : List ByteArray) (hl : ws.length = fs.length + 1) (h5 : fs.length ≤ 5) (i k : Nat) (hlt : i < fs.length) :
    jotterref15_Line.l0 (k + 1) ws kind (wList fs 0) i = (jotterref15_formed.f k (wOf (fs.getD i 0) (numsLeft (fs.take i))).f0 (wOf (fs.getD i 0) (numsLeft (fs.take i))).f1 (wOf (fs.getD i 0) (numsLeft (fs.take i))).f2 (ws.getD (i + 1) ByteArray.empty)).bind fun v =>
      if v = 0 then jotterref15_Line.l0 k ws kind (wList fs 0) ((i + 1 : Nat) : Int) else some ((kind : Int), 0, 0, 0, 0, 0, ([] : List Int), v) := by
  have a1 : (i : Int) < ((wList fs 0).length : Int) := by rw [wList_length]; omega
  have a2 : (0 : Int) ≤ (i : Int) := by omega
  have a3 : (0 : Int) ≤ ((i + 1 : Nat) : Int) := by omega
  have a4 : ((i + 1 : Nat) : Int) < (ws.length : Int) := by omega
  rw [jotterref15_Line.l0, if_pos a1, if_pos a2, w64_up i (by omega), if_pos a3, if_pos a4, rd_at fs i hlt, rd_get]
theorem l1_end (kind : Nat) (fs : List Nat) (ws : List ByteArray) (k : Nat) (a b c d e ch : Int) (bs : List Int) (er : Int) :
    jotterref15_Line.l1 (k + 1) ws kind (wList fs 0) (fs.length : Int) a b c d e ch bs er = some (a, b, c, d, e, ch, bs, er) := by
  rw [jotterref15_Line.l1, if_neg (by rw [wList_length]; exact Int.lt_irrefl _)]
theorem l0_end (kind : Nat) (fs : List Nat) (ws : List ByteArray) (k : Nat) :
    jotterref15_Line.l0 (k + 1) ws kind (wList fs 0) (fs.length : Int) = jotterref15_Line.l1 k ws kind (wList fs 0) 0 kind 0 0 0 0 0 [] 0 := by
  rw [jotterref15_Line.l0, if_neg (by rw [wList_length]; exact Int.lt_irrefl _)]
end Go.Proofs.YtbjkljmhhpoooaaDoor
