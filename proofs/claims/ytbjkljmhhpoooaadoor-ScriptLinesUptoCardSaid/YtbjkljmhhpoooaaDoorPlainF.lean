/- The plain law: the second reading of a line answers what script.Line answers. -/
import Derived.Test.YtbjkljmhhpoooaaDoorPlainE
namespace Go.Proofs.YtbjkljmhhpoooaaDoor
open Go.RowKit Go.Proofs.YtbjkljmhhpoooaaDoor.PScriptLines Go.Proofs.YtbjkljmhhpoooaaDoorW.PrintWords
set_option linter.unusedVariables false

def fldE (E : Ent) : Int × Int × Int × Int × Int × Int × List Int × Int := ((E.kind : Int), (E.site : Int), (E.a : Int), (E.b : Int), (E.c : Int), (E.ch : Int), ints E.by_, (E.err : Int))
theorem ans_entry (kind : Nat) (fs : List Nat) (ls : List (List UInt8)) (hl : ls.length = fs.length) : ansR kind (enRun fs ls st0) = fldE (entryS kind fs ls) := by
  unfold entryS
  rw [if_neg (by omega)]
  cases enRun fs ls st0 with
  | inl x => rfl
  | inr e =>
    unfold ansR lastR
    simp only []
    split <;> rfl
theorem forms_len (i : Nat) (h : i < 13) : (vForms.getD i []).length ≤ 5 := by
  have : ∀ i : Fin 13, (vForms.getD i.val []).length ≤ 5 := by decide
  exact this ⟨i, h⟩
theorem entry_short (i : Nat) (fs : List Nat) (ls : List (List UInt8)) (h : ¬ ls.length = fs.length) : ((((i : Nat) : Int) + 1, 0, 0, 0, 0, 0, ([] : List Int), 154) : Int × Int × Int × Int × Int × Int × List Int × Int) = fldE (entryS (1 + i) fs ls) := by
  have hcast : ((i : Nat) : Int) + 1 = ((1 + i : Nat) : Int) := by push_cast; omega
  unfold entryS
  rw [if_pos h, hcast]
  rfl
theorem entry_long (i : Nat) (fs : List Nat) (ws : List ByteArray) (hl : ws.length = fs.length + 1) (hf : ∀ f, f ∈ fs → f ≤ 9) (hn : numsLeft fs ≤ 3) (K0 : Nat) (hz : ∀ j, (ws.getD j ByteArray.empty).size + 20 ≤ K0) (hz2 : ∀ j, (ws.getD j ByteArray.empty).size ≤ 1099511627776) (h5 : fs.length ≤ 5) (k : Nat) (hk : fs.length + fs.length + K0 + 1 ≤ k) :
    jotterref15_Line.l0 (k + 1) ws ((i : Int) + 1) (wList fs 0) 0 = some (fldE (entryS (1 + i) fs (strL (ws.drop 1)))) := by
  have hcast : ((i : Nat) : Int) + 1 = ((1 + i : Nat) : Int) := by push_cast; omega
  have h := line_l0 (1 + i) fs ws hl hf hn K0 hz hz2 h5 fs.length 0 k st0 (Nat.zero_add _) hk rfl (Nat.zero_le _) rfl
  rw [hcast]
  refine h.trans ?_
  rw [ans_entry _ _ _ (by simp [strL]; omega)]
theorem rest_known (i : Nat) (fs : List Nat) (ws : List ByteArray) (hf : ∀ f, f ∈ fs → f ≤ 9) (hn : numsLeft fs ≤ 3) (K0 : Nat) (hz : ∀ j, (ws.getD j ByteArray.empty).size + 20 ≤ K0) (hz2 : ∀ j, (ws.getD j ByteArray.empty).size ≤ 1099511627776) (h5 : fs.length ≤ 5) (hpos : 0 < ws.length) (k : Nat) (hk : K0 + 12 ≤ k) :
    (if (ws.length : Int) = (wrap64 (((wList fs 0).length : Int) + 1)) then (jotterref15_Line.l0 k ws ((i : Int) + 1) (wList fs 0) 0) else (some ((i : Int) + 1, 0, 0, 0, 0, 0, ([] : List Int), 154))) = some (fldE (entryS (1 + i) fs (strL (ws.drop 1)))) := by
  have hw : wrap64 (((wList fs 0).length : Int) + 1) = ((fs.length + 1 : Nat) : Int) := by rw [wList_length]; exact w64_up _ (by omega)
  rw [hw]
  by_cases hlen2 : ws.length = fs.length + 1
  · have he : (ws.length : Int) = ((fs.length + 1 : Nat) : Int) := by omega
    rw [if_pos he]
    obtain ⟨k, rfl⟩ : ∃ j, k = j + 1 := ⟨k - 1, by omega⟩
    exact entry_long i fs ws hlen2 hf hn K0 hz hz2 h5 k (by omega)
  · have he : ¬ (ws.length : Int) = ((fs.length + 1 : Nat) : Int) := by omega
    rw [if_neg he, entry_short i fs (strL (ws.drop 1)) (by simp [strL]; omega)]
def restF (k : Nat) (ws : List ByteArray) (t178 : Int) : Option (Int × Int × Int × Int × Int × Int × List Int × Int) :=
  if t178 = 0 then (some (0, 0, 0, 0, 0, 0, ([] : List Int), 153)) else ((jotterref15_words.f k t178).bind fun t179 => (if (ws.length : Int) = (wrap64 ((t179.length : Int) + 1)) then (jotterref15_Line.l0 k ws t178 t179 0) else (some (t178, 0, 0, 0, 0, 0, ([] : List Int), 154))))
theorem restF_known (i : Nat) (hi : i < 13) (ws : List ByteArray) (K0 : Nat) (hz : ∀ j, (ws.getD j ByteArray.empty).size + 20 ≤ K0) (hz2 : ∀ j, (ws.getD j ByteArray.empty).size ≤ 1099511627776) (hpos : 0 < ws.length) (k : Nat) (hk : K0 + 12 ≤ k) (hk3 : 3 ≤ k) :
    restF k ws ((i : Int) + 1) = some (fldE (entryS (1 + i) (vForms.getD i []) (strL (ws.drop 1)))) := by
  have hne : ¬ ((i : Int) + 1 = 0) := by omega
  have h := rest_known i (vForms.getD i []) ws (forms_ok ⟨i, hi⟩).2 (forms_ok ⟨i, hi⟩).1 K0 hz hz2 (forms_len i hi) hpos k hk
  unfold restF
  rw [if_neg hne, words_at k hk3 i hi, Option.bind_some]
  exact h
theorem line_rest (s : ByteArray) (ws : List ByteArray) (hpos : 0 < ws.length) (hsz : ∀ j, (ws.getD j ByteArray.empty).size ≤ s.size) (hs : s.size ≤ 1099511627776) (k : Nat) (hk : s.size + 40 ≤ k) :
    (if 0 < (ws.length : Int) then ((jotterref15_kindOf.f k (rdOf ByteArray.empty ws 0)).bind fun t178 => restF k ws t178) else none) = some (fldE (lineS ws)) := by
  have hp : 0 < (ws.length : Int) := by omega
  have hk14 : 14 ≤ k := by omega
  have hk3 : 3 ≤ k := by omega
  rw [if_pos hp, kind_ref _ k hk14, Option.bind_some]
  have hrd : rdOf ByteArray.empty ws 0 = ws.getD 0 ByteArray.empty := rfl
  rw [hrd]
  unfold lineS
  by_cases hv : verbIx (ws.getD 0 ByteArray.empty) < 13
  · rw [if_pos hv, if_pos hv]
    exact restF_known _ hv ws (s.size + 20) (fun j => Nat.add_le_add_right (hsz j) 20) (fun j => Nat.le_trans (hsz j) hs) hpos k (by omega) hk3
  · rw [if_neg hv, if_neg hv]
    rfl
theorem head_pcs (s : ByteArray) : ((pcs s.size [] s.data.toList).map ofL).getD 0 ByteArray.empty = ofL (Lib.cut s.data.toList [32]).1 := by
  have h := pcs_head s.data.toList s.size [] (count_size s)
  cases hq : pcs s.size [] s.data.toList with
  | nil => rw [hq] at h; cases h
  | cons a t => rw [hq] at h; simp at h; simp [h]
/-- A LINE, READ TWICE. -/
theorem line_ref (s : ByteArray) (hs : s.size ≤ 1048576) (k : Nat) (hk : s.size + 50 ≤ k) : jotterref15_Line.f k s = some (fldE (lineS (wordsB s))) := by
  obtain ⟨k, rfl⟩ : ∃ j, k = j + 1 := ⟨k - 1, by omega⟩
  have hk1 : s.size + 40 ≤ k := by omega
  have hk2 : s.size < k := by omega
  have hk3 : s.size < k + 1 := by omega
  have hs2 : s.size ≤ 1099511627776 := by omega
  have hpos := wordsB_pos s
  have hsz := wordsB_sizes s
  have hrest := line_rest s (wordsB s) hpos hsz hs2 k hk1
  have hw := words_ref s
  unfold jotterref15_Line.f
  rw [cut_all s hs2 _ hk3]
  simp only [Option.bind_some]
  have hp0 : 0 < ((((pcs s.size [] s.data.toList).map ofL).length : Nat) : Int) := by
    have h := pcs_head s.data.toList s.size [] (count_size s)
    cases hq : pcs s.size [] s.data.toList with
    | nil => rw [hq] at h; cases h
    | cons a t => simp
  rw [if_pos hp0]
  have hrd : rdOf ByteArray.empty ((pcs s.size [] s.data.toList).map ofL) 0 = ofL (Lib.cut s.data.toList [32]).1 := head_pcs s
  rw [hrd]
  have htl : (ofL (Lib.cut s.data.toList [32]).1).toList = (Lib.cut s.data.toList [32]).1 := by rw [ByteArray.toList_eq]; rfl
  rw [htl]
  by_cases hin : (Lib.cut s.data.toList [32]).1 = insertB
  · rw [if_pos hin] at hw
    rw [if_pos (show (Lib.cut s.data.toList [32]).1 = [105, 110, 115, 101, 114, 116] from hin), jotterref15_Line.j0, cut_four s hs2 _ hk2, ← hw]
    exact hrest
  · rw [if_neg hin] at hw
    rw [if_neg (show ¬ (Lib.cut s.data.toList [32]).1 = [105, 110, 115, 101, 114, 116] from hin), jotterref15_Line.j0, cut_all s hs2 _ hk2, ← hw]
    exact hrest
end Go.Proofs.YtbjkljmhhpoooaaDoor
