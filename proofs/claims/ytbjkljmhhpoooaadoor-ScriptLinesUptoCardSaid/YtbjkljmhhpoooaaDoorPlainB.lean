/- Plain laws: the words of a line, cut twice: by the library's way and by the second reading's loop. -/
import Derived.Test.YtbjkljmhhpoooaaDoorPlainA
import Derived.Test.YtbjkljmhhpoooaaDoorWords
import Derived.Lib.SplitLaws
import Derived.Lib.IndexBytes
namespace Go.Proofs.YtbjkljmhhpoooaaDoor
open Go.RowKit Go.Proofs.YtbjkljmhhpoooaaDoor.PScriptLines Go.Proofs.YtbjkljmhhpoooaaDoorW.PrintWords
set_option linter.unusedVariables false

def ofL (l : List UInt8) : ByteArray := ⟨l.toArray⟩
theorem ofL_data (s : ByteArray) : ofL s.data.toList = s := by cases s; rfl
/-- cut at spaces, at most m times -/
def pcs : Nat → List UInt8 → List UInt8 → List (List UInt8)
  | _, acc, [] => [acc]
  | m, acc, x :: l => if x = 32 ∧ 0 < m then acc :: pcs (m - 1) [] l else pcs m (acc ++ [x]) l
def pre (p : List UInt8) : List (List UInt8) → List (List UInt8)
  | [] => [p]
  | h :: t => (p ++ h) :: t
theorem pre_pre (p q : List UInt8) (L : List (List UInt8)) : pre p (pre q L) = pre (p ++ q) L := by
  cases L <;> simp [pre]
theorem splitK_succ (k : Nat) (s : List UInt8) : Lib.splitK [32] 0 (k + 1) s = if Lib.indexByte s 32 = -1 then [s] else s.take (Lib.indexByte s 32).toNat :: Lib.splitK [32] 0 k (s.drop ((Lib.indexByte s 32).toNat + 1)) := by
  rw [Lib.splitK]
  simp only [Lib.index_one, beq_iff_eq, Nat.add_zero, List.length_singleton]
theorem index_cons (x : UInt8) (l : List UInt8) : Lib.indexByte (x :: l) 32 = if x = 32 then 0 else if Lib.indexByte l 32 = -1 then -1 else Lib.indexByte l 32 + 1 := by
  simp only [Lib.indexByte, beq_iff_eq]
theorem split_cons (m : Nat) (x : UInt8) (l : List UInt8) : Lib.splitK [32] 0 m (x :: l) = if x = 32 ∧ 0 < m then [] :: Lib.splitK [32] 0 (m - 1) l else pre [x] (Lib.splitK [32] 0 m l) := by
  cases m with
  | zero => rw [if_neg (by omega)]; rfl
  | succ m =>
    have hge := Lib.indexByte_ge l 32
    by_cases hx : x = 32
    · have hi : Lib.indexByte (x :: l) 32 = 0 := by rw [index_cons, if_pos hx]
      rw [splitK_succ m (x :: l), hi, if_neg (show ¬ ((0 : Int) = -1) by decide), if_pos (show x = 32 ∧ 0 < m + 1 from ⟨hx, by omega⟩)]
      rfl
    · rw [if_neg (show ¬ (x = 32 ∧ 0 < m + 1) from fun h => hx h.1)]
      by_cases hm : Lib.indexByte l 32 = -1
      · have hi : Lib.indexByte (x :: l) 32 = -1 := by rw [index_cons, if_neg hx, if_pos hm]
        rw [splitK_succ m (x :: l), splitK_succ m l, hi, hm, if_pos rfl]; rfl
      · have hi : Lib.indexByte (x :: l) 32 = Lib.indexByte l 32 + 1 := by rw [index_cons, if_neg hx, if_neg hm]
        have h2 : (Lib.indexByte l 32 + 1).toNat = (Lib.indexByte l 32).toNat + 1 := by omega
        rw [splitK_succ m (x :: l), splitK_succ m l, hi, if_neg (show ¬ (Lib.indexByte l 32 + 1 = -1) by omega), if_neg hm, h2]
        rfl
theorem pre_nil (L : List (List UInt8)) (h : L ≠ []) : pre [] L = L := by cases L <;> simp_all [pre]
theorem pcs_split : ∀ (l : List UInt8) (m : Nat) (acc : List UInt8), pcs m acc l = pre acc (Lib.splitK [32] 0 m l)
  | [], m, acc => by cases m <;> simp [pcs, Lib.splitK, pre, Lib.index]
  | x :: l, m, acc => by
    rw [pcs, split_cons]
    by_cases h : x = 32 ∧ 0 < m
    · rw [if_pos h, if_pos h, pcs_split l (m - 1) []]
      rw [pre_nil _ (by
        cases (m - 1) with
        | zero => simp [Lib.splitK]
        | succ k => unfold Lib.splitK; split <;> simp)]
      simp [pre]
    · rw [if_neg h, if_neg h, pcs_split l m _, pre_pre]
theorem pcs_enough : ∀ (l : List UInt8) (m m' : Nat) (acc : List UInt8), l.count 32 ≤ m → l.count 32 ≤ m' → pcs m acc l = pcs m' acc l
  | [], m, m', acc, _, _ => by simp [pcs]
  | x :: l, m, m', acc, h, h' => by
    rw [pcs, pcs]
    by_cases hx : x = 32
    · subst hx
      simp at h h'
      rw [if_pos ⟨rfl, by omega⟩, if_pos ⟨rfl, by omega⟩, pcs_enough l (m - 1) (m' - 1) [] (by omega) (by omega)]
    · have hc : (x :: l).count 32 = l.count 32 := by rw [List.count_cons]; simp [hx]
      rw [if_neg (by simp [hx]), if_neg (by simp [hx]), pcs_enough l m m' _ (by omega) (by omega)]
theorem splitB_pcs (m : Nat) (s : ByteArray) : Lib.splitB sp1 0 m s = (pcs m [] s.data.toList).map ofL := by
  have h := Lib.splitB_data sp1 0 m s
  have e : ∀ L : List ByteArray, L = (L.map (·.data.toList)).map ofL := by
    intro L
    rw [List.map_map]
    exact (List.map_id L).symm.trans (List.map_congr_left fun x _ => (ofL_data x).symm)
  rw [e (Lib.splitB sp1 0 m s), h, pcs_split, pre_nil]
  · rfl
  · cases m with
    | zero => simp [Lib.splitK]
    | succ k => unfold Lib.splitK; split <;> simp

/-- the second reading's cut -/
theorem ofL_extract (s : ByteArray) (a b : Nat) : s.extract a b = ofL ((s.data.toList.drop a).take (b - a)) := by
  have : (s.extract a b).data = ((s.data.toList.drop a).take (b - a)).toArray := by
    rw [ByteArray.data_extract]
    apply Array.toList_inj.1
    simp [List.extract_eq_take_drop]
  exact ByteArray.ext this
theorem take_grow (l : List UInt8) (a i : Nat) (x : UInt8) (t : List UInt8) (h : a ≤ i) (hd : l.drop i = x :: t) : (l.drop a).take (i + 1 - a) = (l.drop a).take (i - a) ++ [x] := by
  have h2 : (l.drop a).drop (i - a) = x :: t := by rw [List.drop_drop, show a + (i - a) = i by omega]; exact hd
  have h3 : i + 1 - a = (i - a) + 1 := by omega
  have hlen : i - a < (l.drop a).length := by
    have := congrArg List.length h2; simp at this; simp; omega
  rw [h3, List.take_succ_eq_append_getElem hlen]
  congr 1
  rw [List.drop_eq_getElem_cons hlen] at h2
  injection h2 with h2 _
  rw [h2]
theorem cut_l0 (s : ByteArray) (hs : s.size ≤ 1099511627776) (n : Nat) (hn : n = 0 ∨ n = 4) : ∀ (r i k a m : Nat) (acc : List ByteArray), i + r = s.size → r < k → a ≤ i → acc.length ≤ i →
    ((n = 0 ∧ r ≤ m) ∨ (n = 4 ∧ acc.length ≤ 3 ∧ m = 3 - acc.length)) →
    jotterref15_cut.l0 k s 32 (n : Int) acc (a : Int) (i : Int) = some (acc ++ (pcs m ((s.data.toList.drop a).take (i - a)) (s.data.toList.drop i)).map ofL)
  | 0, i, k + 1, a, m, acc, hi, hk, ha, hc, hm => by
    have e : s.data.toList.drop i = [] := by rw [List.drop_eq_nil_iff]; simp; omega
    unfold jotterref15_cut.l0
    rw [if_neg (by omega), if_pos (by omega), if_pos (by omega), if_pos (by omega), e, pcs]
    rw [show ((a : Int)).toNat = a by omega, ofL_extract, show s.size - a = i - a by omega]
    rfl
  | r + 1, i, k + 1, a, m, acc, hi, hk, ha, hc, hm => by
    have hlt : i < s.size := by omega
    have hd := drop_get s i hlt
    have hw : wrap64 ((i : Int) + 1) = ((i + 1 : Nat) : Int) := by rw [w64 _ (by omega)]; push_cast; rfl
    have hg := take_grow s.data.toList a i _ _ ha hd
    unfold jotterref15_cut.l0
    rw [if_pos (by omega), if_pos (by omega), bt_get s i hlt, hw, hd, pcs]
    by_cases hx : s[i] = 32
    · have hx' : ((s[i].toNat : Int) = 32) := by rw [hx]; rfl
      rw [if_pos hx']
      have hext : s.extract ((a : Int)).toNat ((i : Int)).toNat = ofL ((s.data.toList.drop a).take (i - a)) := by
        rw [show ((a : Int)).toNat = a by omega, show ((i : Int)).toNat = i by omega, ofL_extract]
      have hnil : (s.data.toList.drop (i + 1)).take (i + 1 - (i + 1)) = [] := by simp
      rcases hm with ⟨rfl, hm⟩ | ⟨rfl, hm, rfl⟩
      · rw [if_pos (show ((0 : Nat) : Int) = 0 from rfl), if_pos (by omega), if_pos (by omega), if_pos (by omega), if_pos (by omega), hext, if_pos ⟨hx, by omega⟩]
        have := cut_l0 s hs 0 (Or.inl rfl) r (i + 1) k (i + 1) (m - 1) (acc ++ [ofL ((s.data.toList.drop a).take (i - a))]) (by omega) (by omega) (Nat.le_refl _) (by simp; omega) (Or.inl ⟨rfl, by omega⟩)
        rw [hnil] at this
        refine this.trans ?_
        simp
      · rw [if_neg (by decide)]
        have hw3 : wrap64 (((4 : Nat) : Int) - 1) = 3 := (w64 _ (by omega)).trans (by omega)
        rw [hw3]
        by_cases h3 : acc.length < 3
        · rw [if_pos (by omega), if_pos (by omega), if_pos (by omega), if_pos (by omega), if_pos (by omega), hext, if_pos ⟨hx, by omega⟩]
          have := cut_l0 s hs 4 (Or.inr rfl) r (i + 1) k (i + 1) (3 - acc.length - 1) (acc ++ [ofL ((s.data.toList.drop a).take (i - a))]) (by omega) (by omega) (Nat.le_refl _) (by simp; omega) (Or.inr ⟨rfl, by simp; omega, by simp; omega⟩)
          rw [hnil] at this
          refine this.trans ?_
          simp
        · rw [if_neg (by omega), if_neg (by omega)]
          have := cut_l0 s hs 4 (Or.inr rfl) r (i + 1) k a (3 - acc.length) acc (by omega) (by omega) (by omega) (by omega) (Or.inr ⟨rfl, by omega, rfl⟩)
          rw [hg] at this
          exact this
    · have hx' : ¬ ((s[i].toNat : Int) = 32) := fun h => hx (by apply UInt8.toNat_inj.1; show s[i].toNat = 32; omega)
      rw [if_neg hx', if_neg (by simp [hx])]
      have hm' : (n = 0 ∧ r ≤ m) ∨ (n = 4 ∧ acc.length ≤ 3 ∧ m = 3 - acc.length) := by
        rcases hm with ⟨h1, h2⟩ | h
        · exact Or.inl ⟨h1, by omega⟩
        · exact Or.inr h
      have := cut_l0 s hs n hn r (i + 1) k a m acc (by omega) (by omega) (by omega) (by omega) hm'
      rw [hg] at this
      exact this
theorem cut_all (s : ByteArray) (hs : s.size ≤ 1099511627776) (k : Nat) (hk : s.size < k) : jotterref15_cut.f k s 32 0 = some ((pcs s.size [] s.data.toList).map ofL) := by
  have := cut_l0 s hs 0 (Or.inl rfl) s.size 0 k 0 s.size [] (by omega) hk (Nat.le_refl _) (Nat.le_refl _) (Or.inl ⟨rfl, Nat.le_refl _⟩)
  simpa [jotterref15_cut.f] using this
theorem cut_four (s : ByteArray) (hs : s.size ≤ 1099511627776) (k : Nat) (hk : s.size < k) : jotterref15_cut.f k s 32 4 = some ((pcs 3 [] s.data.toList).map ofL) := by
  have := cut_l0 s hs 4 (Or.inr rfl) s.size 0 k 0 3 [] (by omega) hk (Nat.le_refl _) (Nat.le_refl _) (Or.inr ⟨rfl, by simp, rfl⟩)
  simpa [jotterref15_cut.f] using this

theorem pcs_head : ∀ (l : List UInt8) (m : Nat) (acc : List UInt8), l.count 32 ≤ m → (pcs m acc l).head? = some (acc ++ (Lib.cut l [32]).1)
  | [], m, acc, h => by simp [pcs, Lib.cut, Lib.index]
  | x :: l, m, acc, h => by
    rw [pcs]
    have hge := Lib.indexByte_ge l 32
    by_cases hx : x = 32
    · subst hx
      simp at h
      rw [if_pos ⟨rfl, by omega⟩]
      simp [Lib.cut, Lib.index_one, Lib.indexByte]
    · rw [if_neg (by simp [hx]), pcs_head l m _ (by rw [List.count_cons] at h; simp [hx] at h; exact h)]
      simp only [Lib.cut, Lib.index_one]
      rw [index_cons, if_neg hx]
      by_cases hm : Lib.indexByte l 32 = -1
      · rw [if_pos hm, hm]; simp
      · have h1 : 0 ≤ Lib.indexByte l 32 := by omega
        have h2 : (Lib.indexByte l 32 + 1).toNat = (Lib.indexByte l 32).toNat + 1 := by omega
        rw [if_neg hm, if_pos h1, if_pos (by omega), h2]
        simp
theorem count_size (s : ByteArray) : s.data.toList.count 32 ≤ s.size := by
  have := List.count_le_length (a := (32 : UInt8)) (l := s.data.toList)
  simpa using this
/-- THE WORDS OF A LINE: as the second reading cuts them. -/
theorem words_ref (s : ByteArray) : wordsB s = (pcs (if (Lib.cut s.data.toList [32]).1 = insertB then 3 else s.size) [] s.data.toList).map ofL := by
  unfold wordsB
  have hc := count_size s
  split
  · rw [splitB_pcs]
    by_cases h3 : 3 ≤ s.size
    · rw [show min 4 (s.size + 1) - 1 = 3 by omega]
    · rw [pcs_enough s.data.toList (min 4 (s.size + 1) - 1) 3 [] (by omega) (by omega)]
  · rw [splitB_pcs]
    have e : Lib.countB s sp1 = s.data.toList.count 32 := Lib.count_one 32 _
    rw [e, pcs_enough s.data.toList _ s.size [] (Nat.le_refl _) hc]
end Go.Proofs.YtbjkljmhhpoooaaDoor
