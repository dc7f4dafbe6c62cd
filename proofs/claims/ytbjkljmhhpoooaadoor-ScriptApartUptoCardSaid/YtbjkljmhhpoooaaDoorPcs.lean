/- Plain laws: the words of a line are its pieces between spaces. -/
import Derived.Test.YtbjkljmhhpoooaaDoorWords
import Derived.Lib.SplitLaws
import Derived.Lib.IndexBytes
namespace Go.Proofs.YtbjkljmhhpoooaaDoor
open Go.RowKit
set_option linter.unusedVariables false

def ofL (l : List UInt8) : ByteArray := ⟨l.toArray⟩
theorem ofL_data (s : ByteArray) : ofL s.data.toList = s := by cases s; rfl
/-- cut at spaces, at most m times -/
def pcs : Nat → List UInt8 → List UInt8 → List (List UInt8)
  | _, acc, [] => [acc]
  | m, acc, x :: l => if x = 32 ∧ 0 < m then acc :: pcs (m - 1) [] l else pcs m (acc ++ [x]) l
def pre (p : List UInt8) : List (List UInt8) → List (List UInt8)
  | [] => [p]
  | h :: t => (p ++ h) :: t
theorem pre_pre (p q : List UInt8) (L : List (List UInt8)) : pre p (pre q L) = pre (p ++ q) L := by
  cases L <;> simp [pre]
theorem splitK_succ (k : Nat) (s : List UInt8) : Lib.splitK [32] 0 (k + 1) s = if Lib.indexByte s 32 = -1 then [s] else s.take (Lib.indexByte s 32).toNat :: Lib.splitK [32] 0 k (s.drop ((Lib.indexByte s 32).toNat + 1)) := by
  rw [Lib.splitK]
  simp only [Lib.index_one, beq_iff_eq, Nat.add_zero, List.length_singleton]
theorem index_cons (x : UInt8) (l : List UInt8) : Lib.indexByte (x :: l) 32 = if x = 32 then 0 else if Lib.indexByte l 32 = -1 then -1 else Lib.indexByte l 32 + 1 := by
  simp only [Lib.indexByte, beq_iff_eq]
theorem split_cons (m : Nat) (x : UInt8) (l : List UInt8) : Lib.splitK [32] 0 m (x :: l) = if x = 32 ∧ 0 < m then [] :: Lib.splitK [32] 0 (m - 1) l else pre [x] (Lib.splitK [32] 0 m l) := by
  cases m with
  | zero => rw [if_neg (by omega)]; rfl
  | succ m =>
    have hge := Lib.indexByte_ge l 32
    by_cases hx : x = 32
    · have hi : Lib.indexByte (x :: l) 32 = 0 := by rw [index_cons, if_pos hx]
      rw [splitK_succ m (x :: l), hi, if_neg (show ¬ ((0 : Int) = -1) by decide), if_pos (show x = 32 ∧ 0 < m + 1 from ⟨hx, by omega⟩)]
      rfl
    · rw [if_neg (show ¬ (x = 32 ∧ 0 < m + 1) from fun h => hx h.1)]
      by_cases hm : Lib.indexByte l 32 = -1
      · have hi : Lib.indexByte (x :: l) 32 = -1 := by rw [index_cons, if_neg hx, if_pos hm]
        rw [splitK_succ m (x :: l), splitK_succ m l, hi, hm, if_pos rfl]; rfl
      · have hi : Lib.indexByte (x :: l) 32 = Lib.indexByte l 32 + 1 := by rw [index_cons, if_neg hx, if_neg hm]
        have h2 : (Lib.indexByte l 32 + 1).toNat = (Lib.indexByte l 32).toNat + 1 := by omega
        rw [splitK_succ m (x :: l), splitK_succ m l, hi, if_neg (show ¬ (Lib.indexByte l 32 + 1 = -1) by omega), if_neg hm, h2]
        rfl
theorem pre_nil (L : List (List UInt8)) (h : L ≠ []) : pre [] L = L := by cases L <;> simp_all [pre]
theorem pcs_split : ∀ (l : List UInt8) (m : Nat) (acc : List UInt8), pcs m acc l = pre acc (Lib.splitK [32] 0 m l)
  | [], m, acc => by cases m <;> simp [pcs, Lib.splitK, pre, Lib.index]
  | x :: l, m, acc => by
    rw [pcs, split_cons]
    by_cases h : x = 32 ∧ 0 < m
    · rw [if_pos h, if_pos h, pcs_split l (m - 1) []]
      rw [pre_nil _ (by
        cases (m - 1) with
        | zero => simp [Lib.splitK]
        | succ k => unfold Lib.splitK; split <;> simp)]
      simp [pre]
    · rw [if_neg h, if_neg h, pcs_split l m _, pre_pre]
theorem pcs_enough : ∀ (l : List UInt8) (m m' : Nat) (acc : List UInt8), l.count 32 ≤ m → l.count 32 ≤ m' → pcs m acc l = pcs m' acc l
  | [], m, m', acc, _, _ => by simp [pcs]
  | x :: l, m, m', acc, h, h' => by
    rw [pcs, pcs]
    by_cases hx : x = 32
    · subst hx
      simp at h h'
      rw [if_pos ⟨rfl, by omega⟩, if_pos ⟨rfl, by omega⟩, pcs_enough l (m - 1) (m' - 1) [] (by omega) (by omega)]
    · have hc : (x :: l).count 32 = l.count 32 := by rw [List.count_cons]; simp [hx]
      rw [if_neg (by simp [hx]), if_neg (by simp [hx]), pcs_enough l m m' _ (by omega) (by omega)]
theorem splitB_pcs (m : Nat) (s : ByteArray) : Lib.splitB sp1 0 m s = (pcs m [] s.data.toList).map ofL := by
  have h := Lib.splitB_data sp1 0 m s
  have e : ∀ L : List ByteArray, L = (L.map (·.data.toList)).map ofL := by
    intro L
    rw [List.map_map]
    exact (List.map_id L).symm.trans (List.map_congr_left fun x _ => (ofL_data x).symm)
  rw [e (Lib.splitB sp1 0 m s), h, pcs_split, pre_nil]
  · rfl
  · cases m with
    | zero => simp [Lib.splitK]
    | succ k => unfold Lib.splitK; split <;> simp

/-- the second reading's cut -/
theorem ofL_extract (s : ByteArray) (a b : Nat) : s.extract a b = ofL ((s.data.toList.drop a).take (b - a)) := by
  have : (s.extract a b).data = ((s.data.toList.drop a).take (b - a)).toArray := by
    rw [ByteArray.data_extract]
    apply Array.toList_inj.1
    simp [List.extract_eq_take_drop]
  exact ByteArray.ext this
theorem take_grow (l : List UInt8) (a i : Nat) (x : UInt8) (t : List UInt8) (h : a ≤ i) (hd : l.drop i = x :: t) : (l.drop a).take (i + 1 - a) = (l.drop a).take (i - a) ++ [x] := by
  have h2 : (l.drop a).drop (i - a) = x :: t := by rw [List.drop_drop, show a + (i - a) = i by omega]; exact hd
  have h3 : i + 1 - a = (i - a) + 1 := by omega
  have hlen : i - a < (l.drop a).length := by
    have := congrArg List.length h2; simp at this; simp; omega
  rw [h3, List.take_succ_eq_append_getElem hlen]
  congr 1
  rw [List.drop_eq_getElem_cons hlen] at h2
  injection h2 with h2 _
  rw [h2]
theorem pcs_head : ∀ (l : List UInt8) (m : Nat) (acc : List UInt8), l.count 32 ≤ m → (pcs m acc l).head? = some (acc ++ (Lib.cut l [32]).1)
  | [], m, acc, h => by simp [pcs, Lib.cut, Lib.index]
  | x :: l, m, acc, h => by
    rw [pcs]
    have hge := Lib.indexByte_ge l 32
    by_cases hx : x = 32
    · subst hx
      simp at h
      rw [if_pos ⟨rfl, by omega⟩]
      simp [Lib.cut, Lib.index_one, Lib.indexByte]
    · rw [if_neg (by simp [hx]), pcs_head l m _ (by rw [List.count_cons] at h; simp [hx] at h; exact h)]
      simp only [Lib.cut, Lib.index_one]
      rw [index_cons, if_neg hx]
      by_cases hm : Lib.indexByte l 32 = -1
      · rw [if_pos hm, hm]; simp
      · have h1 : 0 ≤ Lib.indexByte l 32 := by omega
        have h2 : (Lib.indexByte l 32 + 1).toNat = (Lib.indexByte l 32).toNat + 1 := by omega
        rw [if_neg hm, if_pos h1, if_pos (by omega), h2]
        simp
theorem count_size (s : ByteArray) : s.data.toList.count 32 ≤ s.size := by
  have := List.count_le_length (a := (32 : UInt8)) (l := s.data.toList)
  simpa using this
/-- THE WORDS OF A LINE: as the second reading cuts them. -/
theorem words_ref (s : ByteArray) : wordsB s = (pcs (if (Lib.cut s.data.toList [32]).1 = insertB then 3 else s.size) [] s.data.toList).map ofL := by
  unfold wordsB
  have hc := count_size s
  split
  · rw [splitB_pcs]
    by_cases h3 : 3 ≤ s.size
    · rw [show min 4 (s.size + 1) - 1 = 3 by omega]
    · rw [pcs_enough s.data.toList (min 4 (s.size + 1) - 1) 3 [] (by omega) (by omega)]
  · rw [splitB_pcs]
    have e : Lib.countB s sp1 = s.data.toList.count 32 := Lib.count_one 32 _
    rw [e, pcs_enough s.data.toList _ s.size [] (Nat.le_refl _) hc]
end Go.Proofs.YtbjkljmhhpoooaaDoor
