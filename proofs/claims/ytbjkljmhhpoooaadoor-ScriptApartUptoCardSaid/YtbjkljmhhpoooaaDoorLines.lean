/- Plain laws: the lines of a text as they are sent; a plan's text; what Parse gathers of it. -/
import Derived.Test.YtbjkljmhhpoooaaDoorCanon
import Derived.Test.YtbjkljmhhpoooaaDoorParsB
import Derived.Laws.RangeAny
namespace Go.Proofs.YtbjkljmhhpoooaaDoor
open Go.RowKit
set_option linter.unusedVariables false
/-! ### the lines of a text -/
/-- cut at each byte 10; what is behind the last one counts if it is not empty -/
def cutN : List UInt8 → List UInt8 → List (List UInt8)
  | acc, [] => if acc = [] then [] else [acc]
  | acc, x :: l => if x = 10 then acc :: cutN [] l else cutN (acc ++ [x]) l
theorem cutN_run : ∀ (t acc l : List UInt8), (10 : UInt8) ∉ t → cutN acc (t ++ l) = cutN (acc ++ t) l
  | [], acc, l, _ => by simp
  | x :: t, acc, l, h => by
    have hx : x ≠ 10 := fun e => h (by rw [e]; exact List.mem_cons_self)
    rw [List.cons_append, cutN, if_neg hx, cutN_run t _ l fun e => h (List.mem_cons_of_mem _ e)]
    simp
theorem cutN_lines : ∀ (ls : List (List UInt8)), (∀ x ∈ ls, (10 : UInt8) ∉ x) → cutN [] (ls.flatMap (· ++ [10])) = ls
  | [], _ => rfl
  | x :: ls, h => by
    rw [List.flatMap_cons, List.append_assoc, cutN_run x [] _ (h x List.mem_cons_self), List.singleton_append, cutN, if_pos rfl, cutN_lines ls fun y hy => h y (List.mem_cons_of_mem _ hy), List.nil_append]
theorem byte_at (s : ByteArray) (k : Nat) (h : k < s.size) : s.get! k = s[k]'h := by
  simp [ByteArray.get!, getElem!_pos, h]
  rfl
/-- none of a character's bytes but 10 itself is 10 -/
theorem decode_span {s : ByteArray} {p : Nat} (hp : p < s.size) (h : (Utf8.decode s p).1 ≠ 10) : p + (Utf8.decode s p).2 ≤ s.size ∧ ∀ j, p ≤ j → j < p + (Utf8.decode s p).2 → (s.get! j).toNat ≠ 10 := by
  have key : ∀ (n : Nat), (∀ j, 1 ≤ j → j < n → p + j < s.size ∧ 128 ≤ (s.get! (p + j)).toNat) → (s.get! p).toNat ≠ 10 → 1 ≤ n → p + n ≤ s.size ∧ ∀ j, p ≤ j → j < p + n → (s.get! j).toNat ≠ 10 := by
    intro n h1 h0 hn
    refine ⟨?_, fun j hj1 hj2 => ?_⟩
    · rcases Nat.lt_or_ge 1 n with h2 | h2
      · have := (h1 (n - 1) (by omega) (by omega)).1; omega
      · omega
    · rcases Nat.lt_or_ge p j with h2 | h2
      · have := (h1 (j - p) (by omega) (by omega)).2
        rw [show p + (j - p) = j by omega] at this
        omega
      · rw [show j = p by omega]; exact h0
  rcases Nat.lt_or_ge (s[p]'hp).toNat 128 with h1 | h1
  · rw [decode_ascii s p hp h1] at h ⊢
    refine key 1 (fun j a b => by omega) ?_ (Nat.le_refl _)
    rw [byte_at s p hp]
    exact h
  · have h0 : (s.get! p).toNat ≠ 10 := by rw [byte_at s p hp]; omega
    have hk : ∀ j, (p + j < s.size ∧ (s.get! (p + j)).toNat / 64 = 2) → p + j < s.size ∧ 128 ≤ (s.get! (p + j)).toNat := fun j hj => ⟨hj.1, by omega⟩
    have hne : ¬ (s.get! (p + 0)).toNat < 0x80 := by rw [get_at s p hp]; omega
    have e1 : (Utf8.decode s p).2 = 1 ∨ ((Utf8.decode s p).2 = 2 ∧ (p + 1 < s.size ∧ (s.get! (p + 1)).toNat / 64 = 2)) ∨ ((Utf8.decode s p).2 = 3 ∧ (p + 1 < s.size ∧ (s.get! (p + 1)).toNat / 64 = 2) ∧ (p + 2 < s.size ∧ (s.get! (p + 2)).toNat / 64 = 2)) ∨
        ((Utf8.decode s p).2 = 4 ∧ (p + 1 < s.size ∧ (s.get! (p + 1)).toNat / 64 = 2) ∧ (p + 2 < s.size ∧ (s.get! (p + 2)).toNat / 64 = 2) ∧ (p + 3 < s.size ∧ (s.get! (p + 3)).toNat / 64 = 2)) := by
      simp only [Utf8.decode, if_neg hne]
      repeat' split
      all_goals simp_all
    rcases e1 with e | ⟨e, a1⟩ | ⟨e, a1, a2⟩ | ⟨e, a1, a2, a3⟩
    · rw [e]; exact key 1 (fun j a b => by omega) h0 (Nat.le_refl _)
    · rw [e]; exact key 2 (fun j a b => by rw [show j = 1 by omega]; exact hk 1 a1) h0 (by omega)
    · rw [e]
      refine key 3 (fun j a b => ?_) h0 (by omega)
      rcases (by omega : j = 1 ∨ j = 2) with rfl | rfl
      · exact hk 1 a1
      · exact hk 2 a2
    · rw [e]
      refine key 4 (fun j a b => ?_) h0 (by omega)
      rcases (by omega : j = 1 ∨ j = 2 ∨ j = 3) with rfl | rfl | rfl
      · exact hk 1 a1
      · exact hk 2 a2
      · exact hk 3 a3
theorem get_list (s : ByteArray) (j : Nat) (h : j < s.data.toList.length) : s.data.toList[j] = s.get! j := by
  have hj : j < s.size := by simpa using h
  rw [byte_at s j hj]
  rfl
/-- WHAT IS SENT OF A TEXT: its lines. -/
theorem outS_cut (s : ByteArray) : ∀ (n p f : Nat), s.size ≤ p + n → f ≤ p → p ≤ s.size → outS s n p f = (cutN ((s.data.toList.drop f).take (p - f)) (s.data.toList.drop p)).map (fun x => .string (ofL x)) := by
  have hlen : s.data.toList.length = s.size := by simp
  have htail : ∀ p f, s.size ≤ p → f ≤ p → p ≤ s.size → tailS s f = (cutN ((s.data.toList.drop f).take (p - f)) (s.data.toList.drop p)).map (fun x => .string (ofL x)) := by
    intro p f h1 h2 h3
    have hp : p = s.size := by omega
    subst hp
    have hd0 : s.data.toList.drop s.size = [] := List.drop_eq_nil_of_le (by omega)
    rw [hd0, cutN]
    unfold tailS
    by_cases hf : f < s.size
    · rw [if_pos hf, if_neg, List.map_cons, List.map_nil, ofL_extract]
      intro e
      have := congrArg List.length e
      simp only [List.length_take, List.length_drop, List.length_nil] at this
      omega
    · rw [if_neg hf, if_pos]
      · rfl
      · apply List.eq_nil_of_length_eq_zero
        simp only [List.length_take, List.length_drop]
        omega
  intro n
  induction n with
  | zero => intro p f h1 h2 h3; rw [outS]; exact htail p f h1 h2 h3
  | succ n ih =>
    intro p f h1 h2 h3
    rw [outS]
    by_cases hp : p < s.size
    · rw [if_pos hp]
      have hd : s.data.toList.drop p = s.get! p :: s.data.toList.drop (p + 1) := by
        rw [List.drop_eq_getElem_cons (by omega), get_list]
      by_cases h10 : (Utf8.decode s p).1 = 10
      · rw [if_pos h10, code10 hp h10, ih (p + 1) (p + 1) (by omega) (Nat.le_refl _) (by omega), hd]
        have hb : s.get! p = 10 := by
          rcases Nat.lt_or_ge (s[p]'hp).toNat 128 with h1 | h1
          · rw [decode_ascii s p hp h1] at h10
            rw [byte_at s p hp]
            exact UInt8.toNat_inj.1 h10
          · have := (decode_high s p hp h1).1
            omega
        rw [hb, cutN, if_pos rfl, List.map_cons, ← ofL_extract]
        congr 4
        simp
      · rw [if_neg h10]
        obtain ⟨a1, a2⟩ := decode_span hp h10
        have a0 := width1 hp
        generalize (Utf8.decode s p).2 = k at a0 a1 a2 ⊢
        rw [ih (p + k) f (by omega) (by omega) a1]
        have hsplit : s.data.toList.drop p = (s.data.toList.drop p).take k ++ s.data.toList.drop (p + k) := by
          rw [← List.drop_drop, List.take_append_drop]
        rw [hsplit, cutN_run]
        · congr 2
          have : p + k - f = (p - f) + k := by omega
          rw [this, List.take_add, List.drop_drop, show f + (p - f) = p by omega]
        · intro hm
          obtain ⟨j, hj, e⟩ := List.mem_iff_getElem.1 hm
          simp only [List.length_take, List.length_drop] at hj
          rw [List.getElem_take, List.getElem_drop, get_list] at e
          have := a2 (p + j) (by omega) (by omega)
          rw [e] at this
          exact this rfl
    · rw [if_neg hp]; exact htail p f (by omega) h2 h3
/-- .. of lines, each with its end -/
theorem outS_lines (ls : List (List UInt8)) (h : ∀ x ∈ ls, (10 : UInt8) ∉ x) : outS (strB (ls.flatMap (· ++ [10]))) (strB (ls.flatMap (· ++ [10]))).size 0 0 = (ls.map ofL).map .string := by
  have hl : (strB (ls.flatMap (· ++ [10]))).data.toList = ls.flatMap (· ++ [10]) := by simp [strB]
  rw [outS_cut _ _ 0 0 (by omega) (Nat.le_refl _) (Nat.zero_le _), hl]
  simp only [Nat.sub_self, List.take_zero, List.drop_zero]
  rw [cutN_lines ls h, List.map_map]
  rfl

/-! ### a plan's text -/
theorem writW_no10 {e : Ent} (h : Meant e) : (10 : UInt8) ∉ writW e := by
  have hv : ∀ i, i < 13 → (10 : UInt8) ∉ (vWords.getD i ByteArray.empty).data.toList := fun i hi => (verb_plain ⟨i, hi⟩).2.1
  have hd := dd_nonl
  cases h with
  | ins s a ch h1 h2 h3 h4 h5 =>
    have hc : (10 : UInt8) ≠ UInt8.ofNat ch := by
      intro e
      have := congrArg UInt8.toNat e
      rw [UInt8.toNat_ofNat'] at this
      have h10 : (10 : UInt8).toNat = 10 := rfl
      omega
    have := hv 0 (by decide)
    simp_all [writW, tailW, numsW, itoa_dd]
  | del s a => have := hv 1 (by decide); simp_all [writW, tailW, numsW, itoa_dd]
  | tick s => have := hv 2 (by decide); simp_all [writW, tailW, numsW, itoa_dd]
  | fly k a h1 =>
    rcases h1 with rfl | rfl | rfl
    · have := hv 3 (by decide); simp_all [writW, tailW, numsW, itoa_dd]
    · have := hv 4 (by decide); simp_all [writW, tailW, numsW, itoa_dd]
    · have := hv 5 (by decide); simp_all [writW, tailW, numsW, itoa_dd]
  | flip a b c => have := hv 6 (by decide); simp_all [writW, tailW, numsW, itoa_dd]
  | bare k h1 =>
    rcases h1 with rfl | rfl | rfl
    · have := hv 7 (by decide); simp_all [writW, tailW]
    · have := hv 8 (by decide); simp_all [writW, tailW]
    · have := hv 10 (by decide); simp_all [writW, tailW]
  | disk k a b c h1 =>
    rcases h1 with rfl | rfl
    · have := hv 9 (by decide); simp_all [writW, tailW, numsW, itoa_dd]
    · have := hv 11 (by decide); simp_all [writW, tailW, numsW, itoa_dd]
  | forge s bs h1 h2 h3 =>
    have := hv 12 (by decide)
    have := bytesW_no h3 10 (.inr rfl)
    simp_all [writW, tailW, numsW, itoa_dd]
theorem writW_len {e : Ent} (h : Meant e) : (writW e).length ≤ 138 := by
  have hl : ∀ n, n < 1000000 → (Lib.decDigits n).length ≤ 6 := fun n hn => dd_len 5 n hn
  have hl2 : ∀ n, n < 100 → (Lib.decDigits n).length ≤ 2 := fun n hn => dd_len 1 n hn
  cases h with
  | ins s a ch h1 h2 h3 h4 h5 =>
    have := hl s (by omega); have := hl a (by omega)
    simp [writW, tailW, numsW, itoa_dd, vWords]; omega
  | del s a h1 h2 h3 =>
    have := hl s (by omega); have := hl a (by omega)
    simp [writW, tailW, numsW, itoa_dd, vWords]; omega
  | tick s h2 => have := hl s (by omega); simp [writW, tailW, numsW, itoa_dd, vWords]; omega
  | fly k a h1 h2 =>
    have := hl a (by omega)
    rcases h1 with rfl | rfl | rfl <;> (simp [writW, tailW, numsW, itoa_dd, vWords]; omega)
  | flip a b c h1 h2 h3 h4 =>
    have := hl a (by omega); have := hl b (by omega); have := hl c (by omega)
    simp [writW, tailW, numsW, itoa_dd, vWords]; omega
  | bare k h1 => rcases h1 with rfl | rfl | rfl <;> simp [writW, tailW, vWords]
  | disk k a b c h1 h2 h3 h4 =>
    have := hl a (by omega); have := hl b (by omega); have := hl c (by omega)
    rcases h1 with rfl | rfl <;> (simp [writW, tailW, numsW, itoa_dd, vWords]; omega)
  | forge s bs h1 h2 h3 =>
    have := hl2 s (by omega)
    have h4 : (bytesW bs).length ≤ 128 := by
      unfold bytesW
      split
      · rename_i h0; subst h0; simp
      · rw [List.nil_append, hex2_length]; omega
    simp [writW, tailW, numsW, itoa_dd, vWords]; omega
theorem headS_of (n : Nat) (h : n ≤ 64) : headS (ofL (clB.data.toList ++ Lib.decDigits n)) = n := by
  have e : (ofL (clB.data.toList ++ Lib.decDigits n)).data.toList = clB.data.toList ++ Lib.decDigits n := by simp [ofL]
  have hp : Lib.hasPrefix (clB.data.toList ++ Lib.decDigits n) clB.data.toList = true := by
    unfold Lib.hasPrefix
    rw [List.isPrefixOf_iff_prefix]
    exact List.prefix_append _ _
  unfold headS
  rw [e, if_pos hp]
  unfold Lib.trimPrefix
  rw [if_pos hp, List.drop_left, numS_dd (by omega)]
  simp only
  rw [if_pos h]
/-- the text of a number of clients and of lines -/
def planW (n : Nat) (ls : List (List UInt8)) : List UInt8 := ((clB.data.toList ++ Lib.decDigits n) :: ls).flatMap (· ++ [10])
def readL (l : List UInt8) : Ent := lineS (wordsB (ofL l))
theorem fold_rest : ∀ (ls : List (List UInt8)) (cl : Nat) (es : List Ent), cl ≠ 0 → es.length + ls.length ≤ 1024 → (ls.map ofL).foldl PS.step ⟨false, false, cl, es⟩ = ⟨false, false, cl, es ++ ls.map readL⟩
  | [], cl, es, _, _ => by simp
  | l :: ls, cl, es, hc, hl => by
    simp only [List.length_cons] at hl
    rw [List.map_cons, List.foldl_cons]
    have e : (⟨false, false, cl, es⟩ : PS).step (ofL l) = ⟨false, false, cl, es ++ [readL l]⟩ := by
      unfold PS.step
      simp only [Bool.false_eq_true, if_false, hc]
      rw [if_neg (by omega)]
      rfl
    rw [e, fold_rest ls cl _ hc (by simp only [List.length_append, List.length_cons, List.length_nil]; omega)]
    simp
theorem plan_lines (n : Nat) (ls : List (List UInt8)) (h10 : ∀ x ∈ ls, (10 : UInt8) ∉ x) :
    outS (strB (planW n ls)) (strB (planW n ls)).size 0 0 = (((clB.data.toList ++ Lib.decDigits n) :: ls).map ofL).map .string := by
  refine outS_lines _ fun x hx => ?_
  rcases List.mem_cons.1 hx with rfl | hx
  · rw [List.mem_append]
    rintro (h | h)
    · exact absurd h (by decide)
    · exact dd_nonl n h
  · exact h10 x hx
theorem plan_fold (n : Nat) (hn : 1 ≤ n) (hn2 : n ≤ 64) (ls : List (List UInt8)) (hl : ls.length ≤ 1024) :
    (((clB.data.toList ++ Lib.decDigits n) :: ls).map ofL).foldl PS.step st0P = ⟨false, false, n, ls.map readL⟩ := by
  rw [List.map_cons, List.foldl_cons]
  have e : st0P.step (ofL (clB.data.toList ++ Lib.decDigits n)) = ⟨false, false, n, []⟩ := by
    unfold PS.step st0P
    simp only [if_true]
    rw [headS_of n hn2]
  rw [e, fold_rest ls n [] (by omega) (by simpa using hl)]
  rfl
theorem read_writ {es : List Ent} (h : ∀ e ∈ es, Meant e) : (es.map writW).map readL = es := by
  rw [List.map_map]
  have : ∀ e ∈ es, (readL ∘ writW) e = e := fun e he => read_written (h e he)
  rw [List.map_congr_left this, List.map_id']
theorem planW_len (n : Nat) (hn2 : n ≤ 64) (es : List Ent) (h : ∀ e ∈ es, Meant e) : (planW n (es.map writW)).length ≤ 11 + 139 * es.length := by
  unfold planW
  rw [List.flatMap_cons, List.length_append, List.length_append, List.length_append]
  have h1 := dd_len 1 n (by omega)
  have h2 : ∀ es : List Ent, (∀ e ∈ es, Meant e) → ((es.map writW).flatMap (· ++ [10])).length ≤ 139 * es.length := by
    intro es
    induction es with
    | nil => intro _; simp
    | cons e es ih =>
      intro h
      have := writW_len (h e List.mem_cons_self)
      have := ih fun x hx => h x (List.mem_cons_of_mem _ hx)
      simp only [List.map_cons, List.flatMap_cons, List.length_append, List.length_cons, List.length_nil]
      omega
  have := h2 es h
  have h3 : clB.data.toList.length = 8 := rfl
  simp only [List.length_cons, List.length_nil]
  omega
/-- texts that differ in one line differ -/
theorem planW_inj {n : Nat} {a b : List (List UInt8)} {x y : List UInt8} (h : planW n (a ++ x :: b) = planW n (a ++ y :: b)) : x = y := by
  unfold planW at h
  simp only [List.flatMap_cons, List.flatMap_append] at h
  have h := List.append_cancel_left (List.append_cancel_left h)
  have h := List.append_cancel_right h
  exact List.append_cancel_right h
theorem writW_inj {x y : Ent} (hx : Meant x) (hy : Meant y) (h : writW x = writW y) : x = y := by
  rw [← read_written hx, ← read_written hy, h]

end Go.Proofs.YtbjkljmhhpoooaaDoor
