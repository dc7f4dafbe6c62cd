/- Plain laws: what is written of an entry that a line means is read as that entry; a taken line is the one that is written of its entry. -/
import Derived.Test.YtbjkljmhhpoooaaDoorWrit
import Derived.Test.YtbjkljmhhpoooaaDoorPcs
import Derived.Lib.ItoaNum
namespace Go.Proofs.YtbjkljmhhpoooaaDoor
open Go.RowKit
set_option linter.unusedVariables false
/-! ### numerals -/
theorem dd_snoc {u : Nat} (h : ¬ u < 10) : Lib.decDigits u = Lib.decDigits (u / 10) ++ [UInt8.ofNat (48 + u % 10)] := by rw [Lib.decDigits, dif_neg h]
theorem dd_one {u : Nat} (h : u < 10) : Lib.decDigits u = [UInt8.ofNat (48 + u)] := by rw [Lib.decDigits, dif_pos h]
theorem ofNat_dig {d : Nat} (h : d < 10) : (UInt8.ofNat (48 + d)).toNat = 48 + d := by simp [UInt8.toNat_ofNat]; omega
theorem dd_ne (u : Nat) : Lib.decDigits u ≠ [] := by
  by_cases h : u < 10
  · rw [dd_one h]; simp
  · rw [dd_snoc h]; simp
theorem dd_dig (u : Nat) : (Lib.decDigits u).all isDig = true := by
  induction u using Nat.strongRecOn with
  | _ u ih =>
    by_cases h : u < 10
    · rw [dd_one h]
      simp only [List.all_cons, List.all_nil, Bool.and_true, isDig]
      rw [ofNat_dig h]
      simp; omega
    · rw [dd_snoc h, List.all_append, ih (u / 10) (by omega)]
      simp only [List.all_cons, List.all_nil, Bool.and_true, isDig, Bool.true_and]
      rw [ofNat_dig (Nat.mod_lt u (by decide))]
      simp; omega
theorem dd_val (u : Nat) : numV (Lib.decDigits u) 0 = u := by
  induction u using Nat.strongRecOn with
  | _ u ih =>
    by_cases h : u < 10
    · rw [dd_one h]
      simp only [numV]
      rw [ofNat_dig h]; omega
    · rw [dd_snoc h, numV_snoc, ih (u / 10) (by omega), ofNat_dig (Nat.mod_lt u (by decide))]
      omega
theorem dd_head (u : Nat) (h : (Lib.decDigits u).head? = some 48) : u = 0 := by
  induction u using Nat.strongRecOn with
  | _ u ih =>
    by_cases h0 : u < 10
    · rw [dd_one h0] at h
      simp only [List.head?_cons, Option.some.injEq] at h
      have := congrArg UInt8.toNat h
      rw [ofNat_dig h0] at this
      have h48 : (48 : UInt8).toNat = 48 := rfl
      omega
    · rw [dd_snoc h0] at h
      rw [List.head?_append] at h
      cases hd : (Lib.decDigits (u / 10)).head? with
      | none => exact absurd (List.head?_eq_none_iff.1 hd) (dd_ne _)
      | some x =>
        rw [hd] at h
        simp only [Option.some_or] at h
        have := ih (u / 10) (by omega) (by rw [hd, h])
        omega
theorem dd_len : ∀ (k u : Nat), u < 10 ^ (k + 1) → (Lib.decDigits u).length ≤ k + 1
  | 0, u, h => by rw [dd_one (by simpa using h)]; simp
  | k + 1, u, h => by
    by_cases h0 : u < 10
    · rw [dd_one h0]; simp
    · rw [dd_snoc h0]
      have := dd_len k (u / 10) (by rw [Nat.pow_succ] at h; omega)
      simp only [List.length_append, List.length_cons, List.length_nil]
      omega
theorem numS_dd {u : Nat} (h : u < 1000000) : numS (Lib.decDigits u) = some u := by
  unfold numS
  have hl := dd_len 5 u h
  rw [if_neg, if_pos (dd_dig u), dd_val]
  rintro (h1 | h1 | ⟨h1, h2⟩)
  · exact dd_ne u h1
  · omega
  · have := dd_head u h2
    subst this
    rw [dd_one (by decide)] at h1
    simp at h1
theorem toNat_ofNat8 (c : UInt8) : UInt8.ofNat c.toNat = c := by simp
theorem dd_numV (l : List UInt8) : l.all isDig = true → l ≠ [] → (1 < l.length → l.head? ≠ some 48) → Lib.decDigits (numV l 0) = l := by
  induction h : l.length generalizing l with
  | zero => intro _ h1; exact absurd (List.eq_nil_of_length_eq_zero h) h1
  | succ n ih =>
    intro ha hne hh
    obtain ⟨l', c, rfl⟩ : ∃ l' c, l = l' ++ [c] := ⟨l.dropLast, l.getLast hne, (List.dropLast_concat_getLast hne).symm⟩
    rw [List.all_append] at ha
    simp only [List.all_cons, List.all_nil, Bool.and_true, Bool.and_eq_true, isDig, decide_eq_true_eq] at ha
    simp only [List.length_append, List.length_cons, List.length_nil] at h
    have hc : UInt8.ofNat (48 + (c.toNat - 48)) = c := by rw [show 48 + (c.toNat - 48) = c.toNat by omega, toNat_ofNat8]
    rw [numV_snoc]
    by_cases h0 : l' = []
    · subst h0
      simp only [numV, Nat.mul_zero, Nat.zero_add, List.nil_append]
      rw [dd_one (by omega), hc]
    · have hhead : l'.head? ≠ some 48 := by
        have hpos := List.length_pos_iff.2 h0
        have := hh (by omega)
        rw [List.head?_append] at this
        cases hd : l'.head? with
        | none => simp
        | some x => rw [hd] at this; simpa using this
      have hi := ih l' (by omega) (by simpa [isDig] using ha.1) h0 (fun _ => hhead)
      have hpos : numV l' 0 ≠ 0 := by
        intro hz
        rw [hz, dd_one (by decide)] at hi
        rw [← hi] at hhead
        exact hhead rfl
      have e1 : (10 * numV l' 0 + (c.toNat - 48)) / 10 = numV l' 0 := by omega
      have e2 : (10 * numV l' 0 + (c.toNat - 48)) % 10 = c.toNat - 48 := by omega
      rw [dd_snoc (by omega), e1, e2, hi, hc]
theorem dd_of_numS {l : List UInt8} {n : Nat} (h : numS l = some n) : Lib.decDigits n = l := by
  unfold numS at h
  split at h
  · cases h
  · rename_i hn
    split at h
    · rename_i ha
      injection h with h
      rw [← h]
      simp only [not_or, not_and] at hn
      exact dd_numV l ha hn.1 (fun h1 => hn.2.2 h1)
    · cases h
theorem dig_nosp : ∀ c : UInt8, isDig c = true → c ≠ 32 := by
  rintro c h rfl
  exact absurd h (by decide)
theorem dd_nosp (u : Nat) : (32 : UInt8) ∉ Lib.decDigits u := fun h => dig_nosp _ (List.all_eq_true.1 (dd_dig u) _ h) rfl
theorem dd_nonl (u : Nat) : (10 : UInt8) ∉ Lib.decDigits u := fun h => absurd (List.all_eq_true.1 (dd_dig u) _ h) (by decide)

/-! ### bytes by signs -/
theorem hexD_hv : ∀ n : Fin 16, hexV (hexD n.val) = some n.val := by decide
theorem hv_hexD : ∀ n : Fin 256, isHex (UInt8.ofNat n.val) = true → hexD (hv (UInt8.ofNat n.val)) = UInt8.ofNat n.val ∧ hv (UInt8.ofNat n.val) < 16 := by decide +kernel
theorem hv_of (c : UInt8) (h : isHex c = true) : hexD (hv c) = c ∧ hv c < 16 := by
  have := hv_hexD ⟨c.toNat, c.toNat_lt⟩
  simp only [toNat_ofNat8] at this
  exact this h
theorem isHex_hexD {n : Nat} (h : n < 16) : isHex (hexD n) = true ∧ hv (hexD n) = n := by
  have := hexD_hv ⟨n, h⟩
  simp only at this
  simp [isHex, hv, this]
theorem hexP_hex2 : ∀ bs : List Nat, (∀ x ∈ bs, x < 256) → hexP (bs.flatMap hex2) = bs ∧ (bs.flatMap hex2).all isHex = true
  | [], _ => by simp [hexP]
  | x :: bs, h => by
    obtain ⟨h1, h2⟩ := hexP_hex2 bs fun y hy => h y (List.mem_cons_of_mem _ hy)
    have hx := h x List.mem_cons_self
    obtain ⟨a1, a2⟩ := isHex_hexD (n := x / 16) (by omega)
    obtain ⟨b1, b2⟩ := isHex_hexD (n := x % 16) (by omega)
    simp only [List.flatMap_cons, hex2, List.cons_append, List.nil_append, hexP, List.all_cons]
    rw [a1, b1, a2, b2, h1]
    refine ⟨by congr 1; omega, ?_⟩
    simpa using h2
theorem hex2_length (bs : List Nat) : (bs.flatMap hex2).length = 2 * bs.length := by
  induction bs with
  | nil => rfl
  | cons x l ih => simp only [List.flatMap_cons, List.length_append, ih, List.length_cons]; show 2 + _ = _; omega
theorem hexS_bytesW {bs : List Nat} (h : ∀ x ∈ bs, x < 256) : hexS (bytesW bs) = some bs := by
  unfold bytesW
  by_cases h0 : bs = []
  · subst h0; rfl
  · rw [if_neg h0, List.nil_append]
    obtain ⟨h1, h2⟩ := hexP_hex2 bs h
    have hl := hex2_length bs
    have hpos := List.length_pos_iff.2 h0
    unfold hexS
    rw [if_neg, if_neg, if_pos h2, h1]
    · rintro (e | e)
      · rw [e] at hl; simp at hl; omega
      · omega
    · intro e
      rw [e] at hl; simp at hl; omega
theorem hex2_hexP : ∀ l : List UInt8, l.length % 2 = 0 → l.all isHex = true → (hexP l).flatMap hex2 = l
  | [], _, _ => rfl
  | [a], h, _ => by simp at h
  | a :: b :: l, h, ha => by
    simp only [List.all_cons, Bool.and_eq_true] at ha
    obtain ⟨h1, h2, h3⟩ := ha
    have hi := hex2_hexP l (by simp only [List.length_cons] at h; omega) h3
    obtain ⟨a1, a2⟩ := hv_of a h1
    obtain ⟨b1, b2⟩ := hv_of b h2
    simp only [hexP, List.flatMap_cons, hi, hex2]
    rw [show (16 * hv a + hv b) / 16 = hv a by omega, show (16 * hv a + hv b) % 16 = hv b by omega, a1, b1]
    rfl
theorem bytesW_of_hexS {l : List UInt8} {bs : List Nat} (h : hexS l = some bs) : bytesW bs = l ∧ ∀ x ∈ bs, x < 256 := by
  unfold hexS at h
  split at h
  · rename_i h0
    injection h with h
    subst h h0
    exact ⟨rfl, by simp⟩
  · split at h
    · cases h
    · rename_i h1 h2
      split at h
      · rename_i ha
        injection h with h
        subst h
        simp only [not_or] at h2
        have hl : l.length % 2 = 0 := by omega
        have hi := hex2_hexP l hl ha
        refine ⟨?_, ?_⟩
        · unfold bytesW
          rw [if_neg, List.nil_append, hi]
          intro h0
          rw [h0] at hi
          exact h2.1 hi.symm
        · have hlt : ∀ l : List UInt8, l.all isHex = true → ∀ x ∈ hexP l, x < 256 := by
            intro l
            induction hn : l.length using Nat.strongRecOn generalizing l with
            | _ n ih =>
              match l, hn with
              | [], _ => simp [hexP]
              | [a], _ => simp [hexP]
              | a :: b :: l, hn =>
                intro ha x hx
                simp only [List.all_cons, Bool.and_eq_true] at ha
                obtain ⟨h1, h2, h3⟩ := ha
                have a2 := (hv_of a h1).2
                have b2 := (hv_of b h2).2
                simp only [hexP, List.mem_cons] at hx
                rcases hx with rfl | hx
                · omega
                · exact ih l.length (by simp only [List.length_cons] at hn; omega) l rfl h3 x hx
          exact hlt l ha
      · cases h
theorem hexD_nosp : ∀ n : Fin 16, hexD n.val ≠ 32 ∧ hexD n.val ≠ 10 := by decide
theorem bytesW_no {bs : List Nat} (h : ∀ x ∈ bs, x < 256) (c : UInt8) (hc : c = 32 ∨ c = 10) : c ∉ bytesW bs := by
  intro hm
  unfold bytesW at hm
  rw [List.mem_append] at hm
  rcases hm with hm | hm
  · split at hm
    · simp at hm; subst hm; rcases hc with hc | hc <;> exact absurd hc (by decide)
    · cases hm
  · obtain ⟨x, hx, hm⟩ := List.mem_flatMap.1 hm
    have hx := h x hx
    have h1 := hexD_nosp ⟨x / 16, by omega⟩
    have h2 := hexD_nosp ⟨x % 16, by omega⟩
    simp only [hex2, List.mem_cons, List.not_mem_nil, or_false] at hm
    simp only at h1 h2
    rcases hm with rfl | rfl
    · rcases hc with hc | hc
      · exact h1.1 hc
      · exact h1.2 hc
    · rcases hc with hc | hc
      · exact h2.1 hc
      · exact h2.2 hc

/-! ### pieces -/
theorem pcs_tok : ∀ (t : List UInt8) (m : Nat) (acc rest : List UInt8), (32 : UInt8) ∉ t → 0 < m → pcs m acc (t ++ 32 :: rest) = (acc ++ t) :: pcs (m - 1) [] rest
  | [], m, acc, rest, _, hm => by simp [pcs, hm]
  | x :: t, m, acc, rest, h, hm => by
    have hx : x ≠ 32 := fun e => h (by rw [e]; exact List.mem_cons_self)
    have ht : (32 : UInt8) ∉ t := fun e => h (List.mem_cons_of_mem _ e)
    rw [List.cons_append, pcs, if_neg (by simp [hx]), pcs_tok t m _ rest ht hm]
    simp
theorem pcs_last : ∀ (t : List UInt8) (m : Nat) (acc : List UInt8), (32 : UInt8) ∉ t → pcs m acc t = [acc ++ t]
  | [], m, acc, _ => by simp [pcs]
  | x :: t, m, acc, h => by
    have hx : x ≠ 32 := fun e => h (by rw [e]; exact List.mem_cons_self)
    have ht : (32 : UInt8) ∉ t := fun e => h (List.mem_cons_of_mem _ e)
    rw [pcs, if_neg (by simp [hx]), pcs_last t m _ ht]
    simp
theorem pcs_zero : ∀ (t : List UInt8) (acc : List UInt8), pcs 0 acc t = [acc ++ t]
  | [], acc => by simp [pcs]
  | x :: t, acc => by
    rw [pcs, if_neg (by simp), pcs_zero t _]
    simp
def joinS : List (List UInt8) → List UInt8
  | [] => []
  | [x] => x
  | x :: y :: r => x ++ 32 :: joinS (y :: r)
theorem pcs_ne : ∀ (t : List UInt8) (m : Nat) (acc : List UInt8), ∃ y r, pcs m acc t = y :: r
  | [], m, acc => ⟨acc, [], by simp [pcs]⟩
  | x :: t, m, acc => by
    rw [pcs]
    split
    · exact ⟨_, _, rfl⟩
    · exact pcs_ne t m _
theorem pcs_join : ∀ (t : List UInt8) (m : Nat) (acc : List UInt8), joinS (pcs m acc t) = acc ++ t
  | [], m, acc => by simp [pcs, joinS]
  | x :: t, m, acc => by
    rw [pcs]
    split
    · rename_i h
      obtain ⟨rfl, _⟩ := h
      obtain ⟨y, r, e⟩ := pcs_ne t (m - 1) []
      have := pcs_join t (m - 1) []
      rw [e] at this ⊢
      rw [joinS, this, List.nil_append]
    · rw [pcs_join t m _]
      simp
theorem pcs_toks : ∀ (ts : List (List UInt8)) (t : List UInt8) (m : Nat), (∀ x ∈ t :: ts, (32 : UInt8) ∉ x) → ts.length ≤ m → pcs m [] (joinS (t :: ts)) = t :: ts
  | [], t, m, h, _ => by
    rw [joinS, pcs_last t m [] (h t List.mem_cons_self), List.nil_append]
  | u :: ts, t, m, h, hm => by
    simp only [List.length_cons] at hm
    rw [joinS, pcs_tok t m [] _ (h t List.mem_cons_self) (by omega), List.nil_append, pcs_toks ts u (m - 1) (fun x hx => h x (List.mem_cons_of_mem _ hx)) (by omega)]
theorem join_length : ∀ (ts : List (List UInt8)) (t : List UInt8), ts.length ≤ (joinS (t :: ts)).length
  | [], t => by simp
  | u :: ts, t => by
    have := join_length ts u
    rw [joinS]
    simp only [List.length_append, List.length_cons]
    omega
theorem cut_first (l t : List UInt8) (r : List (List UInt8)) (m : Nat) (hm : l.count 32 ≤ m) (h : pcs m [] l = t :: r) : (Lib.cut l [32]).1 = t := by
  have := pcs_head l m [] hm
  rw [h, List.nil_append] at this
  simpa using this.symm
theorem count_le (l : List UInt8) : l.count 32 ≤ l.length := List.count_le_length
/-- the pieces of a line that is not an insertion -/
theorem words_of (ts : List (List UInt8)) (t : List UInt8) (h : ∀ x ∈ t :: ts, (32 : UInt8) ∉ x) (hi : t ≠ insertB) : wordsB (strB (joinS (t :: ts))) = (t :: ts).map ofL := by
  have hl : (strB (joinS (t :: ts))).data.toList = joinS (t :: ts) := by simp [strB]
  have hz : (strB (joinS (t :: ts))).size = (joinS (t :: ts)).length := rfl
  have hp := pcs_toks ts t (joinS (t :: ts)).length h (join_length ts t)
  rw [words_ref, hl, hz, if_neg, hp]
  rw [cut_first _ t ts _ (count_le _) hp]
  exact hi
/-- of an insertion -/
theorem words_ins' (a b c : List UInt8) (ha : (32 : UInt8) ∉ a) (hb : (32 : UInt8) ∉ b) : wordsB (strB (insertB ++ 32 :: (a ++ 32 :: (b ++ 32 :: c)))) = [insertB, a, b, c].map ofL := by
  have hl : (strB (insertB ++ 32 :: (a ++ 32 :: (b ++ 32 :: c)))).data.toList = insertB ++ 32 :: (a ++ 32 :: (b ++ 32 :: c)) := by simp [strB]
  have hins : (32 : UInt8) ∉ insertB := by decide
  have hc : (Lib.cut (insertB ++ 32 :: (a ++ 32 :: (b ++ 32 :: c))) [32]).1 = insertB := by
    refine cut_first _ insertB _ _ (count_le _) (pcs_tok insertB _ [] _ hins (by simp; omega))
  rw [words_ref, hl, hc, if_pos rfl, pcs_tok insertB 3 [] _ hins (by decide), pcs_tok a _ [] _ ha (by decide), pcs_tok b _ [] _ hb (by decide), pcs_zero]
  rfl

/-! ### entries that lines mean -/
inductive Meant : Ent → Prop
  | ins (s a ch : Nat) (h1 : 1 ≤ s) (h2 : s ≤ 64) (h3 : a ≤ 4095) (h4 : 32 ≤ ch) (h5 : ch ≤ 126) : Meant ⟨1, s, a, 0, 0, ch, [], 0⟩
  | del (s a : Nat) (h1 : 1 ≤ s) (h2 : s ≤ 64) (h3 : a ≤ 4095) : Meant ⟨2, s, a, 0, 0, 0, [], 0⟩
  | tick (s : Nat) (h2 : s ≤ 64) : Meant ⟨3, s, 0, 0, 0, 0, [], 0⟩
  | fly (k a : Nat) (h1 : k = 4 ∨ k = 5 ∨ k = 6) (h2 : a ≤ 2047) : Meant ⟨k, 0, a, 0, 0, 0, [], 0⟩
  | flip (a b c : Nat) (h1 : a ≤ 2047) (h2 : b ≤ 63) (h3 : 1 ≤ c) (h4 : c ≤ 255) : Meant ⟨7, 0, a, b, c, 0, [], 0⟩
  | bare (k : Nat) (h1 : k = 8 ∨ k = 9 ∨ k = 11) : Meant ⟨k, 0, 0, 0, 0, 0, [], 0⟩
  | disk (k a b c : Nat) (h1 : k = 10 ∨ k = 12) (h2 : a ≤ 262144) (h3 : b ≤ 262144) (h4 : c ≤ 255) : Meant ⟨k, 0, a, b, c, 0, [], 0⟩
  | forge (s : Nat) (bs : List Nat) (h1 : s ≤ 64) (h2 : bs.length ≤ 64) (h3 : ∀ x ∈ bs, x < 256) : Meant ⟨13, s, 0, 0, 0, 0, bs, 0⟩

theorem itoa_dd (n : Nat) : Lib.itoa (n : Int) = Lib.decDigits n := by unfold Lib.itoa; rw [if_neg (by omega)]; simp
theorem step_num {f n : Nat} (h8 : f ≠ 8) (h9 : f ≠ 9) (hn : n < 1000000) (e : EnSt) : enStep f (Lib.decDigits n) e = .inr (enPut f n { e with wide := e.wide || (decide (n < lows.getD f 0) || decide (mosts.getD f 0 < n)) }) := by
  unfold enStep
  rw [if_neg h8, if_neg h9, numS_dd hn]
theorem ix_ofL : ∀ i : Fin 13, verbIx (ofL (vWords.getD i.val ByteArray.empty).data.toList) = i.val := by decide
theorem ix_of (i : Nat) (h : i < 13) : verbIx (ofL (vWords.getD i ByteArray.empty).data.toList) = i := ix_ofL ⟨i, h⟩
theorem strL_ofL (l : List (List UInt8)) : strL (l.map ofL) = l := by
  unfold strL
  rw [List.map_map]
  have : ((fun x : ByteArray => x.data.toList) ∘ ofL) = id := by funext x; simp [ofL]
  rw [this, List.map_id]
/-- a line of tokens, read -/
theorem lineS_toks (i : Nat) (h : i < 13) (ts : List (List UInt8)) : lineS (((vWords.getD i ByteArray.empty).data.toList :: ts).map ofL) = entryS (1 + i) (vForms.getD i []) ts := by
  unfold lineS
  have e : ((((vWords.getD i ByteArray.empty).data.toList :: ts).map ofL).getD 0 ByteArray.empty) = ofL (vWords.getD i ByteArray.empty).data.toList := rfl
  rw [e, ix_of i h, if_pos h, List.map_cons, List.drop_succ_cons, List.drop_zero, strL_ofL]
theorem verb_plain : ∀ i : Fin 13, (32 : UInt8) ∉ (vWords.getD i.val ByteArray.empty).data.toList ∧ (10 : UInt8) ∉ (vWords.getD i.val ByteArray.empty).data.toList ∧ (i.val ≠ 0 → (vWords.getD i.val ByteArray.empty).data.toList ≠ insertB) := by decide
theorem read_toks (i : Nat) (h : i < 13) (h0 : i ≠ 0) (ts : List (List UInt8)) (hs : ∀ x ∈ ts, (32 : UInt8) ∉ x) : lineS (wordsB (strB (joinS ((vWords.getD i ByteArray.empty).data.toList :: ts)))) = entryS (1 + i) (vForms.getD i []) ts := by
  have hv := verb_plain ⟨i, h⟩
  simp only at hv
  rw [words_of ts _ (fun x hx => ?_) (hv.2.2 h0), lineS_toks i h]
  rcases List.mem_cons.1 hx with rfl | hx
  · exact hv.1
  · exact hs x hx

theorem and_false_or {p q : Bool} : (p || q) = false ↔ p = false ∧ q = false := by simp

/-- WHAT IS WRITTEN OF AN ENTRY THAT A LINE MEANS IS READ AS THAT ENTRY. -/
theorem read_written {e : Ent} (h : Meant e) : lineS (wordsB (strB (writW e))) = e := by
  cases h with
  | ins s a ch h1 h2 h3 h4 h5 =>
    have e1 : writW ⟨1, s, a, 0, 0, ch, [], 0⟩ = insertB ++ 32 :: (Lib.decDigits s ++ 32 :: (Lib.decDigits a ++ 32 :: [UInt8.ofNat ch])) := by
      simp [writW, tailW, numsW, itoa_dd, vWords, insertB]
    rw [e1, words_ins' _ _ _ (dd_nosp s) (dd_nosp a)]
    have := lineS_toks 0 (by decide) [Lib.decDigits s, Lib.decDigits a, [UInt8.ofNat ch]]
    refine this.trans ?_
    have hch : (UInt8.ofNat ch).toNat = ch := by simp; omega
    simp only [entryS, vForms, List.getD_cons_zero, List.length_cons, List.length_nil, ne_eq, not_true_eq_false, if_false, enRun, step_num (f := 0) (by decide) (by decide) (show s < 1000000 by omega), step_num (f := 2) (by decide) (by decide) (show a < 1000000 by omega), st0, lows, mosts]
    simp [enPut, enStep, hch]
    omega
  | del s a h1 h2 h3 =>
    have e1 : writW ⟨2, s, a, 0, 0, 0, [], 0⟩ = joinS ((vWords.getD 1 ByteArray.empty).data.toList :: [Lib.decDigits s, Lib.decDigits a]) := by
      simp [writW, tailW, numsW, itoa_dd, vWords, joinS]
    rw [e1, read_toks 1 (by decide) (by decide) _ (by simp [dd_nosp])]
    simp only [entryS, vForms, List.getD_cons_zero, List.getD_cons_succ, List.length_cons, List.length_nil, ne_eq, not_true_eq_false, if_false, enRun, step_num (f := 0) (by decide) (by decide) (show s < 1000000 by omega), step_num (f := 2) (by decide) (by decide) (show a < 1000000 by omega), st0, lows, mosts]
    simp [enPut]
    omega
  | tick s h2 =>
    have e1 : writW ⟨3, s, 0, 0, 0, 0, [], 0⟩ = joinS ((vWords.getD 2 ByteArray.empty).data.toList :: [Lib.decDigits s]) := by
      simp [writW, tailW, numsW, itoa_dd, vWords, joinS]
    rw [e1, read_toks 2 (by decide) (by decide) _ (by simp [dd_nosp])]
    simp only [entryS, vForms, List.getD_cons_zero, List.getD_cons_succ, List.length_cons, List.length_nil, ne_eq, not_true_eq_false, if_false, enRun, step_num (f := 1) (by decide) (by decide) (show s < 1000000 by omega), st0, lows, mosts]
    simp [enPut]
    omega
  | fly k a h1 h2 =>
    rcases h1 with rfl | rfl | rfl
    · have e1 : writW ⟨4, 0, a, 0, 0, 0, [], 0⟩ = joinS ((vWords.getD 3 ByteArray.empty).data.toList :: [Lib.decDigits a]) := by
        simp [writW, tailW, numsW, itoa_dd, vWords, joinS]
      rw [e1, read_toks 3 (by decide) (by decide) _ (by simp [dd_nosp])]
      simp only [entryS, vForms, List.getD_cons_zero, List.getD_cons_succ, List.length_cons, List.length_nil, ne_eq, not_true_eq_false, if_false, enRun, step_num (f := 3) (by decide) (by decide) (show a < 1000000 by omega), st0, lows, mosts]
      simp [enPut]
      omega
    · have e1 : writW ⟨5, 0, a, 0, 0, 0, [], 0⟩ = joinS ((vWords.getD 4 ByteArray.empty).data.toList :: [Lib.decDigits a]) := by
        simp [writW, tailW, numsW, itoa_dd, vWords, joinS]
      rw [e1, read_toks 4 (by decide) (by decide) _ (by simp [dd_nosp])]
      simp only [entryS, vForms, List.getD_cons_zero, List.getD_cons_succ, List.length_cons, List.length_nil, ne_eq, not_true_eq_false, if_false, enRun, step_num (f := 3) (by decide) (by decide) (show a < 1000000 by omega), st0, lows, mosts]
      simp [enPut]
      omega
    · have e1 : writW ⟨6, 0, a, 0, 0, 0, [], 0⟩ = joinS ((vWords.getD 5 ByteArray.empty).data.toList :: [Lib.decDigits a]) := by
        simp [writW, tailW, numsW, itoa_dd, vWords, joinS]
      rw [e1, read_toks 5 (by decide) (by decide) _ (by simp [dd_nosp])]
      simp only [entryS, vForms, List.getD_cons_zero, List.getD_cons_succ, List.length_cons, List.length_nil, ne_eq, not_true_eq_false, if_false, enRun, step_num (f := 3) (by decide) (by decide) (show a < 1000000 by omega), st0, lows, mosts]
      simp [enPut]
      omega
  | flip a b c h1 h2 h3 h4 =>
    have e1 : writW ⟨7, 0, a, b, c, 0, [], 0⟩ = joinS ((vWords.getD 6 ByteArray.empty).data.toList :: [Lib.decDigits a, Lib.decDigits b, Lib.decDigits c]) := by
      simp [writW, tailW, numsW, itoa_dd, vWords, joinS]
    rw [e1, read_toks 6 (by decide) (by decide) _ (by simp [dd_nosp])]
    simp only [entryS, vForms, List.getD_cons_zero, List.getD_cons_succ, List.length_cons, List.length_nil, ne_eq, not_true_eq_false, if_false, enRun, step_num (f := 3) (by decide) (by decide) (show a < 1000000 by omega), step_num (f := 4) (by decide) (by decide) (show b < 1000000 by omega), step_num (f := 5) (by decide) (by decide) (show c < 1000000 by omega), st0, lows, mosts]
    simp [enPut]
    omega
  | bare k h1 =>
    rcases h1 with rfl | rfl | rfl
    · have e1 : writW ⟨8, 0, 0, 0, 0, 0, [], 0⟩ = joinS ((vWords.getD 7 ByteArray.empty).data.toList :: []) := by simp [writW, tailW, vWords, joinS]
      rw [e1, read_toks 7 (by decide) (by decide) _ (by simp)]
      rfl
    · have e1 : writW ⟨9, 0, 0, 0, 0, 0, [], 0⟩ = joinS ((vWords.getD 8 ByteArray.empty).data.toList :: []) := by simp [writW, tailW, vWords, joinS]
      rw [e1, read_toks 8 (by decide) (by decide) _ (by simp)]
      rfl
    · have e1 : writW ⟨11, 0, 0, 0, 0, 0, [], 0⟩ = joinS ((vWords.getD 10 ByteArray.empty).data.toList :: []) := by simp [writW, tailW, vWords, joinS]
      rw [e1, read_toks 10 (by decide) (by decide) _ (by simp)]
      rfl
  | disk k a b c h1 h2 h3 h4 =>
    rcases h1 with rfl | rfl
    · have e1 : writW ⟨10, 0, a, b, c, 0, [], 0⟩ = joinS ((vWords.getD 9 ByteArray.empty).data.toList :: [Lib.decDigits a, Lib.decDigits b, Lib.decDigits c]) := by
        simp [writW, tailW, numsW, itoa_dd, vWords, joinS]
      rw [e1, read_toks 9 (by decide) (by decide) _ (by simp [dd_nosp])]
      simp only [entryS, vForms, List.getD_cons_zero, List.getD_cons_succ, List.length_cons, List.length_nil, ne_eq, not_true_eq_false, if_false, enRun, step_num (f := 6) (by decide) (by decide) (show a < 1000000 by omega), step_num (f := 6) (by decide) (by decide) (show b < 1000000 by omega), step_num (f := 7) (by decide) (by decide) (show c < 1000000 by omega), st0, lows, mosts]
      simp [enPut]
      omega
    · have e1 : writW ⟨12, 0, a, b, c, 0, [], 0⟩ = joinS ((vWords.getD 11 ByteArray.empty).data.toList :: [Lib.decDigits a, Lib.decDigits b, Lib.decDigits c]) := by
        simp [writW, tailW, numsW, itoa_dd, vWords, joinS]
      rw [e1, read_toks 11 (by decide) (by decide) _ (by simp [dd_nosp])]
      simp only [entryS, vForms, List.getD_cons_zero, List.getD_cons_succ, List.length_cons, List.length_nil, ne_eq, not_true_eq_false, if_false, enRun, step_num (f := 6) (by decide) (by decide) (show a < 1000000 by omega), step_num (f := 6) (by decide) (by decide) (show b < 1000000 by omega), step_num (f := 7) (by decide) (by decide) (show c < 1000000 by omega), st0, lows, mosts]
      simp [enPut]
      omega
  | forge s bs h1 h2 h3 =>
    have e1 : writW ⟨13, s, 0, 0, 0, 0, bs, 0⟩ = joinS ((vWords.getD 12 ByteArray.empty).data.toList :: [Lib.decDigits s, bytesW bs]) := by
      simp [writW, tailW, numsW, itoa_dd, vWords, joinS]
    rw [e1, read_toks 12 (by decide) (by decide) _ (by simp [dd_nosp]; exact bytesW_no h3 32 (.inl rfl))]
    have hh : ∀ e : EnSt, enStep 9 (bytesW bs) e = .inr { e with by_ := bs, wide := e.wide || decide (64 < bs.length) } := by
      intro e
      unfold enStep
      rw [if_neg (by decide), if_pos rfl, hexS_bytesW h3]
    simp only [entryS, vForms, List.getD_cons_zero, List.getD_cons_succ, List.length_cons, List.length_nil, ne_eq, not_true_eq_false, if_false, enRun, step_num (f := 1) (by decide) (by decide) (show s < 1000000 by omega), hh, st0, lows, mosts]
    simp [enPut]
    omega

/-! ### what a taken line was -/
theorem run_cons {f : Nat} {fs : List Nat} {l : List UInt8} {ls : List (List UInt8)} {e r : EnSt} (h : enRun (f :: fs) (l :: ls) e = .inr r) : ∃ e', enStep f l e = .inr e' ∧ enRun fs ls e' = .inr r := by
  simp only [enRun] at h
  cases hs : enStep f l e with
  | inl x => rw [hs] at h; cases h
  | inr e' => rw [hs] at h; exact ⟨e', rfl, h⟩
theorem run_nil {e r : EnSt} (h : enRun [] [] e = .inr r) : e = r := by simpa [enRun] using h
theorem num_inv {f : Nat} (h8 : f ≠ 8) (h9 : f ≠ 9) {l : List UInt8} {e e' : EnSt} (h : enStep f l e = .inr e') : ∃ n, l = Lib.decDigits n ∧ e' = enPut f n { e with wide := e.wide || (decide (n < lows.getD f 0) || decide (mosts.getD f 0 < n)) } := by
  unfold enStep at h
  rw [if_neg h8, if_neg h9] at h
  cases hn : numS l with
  | none => rw [hn] at h; cases h
  | some n =>
    rw [hn] at h
    injection h with h
    exact ⟨n, (dd_of_numS hn).symm, h.symm⟩
theorem hex_inv {l : List UInt8} {e e' : EnSt} (h : enStep 9 l e = .inr e') : ∃ bs, l = bytesW bs ∧ (∀ x ∈ bs, x < 256) ∧ e' = { e with by_ := bs, wide := e.wide || decide (64 < bs.length) } := by
  unfold enStep at h
  rw [if_neg (by decide), if_pos rfl] at h
  cases hn : hexS l with
  | none => rw [hn] at h; cases h
  | some bs =>
    rw [hn] at h
    injection h with h
    obtain ⟨h1, h2⟩ := bytesW_of_hexS hn
    exact ⟨bs, h1.symm, h2, h.symm⟩
theorem ch_inv {l : List UInt8} {e e' : EnSt} (h : enStep 8 l e = .inr e') : ∃ ch : Nat, ch < 256 ∧ l = [UInt8.ofNat ch] ∧ e' = { e with ch := ch, wide := e.wide || (decide (ch < 32) || decide (126 < ch)) } := by
  unfold enStep at h
  rw [if_pos rfl] at h
  match l, h with
  | [c], h =>
    injection h with h
    exact ⟨c.toNat, c.toNat_lt, by simp, h.symm⟩
  | [], h => cases h
  | _ :: _ :: _, h => cases h
/-- what is taken -/
theorem entry_inv {k : Nat} {fs : List Nat} {ls : List (List UInt8)} {e : Ent} (h : entryS k fs ls = e) (he : e.err = 0) : ls.length = fs.length ∧ ∃ r, enRun fs ls st0 = .inr r ∧ r.wide = false ∧ e = ⟨k, r.site, r.a, r.b, r.c, r.ch, r.by_, 0⟩ := by
  unfold entryS at h
  split at h
  · subst h; exact absurd he (by simp [entBad])
  · rename_i hl
    refine ⟨by simpa using hl, ?_⟩
    cases hr : enRun fs ls st0 with
    | inl x =>
      rw [hr] at h
      simp only at h
      subst h
      exfalso
      simp only [entBad] at he
      subst he
      -- a step never refuses with 0
      have : ∀ (fs : List Nat) (ls : List (List UInt8)) (e : EnSt), enRun fs ls e ≠ .inl 0 := by
        intro fs
        induction fs with
        | nil => intro ls e; simp [enRun]
        | cons f fs ih =>
          intro ls e
          cases ls with
          | nil => simp [enRun]
          | cons l ls =>
            simp only [enRun]
            cases hs : enStep f l e with
            | inl x =>
              simp only [ne_eq, Sum.inl.injEq]
              rintro rfl
              unfold enStep at hs
              split at hs
              · split at hs <;> cases hs
              · split at hs
                · split at hs <;> cases hs
                · split at hs <;> cases hs
            | inr e' => exact ih ls e'
      exact this _ _ _ hr
    | inr r =>
      rw [hr] at h
      simp only at h
      split at h
      · subst h; exact absurd he (by simp [entBad])
      · rename_i hw
        exact ⟨r, rfl, by simpa using hw, h.symm⟩
theorem ix_inv {x : List UInt8} (h : verbIx (ofL x) < 13) : x = (vWords.getD (verbIx (ofL x)) ByteArray.empty).data.toList := by
  have hx : verbIx (ofL x) < vWords.length := h
  have h1 := List.findIdx_getElem (w := hx)
  have h2 := of_decide_eq_true h1
  have h3 : vWords.getD (verbIx (ofL x)) ByteArray.empty = ofL x := by rw [List.getD_eq_getElem?_getD, List.getElem?_eq_getElem hx]; exact h2
  rw [h3]
  simp [ofL]
theorem lineS_inv {l : List UInt8} {M : Nat} {e : Ent} (h : lineS ((pcs M [] l).map ofL) = e) (he : e.err = 0) :
    ∃ i ts, i < 13 ∧ l = joinS ((vWords.getD i ByteArray.empty).data.toList :: ts) ∧ entryS (1 + i) (vForms.getD i []) ts = e := by
  obtain ⟨t, ts, hp⟩ := pcs_ne l M []
  have hj := pcs_join l M []
  rw [hp] at h hj
  unfold lineS at h
  have e0 : (((t :: ts).map ofL).getD 0 ByteArray.empty) = ofL t := rfl
  rw [e0, List.map_cons, List.drop_succ_cons, List.drop_zero, strL_ofL] at h
  split at h
  · rename_i hi
    refine ⟨_, ts, hi, ?_, h⟩
    rw [← ix_inv hi]
    exact hj.symm
  · subst h; exact absurd he (by simp [entBad])
theorem two_of {ls : List (List UInt8)} (h : ls.length = 2) : ∃ a b, ls = [a, b] := by
  match ls, h with
  | [a, b], _ => exact ⟨a, b, rfl⟩
theorem three_of {ls : List (List UInt8)} (h : ls.length = 3) : ∃ a b c, ls = [a, b, c] := by
  match ls, h with
  | [a, b, c], _ => exact ⟨a, b, c, rfl⟩
theorem one_of {ls : List (List UInt8)} (h : ls.length = 1) : ∃ a, ls = [a] := by
  match ls, h with
  | [a], _ => exact ⟨a, rfl⟩
/-- A TAKEN LINE IS THE ONE THAT IS WRITTEN OF ITS ENTRY. -/
theorem written_read {s : ByteArray} (he : (lineS (wordsB s)).err = 0) : Meant (lineS (wordsB s)) ∧ strB (writW (lineS (wordsB s))) = s := by
  rw [words_ref] at he ⊢
  generalize hM : (if (Lib.cut s.data.toList [32]).1 = insertB then 3 else s.size) = M at he ⊢
  clear hM
  generalize hE : lineS ((pcs M [] s.data.toList).map ofL) = e at he ⊢
  obtain ⟨i, ts, hi, hl, hent⟩ := lineS_inv hE he
  have hfin : ∀ {w : List UInt8}, w = joinS ((vWords.getD i ByteArray.empty).data.toList :: ts) → strB w = s := by
    intro w hw
    rw [hw, ← hl]
    exact ofL_data s
  clear hE
  obtain ⟨hlen, r, hrun, hw, rfl⟩ := entry_inv hent he
  clear hent he
  have hcases : i = 0 ∨ i = 1 ∨ i = 2 ∨ (i = 3 ∨ i = 4 ∨ i = 5) ∨ i = 6 ∨ (i = 7 ∨ i = 8 ∨ i = 10) ∨ (i = 9 ∨ i = 11) ∨ i = 12 := by omega
  rcases hcases with rfl | rfl | rfl | h3 | rfl | h7 | h9 | rfl
  · simp only [vForms, List.getD_cons_zero] at hlen hrun
    obtain ⟨t1, t2, t3, rfl⟩ := three_of hlen
    obtain ⟨e1, s1, hrun⟩ := run_cons hrun
    obtain ⟨e2, s2, hrun⟩ := run_cons hrun
    obtain ⟨e3, s3, hrun⟩ := run_cons hrun
    obtain rfl := run_nil hrun
    obtain ⟨n, rfl, rfl⟩ := num_inv (by decide) (by decide) s1
    obtain ⟨a, rfl, rfl⟩ := num_inv (by decide) (by decide) s2
    obtain ⟨ch, hch, rfl, rfl⟩ := ch_inv s3
    simp [enPut, st0, lows, mosts] at hw
    simp only [enPut, st0, Nat.zero_le, if_true, show ¬ (2 ≤ 1) by decide, if_false]
    refine ⟨Meant.ins n a ch (by omega) (by omega) (by omega) (by omega) (by omega), hfin ?_⟩
    simp [writW, tailW, numsW, itoa_dd, joinS]
  · simp only [vForms, List.getD_cons_zero, List.getD_cons_succ] at hlen hrun
    obtain ⟨t1, t2, rfl⟩ := two_of hlen
    obtain ⟨e1, s1, hrun⟩ := run_cons hrun
    obtain ⟨e2, s2, hrun⟩ := run_cons hrun
    obtain rfl := run_nil hrun
    obtain ⟨n, rfl, rfl⟩ := num_inv (by decide) (by decide) s1
    obtain ⟨a, rfl, rfl⟩ := num_inv (by decide) (by decide) s2
    simp [enPut, st0, lows, mosts] at hw
    simp only [enPut, st0, Nat.zero_le, if_true, show ¬ (2 ≤ 1) by decide, if_false]
    refine ⟨Meant.del n a (by omega) (by omega) (by omega), hfin ?_⟩
    simp [writW, tailW, numsW, itoa_dd, joinS]
  · simp only [vForms, List.getD_cons_zero, List.getD_cons_succ] at hlen hrun
    obtain ⟨t1, rfl⟩ := one_of hlen
    obtain ⟨e1, s1, hrun⟩ := run_cons hrun
    obtain rfl := run_nil hrun
    obtain ⟨n, rfl, rfl⟩ := num_inv (by decide) (by decide) s1
    simp [enPut, st0, lows, mosts] at hw
    simp only [enPut, st0, Nat.le_refl, if_true]
    refine ⟨Meant.tick n (by omega), hfin ?_⟩
    simp [writW, tailW, numsW, itoa_dd, joinS]
  · rcases h3 with rfl | rfl | rfl <;>
    · simp only [vForms, List.getD_cons_zero, List.getD_cons_succ] at hlen hrun
      obtain ⟨t1, rfl⟩ := one_of hlen
      obtain ⟨e1, s1, hrun⟩ := run_cons hrun
      obtain rfl := run_nil hrun
      obtain ⟨n, rfl, rfl⟩ := num_inv (by decide) (by decide) s1
      simp [enPut, st0, lows, mosts] at hw
      simp only [enPut, st0, show ¬ (3 ≤ 1) by decide, if_false, if_true]
      refine ⟨Meant.fly _ n (by decide) (by omega), hfin ?_⟩
      simp [writW, tailW, numsW, itoa_dd, joinS]
  · simp only [vForms, List.getD_cons_zero, List.getD_cons_succ] at hlen hrun
    obtain ⟨t1, t2, t3, rfl⟩ := three_of hlen
    obtain ⟨e1, s1, hrun⟩ := run_cons hrun
    obtain ⟨e2, s2, hrun⟩ := run_cons hrun
    obtain ⟨e3, s3, hrun⟩ := run_cons hrun
    obtain rfl := run_nil hrun
    obtain ⟨a, rfl, rfl⟩ := num_inv (by decide) (by decide) s1
    obtain ⟨b, rfl, rfl⟩ := num_inv (by decide) (by decide) s2
    obtain ⟨c, rfl, rfl⟩ := num_inv (by decide) (by decide) s3
    simp [enPut, st0, lows, mosts] at hw
    simp only [enPut, st0, show ¬ (3 ≤ 1) by decide, show ¬ (4 ≤ 1) by decide, show ¬ (5 ≤ 1) by decide, show ¬ (1 = 0) by decide, show ¬ (2 = 0) by decide, show ¬ (2 = 1) by decide, if_false, if_true]
    refine ⟨Meant.flip a b c (by omega) (by omega) (by omega) (by omega), hfin ?_⟩
    simp [writW, tailW, numsW, itoa_dd, joinS]
  · rcases h7 with rfl | rfl | rfl <;>
    · simp only [vForms, List.getD_cons_zero, List.getD_cons_succ] at hlen hrun
      obtain rfl := List.eq_nil_of_length_eq_zero hlen
      obtain rfl := run_nil hrun
      refine ⟨Meant.bare _ (by decide), hfin ?_⟩
      simp [writW, tailW, joinS]
  · rcases h9 with rfl | rfl <;>
    · simp only [vForms, List.getD_cons_zero, List.getD_cons_succ] at hlen hrun
      obtain ⟨t1, t2, t3, rfl⟩ := three_of hlen
      obtain ⟨e1, s1, hrun⟩ := run_cons hrun
      obtain ⟨e2, s2, hrun⟩ := run_cons hrun
      obtain ⟨e3, s3, hrun⟩ := run_cons hrun
      obtain rfl := run_nil hrun
      obtain ⟨a, rfl, rfl⟩ := num_inv (by decide) (by decide) s1
      obtain ⟨b, rfl, rfl⟩ := num_inv (by decide) (by decide) s2
      obtain ⟨c, rfl, rfl⟩ := num_inv (by decide) (by decide) s3
      simp [enPut, st0, lows, mosts] at hw
      simp only [enPut, st0, show ¬ (6 ≤ 1) by decide, show ¬ (7 ≤ 1) by decide, show ¬ (1 = 0) by decide, show ¬ (2 = 0) by decide, show ¬ (2 = 1) by decide, if_false, if_true]
      refine ⟨Meant.disk _ a b c (by decide) (by omega) (by omega) (by omega), hfin ?_⟩
      simp [writW, tailW, numsW, itoa_dd, joinS]
  · simp only [vForms, List.getD_cons_zero, List.getD_cons_succ] at hlen hrun
    obtain ⟨t1, t2, rfl⟩ := two_of hlen
    obtain ⟨e1, s1, hrun⟩ := run_cons hrun
    obtain ⟨e2, s2, hrun⟩ := run_cons hrun
    obtain rfl := run_nil hrun
    obtain ⟨n, rfl, rfl⟩ := num_inv (by decide) (by decide) s1
    obtain ⟨bs, rfl, hbs, rfl⟩ := hex_inv s2
    simp [enPut, st0, lows, mosts] at hw
    simp only [enPut, st0, Nat.le_refl, if_true]
    refine ⟨Meant.forge n bs (by omega) (by omega) hbs, hfin ?_⟩
    simp [writW, tailW, numsW, itoa_dd, joinS]

end Go.Proofs.YtbjkljmhhpoooaaDoor
