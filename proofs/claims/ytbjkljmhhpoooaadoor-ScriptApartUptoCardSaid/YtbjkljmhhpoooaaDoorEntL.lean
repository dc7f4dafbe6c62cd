/- What jotterlaw15.entry makes of any entry: one that a line means. -/
import Derived.Test.YtbjkljmhhpoooaaDoorWith
import Derived.Test.YtbjkljmhhpoooaaDoorAlkG
import Derived.Laws.AppendOwnNone
import Derived.Laws.AppendOwn
namespace Go.Proofs.YtbjkljmhhpoooaaDoor
open Go.RowKit
set_option linter.unusedVariables false

/-- any entry -/
structure RawE where
  k : Int
  s : Int
  a : Int
  b : Int
  c : Int
  ch : Int
  er : Int
  bs : List Nat
def i64 (x : Int) : Prop := -9223372036854775808 ≤ x ∧ x ≤ 9223372036854775807
structure RawE.Ok (R : RawE) : Prop where
  k : i64 R.k
  s : i64 R.s
  a : i64 R.a
  b : i64 R.b
  c : i64 R.c
  ch0 : 0 ≤ R.ch
  ch1 : R.ch ≤ 255
  bs : ∀ x ∈ R.bs, x < 256
  len : R.bs.length ≤ 9223372036854775807
def rawArr (R : RawE) (A : Option Addr) (cap : Nat) : Array Value := #[.int .i64 R.k, .int .i64 R.s, .int .i64 R.a, .int .i64 R.b, .int .i64 R.c, .int .u8 R.ch, .slice A R.bs.length cap, .int .i64 R.er]

/-- bytes that are read, wherever they lie -/
def BytesRd (w : World) (A : Option Addr) (bs : List Nat) : Prop :=
  (A = none ∧ bs = []) ∨ ∃ ad, A = some ad ∧ ∀ j, j < bs.length → w.cell? (ad.add j) = some (.int .u8 ((bs.getD j 0 : Nat) : Int))
theorem bytesRd_below {w w' : World} {A : Option Addr} {bs : List Nat} (h : BytesRd w A bs) (hb : Below w.heap.size w w') : BytesRd w' A bs := by
  rcases h with h | ⟨ad, h1, h3⟩
  · exact .inl h
  · exact .inr ⟨ad, h1, fun j hj => (hb.cell (World.block_lt_of_cell? w _ (h3 j hj))).trans (h3 j hj)⟩

theorem wpList_append_bytes {w : World} {ops : Array Oper} {rest : List Oper} {o : Oper} {a : Act} {Q : Exit → Act → World → Prop} (hgd : o.guard = none) (s x : Operand)
    (ho : o.op = .call { callee := .builtin .append, args := #[s, x], argTypes := #[22, 22] }) {lo : Nat} {v : Value} (hs : a.eval s = v) (hv : w.ownsRow lo 5 1 v 0 []) (hlo : lo ≤ w.heap.size)
    {A : Option Addr} {m c : Nat} (bs : List Nat) (hx : a.eval x = .slice A m c) (hm : m = bs.length) (hA : A = none → c = 0) (hb : BytesRd w A bs) (hn : bs.length ≤ 1099511627776)
    (h : ∀ v' w', w'.ownsRow lo 5 1 v' bs.length (u8s bs) → w.grownBy w' v.ownBlock → wpList Tryd.prog ops Q rest (a.put o.dst v') w') : wpList Tryd.prog ops Q (o :: rest) a w := by
  subst hm
  obtain ⟨i0, hi0, he0⟩ := Option.map_eq_some_iff.1 info_u8
  injection he0 with hz0 he0
  injection he0 with hz1 hz2
  rcases hb with ⟨rfl, rfl⟩ | ⟨ad, rfl, hc⟩
  · obtain rfl := hA rfl
    exact wpList_append_own_none hgd s x 22 ho lo 5 i0 1 Tryd.underlying22 hi0 v 0 [] hs hv hx (h v w hv (World.grownBy.refl w _))
  · refine wpList_append_own w hgd s x 22 ho lo 5 i0 (.int .u8 0) 1 1 Tryd.underlying22 hi0 hz0 hz1 hz2 rfl (by decide) v 0 [] hs hv ad bs.length c (u8s bs) hx (by simp [u8s]) (fun j u hu => ?_) (fun u hu => ?_) (by unfold maxLen; omega) (by omega) hlo fun v' w' h1 h2 _ => h v' w' (by simpa using h1) h2
    · have hj : j < bs.length := by have := (List.getElem?_eq_some_iff.1 hu).1; simpa [u8s] using this
      rw [hc j hj]
      simp only [u8s, List.getElem?_map, List.getElem?_eq_getElem hj, Option.map_some, Option.some.injEq] at hu
      rw [← hu]
      simp [List.getD_eq_getElem?_getD, List.getElem?_eq_getElem hj]
    · obtain ⟨y, _, rfl⟩ := List.mem_map.1 hu
      rfl
theorem within_nat (v : Int) (lo hi : Nat) (hv : i64 v) (h1 : lo ≤ hi) (h2 : hi ≤ 1000000) (w : World) :
    Calls Tryd.prog 12 #[.int .i64 v, .int .i64 lo, .int .i64 hi] w fun e w' => ∃ n : Nat, e = .returned (.int .i64 (n : Int)) ∧ lo ≤ n ∧ n ≤ hi ∧ w' = w := by
  refine (within_calls v lo hi hv.1 hv.2 (by omega) (by omega) (by omega) w).mono ?_
  rintro e w' ⟨rfl, rfl⟩
  have := within_in v lo hi (by omega)
  exact ⟨(withinS v lo hi).toNat, ret_int (by omega), by omega, by omega, rfl⟩
set_option maxRecDepth 100000 in
theorem law_entry_fin (w : World) (C0 C2 : Array Value) (E : Ent) (hE : Meant E) (A : Option Addr) (c : Nat) {T : Array Value} (ho : World.ownsRow (((w.alloc (.cells C0 25)).alloc (.cells (entArr E A c) 25)).alloc (.cells C2 25)) w.heap.size 5 1 (.slice A E.by_.length c) E.by_.length (u8s E.by_))
    (hT : T.getD 2 undef = .pointer (some ⟨w.heap.size + 1, 0, none⟩)) {W : World} (hW : W = (((w.alloc (.cells C0 25)).alloc (.cells (entArr E A c) 25)).alloc (.cells C2 25))) :
    bodyPost Tryd.prog Tryd.f13 (fun e w' => ∃ E, Meant E ∧ EntRet w.heap.size w E e w') Exit.ret ⟨T, []⟩ W := by
  subst hW
  refine bodyPost_ret (v := .agg (entArr E A c)) (results_cell Tryd.results13 hT (alloc_old (alloc_at (by simp))) (by kernel_rfl) (by kernel_rfl)) rfl ?_
  exact ⟨E, hE, _, rfl, ⟨_, rfl, ho⟩, (((Below.refl _ w).alloc (Nat.le_refl _) _).alloc (by simp) _).alloc (by simp; omega) _⟩
set_option maxRecDepth 100000 in
set_option maxHeartbeats 2000000 in
theorem law_entry (R : RawE) (hR : R.Ok) (A : Option Addr) (cap : Nat) (w : World) (hc : R.bs.length ≤ cap) (hcap : A = none → cap = 0) (hb : BytesRd w A R.bs) :
    Calls Tryd.prog 13 #[.agg (rawArr R A cap)] w fun e w' => ∃ E, Meant E ∧ EntRet w.heap.size w E e w' := by
  go_enter Tryd.func13, Tryd.ntmps13
  obtain ⟨k, s, a, b, c, ch, er, bs⟩ := R
  obtain ⟨hk, hs, ha, hb', hc', hch0, hch1, hbs, hlen⟩ := hR
  dsimp only at hk hs ha hb' hc' hch0 hch1 hbs hlen hc hb
  unfold rawArr
  dsimp only
  have hch : i64 ch := ⟨by omega, by omega⟩
  have HB := Lib.hid hb
  have HBS := Lib.hid hbs
  clear hb hbs
  go_wp2_with fail
  refine (within_nat k 1 13 hk (by decide) (by decide) _).mono ?_
  rintro e' w' ⟨K, rfl, hK1, hK13, rfl⟩
  have hcases : K = 1 ∨ K = 2 ∨ K = 3 ∨ K = 4 ∨ K = 5 ∨ K = 6 ∨ K = 7 ∨ K = 8 ∨ K = 9 ∨ K = 10 ∨ K = 11 ∨ K = 12 ∨ K = 13 := by omega
  clear hK1 hK13
  rcases hcases with rfl | rfl | rfl | rfl | rfl | rfl | rfl | rfl | rfl | rfl | rfl | rfl | rfl
  · go_wp2_with fail
    refine (within_nat s 1 64 hs (by decide) (by decide) _).mono ?_
    rintro e' w' ⟨n1, rfl, l1, u1, rfl⟩
    go_wp2_with fail
    refine (within_nat a 0 4095 ha (by decide) (by decide) _).mono ?_
    rintro e' w' ⟨n2, rfl, l2, u2, rfl⟩
    go_wp2_with fail
    refine (within_nat ch 32 126 hch (by decide) (by decide) _).mono ?_
    rintro e' w' ⟨n3, rfl, l3, u3, rfl⟩
    go_wp2_with fail
    exact law_entry_fin w _ _ ⟨1, n1, n2, 0, 0, n3, [], 0⟩ (Meant.ins n1 n2 n3 l1 u1 u2 l3 u3) none 0 (own_nil0 _ _ _ _) rfl rfl
  · go_wp2_with fail
    refine (within_nat s 1 64 hs (by decide) (by decide) _).mono ?_
    rintro e' w' ⟨n1, rfl, l1, u1, rfl⟩
    go_wp2_with fail
    refine (within_nat a 0 4095 ha (by decide) (by decide) _).mono ?_
    rintro e' w' ⟨n2, rfl, l2, u2, rfl⟩
    go_wp2_with fail
    exact law_entry_fin w _ _ ⟨2, n1, n2, 0, 0, 0, [], 0⟩ (Meant.del n1 n2 l1 u1 u2) none 0 (own_nil0 _ _ _ _) rfl rfl
  · go_wp2_with fail
    refine (within_nat s 0 64 hs (by decide) (by decide) _).mono ?_
    rintro e' w' ⟨n1, rfl, l1, u1, rfl⟩
    go_wp2_with fail
    exact law_entry_fin w _ _ ⟨3, n1, 0, 0, 0, 0, [], 0⟩ (Meant.tick n1 u1) none 0 (own_nil0 _ _ _ _) rfl rfl
  · go_wp2_with fail
    refine (within_nat a 0 2047 ha (by decide) (by decide) _).mono ?_
    rintro e' w' ⟨n1, rfl, l1, u1, rfl⟩
    go_wp2_with fail
    exact law_entry_fin w _ _ ⟨4, 0, n1, 0, 0, 0, [], 0⟩ (Meant.fly 4 n1 (by decide) u1) none 0 (own_nil0 _ _ _ _) rfl rfl
  · go_wp2_with fail
    refine (within_nat a 0 2047 ha (by decide) (by decide) _).mono ?_
    rintro e' w' ⟨n1, rfl, l1, u1, rfl⟩
    go_wp2_with fail
    exact law_entry_fin w _ _ ⟨5, 0, n1, 0, 0, 0, [], 0⟩ (Meant.fly 5 n1 (by decide) u1) none 0 (own_nil0 _ _ _ _) rfl rfl
  · go_wp2_with fail
    refine (within_nat a 0 2047 ha (by decide) (by decide) _).mono ?_
    rintro e' w' ⟨n1, rfl, l1, u1, rfl⟩
    go_wp2_with fail
    exact law_entry_fin w _ _ ⟨6, 0, n1, 0, 0, 0, [], 0⟩ (Meant.fly 6 n1 (by decide) u1) none 0 (own_nil0 _ _ _ _) rfl rfl
  · go_wp2_with fail
    refine (within_nat a 0 2047 ha (by decide) (by decide) _).mono ?_
    rintro e' w' ⟨n1, rfl, l1, u1, rfl⟩
    go_wp2_with fail
    refine (within_nat b 0 63 hb' (by decide) (by decide) _).mono ?_
    rintro e' w' ⟨n2, rfl, l2, u2, rfl⟩
    go_wp2_with fail
    refine (within_nat c 1 255 hc' (by decide) (by decide) _).mono ?_
    rintro e' w' ⟨n3, rfl, l3, u3, rfl⟩
    go_wp2_with fail
    exact law_entry_fin w _ _ ⟨7, 0, n1, n2, n3, 0, [], 0⟩ (Meant.flip n1 n2 n3 u1 u2 l3 u3) none 0 (own_nil0 _ _ _ _) rfl rfl
  · go_wp2_with fail
    exact law_entry_fin w _ _ ⟨8, 0, 0, 0, 0, 0, [], 0⟩ (Meant.bare 8 (by decide)) none 0 (own_nil0 _ _ _ _) rfl rfl
  · go_wp2_with fail
    exact law_entry_fin w _ _ ⟨9, 0, 0, 0, 0, 0, [], 0⟩ (Meant.bare 9 (by decide)) none 0 (own_nil0 _ _ _ _) rfl rfl
  · go_wp2_with fail
    refine (within_nat a 0 262144 ha (by decide) (by decide) _).mono ?_
    rintro e' w' ⟨n1, rfl, l1, u1, rfl⟩
    go_wp2_with fail
    refine (within_nat b 0 262144 hb' (by decide) (by decide) _).mono ?_
    rintro e' w' ⟨n2, rfl, l2, u2, rfl⟩
    go_wp2_with fail
    refine (within_nat c 0 255 hc' (by decide) (by decide) _).mono ?_
    rintro e' w' ⟨n3, rfl, l3, u3, rfl⟩
    go_wp2_with fail
    exact law_entry_fin w _ _ ⟨10, 0, n1, n2, n3, 0, [], 0⟩ (Meant.disk 10 n1 n2 n3 (by decide) u1 u2 u3) none 0 (own_nil0 _ _ _ _) rfl rfl
  · go_wp2_with fail
    exact law_entry_fin w _ _ ⟨11, 0, 0, 0, 0, 0, [], 0⟩ (Meant.bare 11 (by decide)) none 0 (own_nil0 _ _ _ _) rfl rfl
  · go_wp2_with fail
    refine (within_nat a 0 262144 ha (by decide) (by decide) _).mono ?_
    rintro e' w' ⟨n1, rfl, l1, u1, rfl⟩
    go_wp2_with fail
    refine (within_nat b 0 262144 hb' (by decide) (by decide) _).mono ?_
    rintro e' w' ⟨n2, rfl, l2, u2, rfl⟩
    go_wp2_with fail
    refine (within_nat c 0 255 hc' (by decide) (by decide) _).mono ?_
    rintro e' w' ⟨n3, rfl, l3, u3, rfl⟩
    go_wp2_with fail
    exact law_entry_fin w _ _ ⟨12, 0, n1, n2, n3, 0, [], 0⟩ (Meant.disk 12 n1 n2 n3 (by decide) u1 u2 u3) none 0 (own_nil0 _ _ _ _) rfl rfl
  · go_wp2_with fail
    refine (within_nat s 0 64 hs (by decide) (by decide) _).mono ?_
    rintro e' w' ⟨n1, rfl, l1, u1, rfl⟩
    have hcI : (bs.length : Int) ≤ (cap : Int) := by omega
    have hA0 : A = none ∨ ∃ ad : Addr, A = some ad ∧ ∀ j, j < bs.length → w.cell? (ad.add j) = some (.int .u8 ((bs.getD j 0 : Nat) : Int)) := by
      rcases HB.out with ⟨h, _⟩ | ⟨ad, h, h3⟩
      · exact .inl h
      · exact .inr ⟨ad, h, h3⟩
    rcases hA0 with rfl | ⟨⟨b0, o0, sp⟩, rfl, hbc0⟩
    · obtain rfl := hcap rfl
      obtain rfl : bs = [] := List.eq_nil_of_length_eq_zero (by omega)
      clear hcap hcI
      go_wp2_with fail
      refine bodyPost_ret (v := .agg (entArr ⟨13, n1, 0, 0, 0, 0, [], 0⟩ (some ⟨w.heap.size + 1 + 1 + 1, 0, none⟩) 0)) (results_cell Tryd.results13 rfl (alloc_old (alloc_old (alloc_at (by simp)))) (by kernel_rfl) (by kernel_rfl)) rfl ?_
      refine ⟨⟨13, n1, 0, 0, 0, 0, [], 0⟩, Meant.forge n1 [] u1 (by decide) (by decide), _, rfl, ⟨_, rfl, rfl, .inr ⟨_, 0, #[], rfl, by omega, alloc_at (by simp), Nat.le_refl _, Nat.zero_le _, rfl, rfl⟩⟩, ?_⟩
      exact ((((Below.refl _ w).alloc (Nat.le_refl _) _).alloc (by simp) _).alloc (by simp; omega) _).alloc (by simp; omega) _
    by_cases h64 : 64 < bs.length
    · skip
      have h64' : (64 : Int) < (bs.length : Int) := by omega
      have hc64 : (64 : Int) ≤ (cap : Int) := by omega
      obtain ⟨bs', hbs', hL, hbt⟩ : ∃ bs' : List Nat, (∀ x ∈ bs', x < 256) ∧ 64 = bs'.length ∧ BytesRd w (some ⟨b0, o0, sp⟩) bs' := by
        refine ⟨bs.take 64, fun x hx => HBS.out x (List.mem_of_mem_take hx), by rw [List.length_take]; omega, .inr ⟨⟨b0, o0, sp⟩, rfl, fun j hj => ?_⟩⟩
        rw [List.length_take] at hj
        rw [hbc0 j (by omega)]
        simp [List.getD_eq_getElem?_getD, show j < 64 by omega]
      clear hbc0
      have hbw : Below w.heap.size w ((((w.alloc (.cells (rawArr ⟨k, s, a, b, c, ch, er, bs⟩ (some ⟨b0, o0, sp⟩) cap) 25)).alloc (.cells zeroCells8 25)).alloc (.cells (entArr ⟨13, n1, 0, 0, 0, 0, [], 0⟩ none 0) 25)).alloc (.cells #[] 5)) :=
        ((((Below.refl _ w).alloc (Nat.le_refl _) _).alloc (by simp) _).alloc (by simp; omega) _).alloc (by simp; omega) _
      have hgb : ((((w.alloc (.cells (rawArr ⟨k, s, a, b, c, ch, er, bs⟩ (some ⟨b0, o0, sp⟩) cap) 25)).alloc (.cells zeroCells8 25)).alloc (.cells (entArr ⟨13, n1, 0, 0, 0, 0, [], 0⟩ none 0) 25)).alloc (.cells #[] 5)).heap[w.heap.size + 1 + 1]? = some (.cells (entArr ⟨13, n1, 0, 0, 0, 0, [], 0⟩ none 0) 25 (0, 0)) := alloc_old (alloc_at (by simp))
      have hrb : ((((w.alloc (.cells (rawArr ⟨k, s, a, b, c, ch, er, bs⟩ (some ⟨b0, o0, sp⟩) cap) 25)).alloc (.cells zeroCells8 25)).alloc (.cells (entArr ⟨13, n1, 0, 0, 0, 0, [], 0⟩ none 0) 25)).alloc (.cells #[] 5)).heap[w.heap.size + 1]? = some (.cells zeroCells8 25 (0, 0)) := alloc_old (alloc_old (alloc_at (by simp)))
      have hob : World.ownsRow ((((w.alloc (.cells (rawArr ⟨k, s, a, b, c, ch, er, bs⟩ (some ⟨b0, o0, sp⟩) cap) 25)).alloc (.cells zeroCells8 25)).alloc (.cells (entArr ⟨13, n1, 0, 0, 0, 0, [], 0⟩ none 0) 25)).alloc (.cells #[] 5)) (w.heap.size + 1 + 1 + 1) 5 1 (.slice (some ⟨w.heap.size + 1 + 1 + 1, 0, none⟩) 0 0) 0 [] :=
        ⟨rfl, .inr ⟨_, 0, #[], rfl, Nat.le_refl _, alloc_at (by simp), Nat.le_refl _, Nat.zero_le _, rfl, rfl⟩⟩
      have hsz : w.heap.size + 1 + 1 + 1 < ((((w.alloc (.cells (rawArr ⟨k, s, a, b, c, ch, er, bs⟩ (some ⟨b0, o0, sp⟩) cap) 25)).alloc (.cells zeroCells8 25)).alloc (.cells (entArr ⟨13, n1, 0, 0, 0, 0, [], 0⟩ none 0) 25)).alloc (.cells #[] 5)).heap.size := by simp
      have HBW := Lib.hid hbw
      have HGB := Lib.hid hgb
      have HRB := Lib.hid hrb
      have HOB := Lib.hid hob
      have HSZ := Lib.hid hsz
      have HBT := Lib.hid (bytesRd_below hbt hbw)
      have HL := Lib.hid hL
      have HBS' := Lib.hid hbs'
      have hl64 : bs'.length ≤ 64 := by omega
      have HL64 := Lib.hid hl64
      have hll : bs'.length ≤ 1099511627776 := by omega
      have HLL := Lib.hid hll
      clear hbw hgb hrb hob hsz hbt hL hbs' hcap hl64 hll
      go_wp2_with (first | (at_builtin; go_loud (refine wpList_append_bytes rfl (.tmp 83) (.tmp 87) rfl (lo := w.heap.size + 1 + 1 + 1) rfl HOB.out (Nat.le_of_lt HSZ.out) (A := some ⟨b0, o0, sp⟩) (m := 64) (c := cap) bs' rfl HL.out (fun h => by cases h) HBT.out HLL.out ?_; intro v6 w6 hown6 hg6; obtain ⟨A6, c6, rfl⟩ := own_form hown6; have hG6 := (hg6.block (w.heap.size + 1 + 1) (Nat.lt_of_succ_lt HSZ.out) (by intro e; have e : _ = w.heap.size + 1 + 1 + 1 := Option.some.inj e; omega)).trans HGB.out; have hR6 := (hg6.block (w.heap.size + 1) (Nat.lt_of_succ_lt (Nat.lt_of_succ_lt HSZ.out)) (by intro e; have e : _ = w.heap.size + 1 + 1 + 1 := Option.some.inj e; omega)).trans HRB.out; have hBW6 : Below w.heap.size w w6 := HBW.out.trans ⟨hg6.os, hg6.tape, hg6.output, hg6.size, fun k hk => hg6.block k (Nat.lt_trans hk (Nat.lt_of_succ_lt (Nat.lt_of_succ_lt (Nat.lt_of_succ_lt HSZ.out)))) (by intro e; have e : _ = w.heap.size + 1 + 1 + 1 := Option.some.inj e; omega)⟩; have hg6c := cell_of_heap (i := 6) hG6 (v := .slice none 0 0) rfl; have hg6f : w6.frozen? ⟨w.heap.size + 1 + 1, 6, none⟩ = false := frozen_of_heap hG6; have HG := Lib.hid (show (w6.setCell ⟨w.heap.size + 1 + 1, 6, none⟩ (.slice A6 bs'.length c6)).heap[w.heap.size + 1 + 1]? = some (.cells (entArr ⟨13, n1, 0, 0, 0, 0, bs', 0⟩ A6 c6) 25 (0, 0)) from heap_set_same hG6); have HR := Lib.hid (show (w6.setCell ⟨w.heap.size + 1 + 1, 6, none⟩ (.slice A6 bs'.length c6)).heap[w.heap.size + 1]? = some (.cells zeroCells8 25 (0, 0)) from (heap_set_other (by omega)).trans hR6); have HOWN := Lib.hid (own_set (i := 6) (u := .slice A6 bs'.length c6) hown6 (show w.heap.size + 1 + 1 < w.heap.size + 1 + 1 + 1 by omega)); have HBW6 := Lib.hid (hBW6.setCell (p := ⟨w.heap.size + 1 + 1, 6, none⟩) (show w.heap.size ≤ w.heap.size + 1 + 1 by omega) (.slice A6 bs'.length c6)); have hblk := own_from hown6; have HBLK := Lib.hid hblk; clear hg6 hG6 hR6 hBW6 hown6 hblk)) | (refine wpList_load_block rfl 25 _ rfl (w.heap.size + 1 + 1) _ _ rfl HG.out (by kernel_rfl) (by kernel_rfl) ?_) | (refine wpList_store_block rfl 25 _ _ rfl (w.heap.size + 1) _ zeroCells8 _ rfl rfl HR.out rfl (by kernel_rfl) rfl ?_; intro w8 hw8))
      refine bodyPost_ret (v := .agg (entArr ⟨13, n1, 0, 0, 0, 0, bs', 0⟩ A6 c6)) (results_cell Tryd.results13 rfl hw8.at_ (by kernel_rfl) (by kernel_rfl)) rfl ?_
      refine ⟨⟨13, n1, 0, 0, 0, 0, bs', 0⟩, Meant.forge n1 bs' u1 HL64.out HBS'.out, _, rfl, ⟨_, rfl, own_mono (hw8.own HOWN.out ?_) (by omega)⟩, HBW6.out.trans (hw8.below (by omega))⟩
      intro e
      have := HBLK.out _ e.symm
      omega
    · skip
      have h64' : ¬ (64 : Int) < (bs.length : Int) := by omega
      obtain ⟨bs', hbs', hL, hbt⟩ : ∃ bs' : List Nat, (∀ x ∈ bs', x < 256) ∧ bs.length = bs'.length ∧ BytesRd w (some ⟨b0, o0, sp⟩) bs' := ⟨bs, HBS.out, rfl, HB.out⟩
      clear hbc0
      have hbw : Below w.heap.size w ((((w.alloc (.cells (rawArr ⟨k, s, a, b, c, ch, er, bs⟩ (some ⟨b0, o0, sp⟩) cap) 25)).alloc (.cells zeroCells8 25)).alloc (.cells (entArr ⟨13, n1, 0, 0, 0, 0, [], 0⟩ none 0) 25)).alloc (.cells #[] 5)) :=
        ((((Below.refl _ w).alloc (Nat.le_refl _) _).alloc (by simp) _).alloc (by simp; omega) _).alloc (by simp; omega) _
      have hgb : ((((w.alloc (.cells (rawArr ⟨k, s, a, b, c, ch, er, bs⟩ (some ⟨b0, o0, sp⟩) cap) 25)).alloc (.cells zeroCells8 25)).alloc (.cells (entArr ⟨13, n1, 0, 0, 0, 0, [], 0⟩ none 0) 25)).alloc (.cells #[] 5)).heap[w.heap.size + 1 + 1]? = some (.cells (entArr ⟨13, n1, 0, 0, 0, 0, [], 0⟩ none 0) 25 (0, 0)) := alloc_old (alloc_at (by simp))
      have hrb : ((((w.alloc (.cells (rawArr ⟨k, s, a, b, c, ch, er, bs⟩ (some ⟨b0, o0, sp⟩) cap) 25)).alloc (.cells zeroCells8 25)).alloc (.cells (entArr ⟨13, n1, 0, 0, 0, 0, [], 0⟩ none 0) 25)).alloc (.cells #[] 5)).heap[w.heap.size + 1]? = some (.cells zeroCells8 25 (0, 0)) := alloc_old (alloc_old (alloc_at (by simp)))
      have hob : World.ownsRow ((((w.alloc (.cells (rawArr ⟨k, s, a, b, c, ch, er, bs⟩ (some ⟨b0, o0, sp⟩) cap) 25)).alloc (.cells zeroCells8 25)).alloc (.cells (entArr ⟨13, n1, 0, 0, 0, 0, [], 0⟩ none 0) 25)).alloc (.cells #[] 5)) (w.heap.size + 1 + 1 + 1) 5 1 (.slice (some ⟨w.heap.size + 1 + 1 + 1, 0, none⟩) 0 0) 0 [] :=
        ⟨rfl, .inr ⟨_, 0, #[], rfl, Nat.le_refl _, alloc_at (by simp), Nat.le_refl _, Nat.zero_le _, rfl, rfl⟩⟩
      have hsz : w.heap.size + 1 + 1 + 1 < ((((w.alloc (.cells (rawArr ⟨k, s, a, b, c, ch, er, bs⟩ (some ⟨b0, o0, sp⟩) cap) 25)).alloc (.cells zeroCells8 25)).alloc (.cells (entArr ⟨13, n1, 0, 0, 0, 0, [], 0⟩ none 0) 25)).alloc (.cells #[] 5)).heap.size := by simp
      have HBW := Lib.hid hbw
      have HGB := Lib.hid hgb
      have HRB := Lib.hid hrb
      have HOB := Lib.hid hob
      have HSZ := Lib.hid hsz
      have HBT := Lib.hid (bytesRd_below hbt hbw)
      have HL := Lib.hid hL
      have HBS' := Lib.hid hbs'
      have hl64 : bs'.length ≤ 64 := by omega
      have HL64 := Lib.hid hl64
      have hll : bs'.length ≤ 1099511627776 := by omega
      have HLL := Lib.hid hll
      clear hbw hgb hrb hob hsz hbt hL hbs' hcap hl64 hll
      go_wp2_with (first | (at_builtin; go_loud (refine wpList_append_bytes rfl (.tmp 83) (.tmp 87) rfl (lo := w.heap.size + 1 + 1 + 1) rfl HOB.out (Nat.le_of_lt HSZ.out) (A := some ⟨b0, o0, sp⟩) (m := bs.length) (c := cap) bs' rfl HL.out (fun h => by cases h) HBT.out HLL.out ?_; intro v6 w6 hown6 hg6; obtain ⟨A6, c6, rfl⟩ := own_form hown6; have hG6 := (hg6.block (w.heap.size + 1 + 1) (Nat.lt_of_succ_lt HSZ.out) (by intro e; have e : _ = w.heap.size + 1 + 1 + 1 := Option.some.inj e; omega)).trans HGB.out; have hR6 := (hg6.block (w.heap.size + 1) (Nat.lt_of_succ_lt (Nat.lt_of_succ_lt HSZ.out)) (by intro e; have e : _ = w.heap.size + 1 + 1 + 1 := Option.some.inj e; omega)).trans HRB.out; have hBW6 : Below w.heap.size w w6 := HBW.out.trans ⟨hg6.os, hg6.tape, hg6.output, hg6.size, fun k hk => hg6.block k (Nat.lt_trans hk (Nat.lt_of_succ_lt (Nat.lt_of_succ_lt (Nat.lt_of_succ_lt HSZ.out)))) (by intro e; have e : _ = w.heap.size + 1 + 1 + 1 := Option.some.inj e; omega)⟩; have hg6c := cell_of_heap (i := 6) hG6 (v := .slice none 0 0) rfl; have hg6f : w6.frozen? ⟨w.heap.size + 1 + 1, 6, none⟩ = false := frozen_of_heap hG6; have HG := Lib.hid (show (w6.setCell ⟨w.heap.size + 1 + 1, 6, none⟩ (.slice A6 bs'.length c6)).heap[w.heap.size + 1 + 1]? = some (.cells (entArr ⟨13, n1, 0, 0, 0, 0, bs', 0⟩ A6 c6) 25 (0, 0)) from heap_set_same hG6); have HR := Lib.hid (show (w6.setCell ⟨w.heap.size + 1 + 1, 6, none⟩ (.slice A6 bs'.length c6)).heap[w.heap.size + 1]? = some (.cells zeroCells8 25 (0, 0)) from (heap_set_other (by omega)).trans hR6); have HOWN := Lib.hid (own_set (i := 6) (u := .slice A6 bs'.length c6) hown6 (show w.heap.size + 1 + 1 < w.heap.size + 1 + 1 + 1 by omega)); have HBW6 := Lib.hid (hBW6.setCell (p := ⟨w.heap.size + 1 + 1, 6, none⟩) (show w.heap.size ≤ w.heap.size + 1 + 1 by omega) (.slice A6 bs'.length c6)); have hblk := own_from hown6; have HBLK := Lib.hid hblk; clear hg6 hG6 hR6 hBW6 hown6 hblk)) | (refine wpList_load_block rfl 25 _ rfl (w.heap.size + 1 + 1) _ _ rfl HG.out (by kernel_rfl) (by kernel_rfl) ?_) | (refine wpList_store_block rfl 25 _ _ rfl (w.heap.size + 1) _ zeroCells8 _ rfl rfl HR.out rfl (by kernel_rfl) rfl ?_; intro w8 hw8))
      refine bodyPost_ret (v := .agg (entArr ⟨13, n1, 0, 0, 0, 0, bs', 0⟩ A6 c6)) (results_cell Tryd.results13 rfl hw8.at_ (by kernel_rfl) (by kernel_rfl)) rfl ?_
      refine ⟨⟨13, n1, 0, 0, 0, 0, bs', 0⟩, Meant.forge n1 bs' u1 HL64.out HBS'.out, _, rfl, ⟨_, rfl, own_mono (hw8.own HOWN.out ?_) (by omega)⟩, HBW6.out.trans (hw8.below (by omega))⟩
      intro e
      have := HBLK.out _ e.symm
      omega
end Go.Proofs.YtbjkljmhhpoooaaDoor
