/- What written's own function returns: each number of its list is added to the text, behind a space. -/
import Derived.Test.YtbjkljmhhpoooaaDoorEnts
import Derived.Lib.LaidTab
import Derived.Lib.AppendIntMem
namespace Go.Proofs.YtbjkljmhhpoooaaDoor
open Go.RowKit
set_option linter.unusedVariables false

/-- w' is w but for block b and new blocks. -/
structure Turned (b : Nat) (w w' : World) : Prop where
  os : w'.os = w.os
  tape : w'.tape = w.tape
  output : w'.output = w.output
  size : w.heap.size ≤ w'.heap.size
  other : ∀ k, k < w.heap.size → k ≠ b → w'.heap[k]? = w.heap[k]?
theorem Turned.refl (b : Nat) (w : World) : Turned b w w := ⟨rfl, rfl, rfl, Nat.le_refl _, fun _ _ _ => rfl⟩
theorem Turned.trans {b : Nat} {w w1 w2 : World} (h : Turned b w w1) (k : Turned b w1 w2) : Turned b w w2 :=
  ⟨k.os.trans h.os, k.tape.trans h.tape, k.output.trans h.output, Nat.le_trans h.size k.size, fun i hi hb => (k.other i (Nat.lt_of_lt_of_le hi h.size) hb).trans (h.other i hi hb)⟩
theorem Turned.below {b B : Nat} {w w' : World} (h : Turned b w w') (hB : B ≤ b) (hs : B ≤ w.heap.size) : Below B w w' := ⟨h.os, h.tape, h.output, h.size, fun k hk => h.other k (by omega) (by omega)⟩
theorem Turned.of_below {b : Nat} {w w' : World} (h : Below w.heap.size w w') : Turned b w w' := ⟨h.os, h.tape, h.output, h.size, fun k hk _ => h.block k hk⟩
theorem Turned.set {b : Nat} {w w' : World} (h : Turned b w w') (i : Nat) (v : Value) : Turned b w (w'.setCell ⟨b, i, none⟩ v) :=
  ⟨h.os, h.tape, h.output, by rw [show (w'.setCell ⟨b, i, none⟩ v).heap.size = w'.heap.size by simp]; exact h.size, fun k hk hb => (heap_set_other hb).trans (h.other k hk hb)⟩
theorem Turned.get {b k : Nat} {w w' : World} (h : Turned b w w') (hk : k ≠ b) {o : Obj} (ho : w.heap[k]? = some o) : w'.heap[k]? = some o :=
  (h.other k (Array.getElem?_eq_some_iff.1 ho).1 hk).trans ho

def spB : List UInt8 := [32]
/-- the numbers as they are written -/
def numsW (ns : List Int) : List UInt8 := ns.flatMap fun n => 32 :: Lib.itoa n
def strB (l : List UInt8) : ByteArray := ⟨l.toArray⟩
theorem strB_add (a : ByteArray) (l : List UInt8) : a ++ strB l = strB (a.data.toList ++ l) := by
  apply ByteArray.ext
  simp [strB, ByteArray.data_append]

theorem numsW_nil (s : ByteArray) : s ++ strB (numsW []) = s := by
  apply ByteArray.ext
  simp [strB, numsW]
theorem numsW_step (s : ByteArray) (ns : List Int) (i : Nat) (n : Int) (hi : i < ns.length) (hn : ns.getD i 0 = n) : s ++ strB (numsW (ns.take i)) ++ (⟨#[32]⟩ ++ strB (Lib.itoa n)) = s ++ strB (numsW (ns.take (i + 1))) := by
  have hg : ns[i] = n := by rw [← hn, List.getD_eq_getElem?_getD, List.getElem?_eq_getElem hi]; rfl
  apply ByteArray.ext
  apply Array.toList_inj.1
  rw [List.take_succ_eq_append_getElem hi, hg]
  simp [strB, numsW, ByteArray.data_append]
theorem numsW_size (s : ByteArray) (ns : List Int) (i : Nat) (n : Int) (hi : i < ns.length) (hn : ns.getD i 0 = n) : (s ++ strB (numsW (ns.take i))).size + (1 + (strB (Lib.itoa n)).size) ≤ s.size + (numsW ns).length := by
  have h := numsW_step s ns i n hi hn
  have h1 : (s ++ strB (numsW (ns.take i)) ++ (⟨#[32]⟩ ++ strB (Lib.itoa n))).size = (s ++ strB (numsW (ns.take i))).size + (1 + (strB (Lib.itoa n)).size) := by rw [ByteArray.size_append, ByteArray.size_append (a := ⟨#[32]⟩)]; rfl
  have h2 : (s ++ strB (numsW (ns.take (i + 1)))).size ≤ s.size + (numsW ns).length := by
    rw [ByteArray.size_append]
    have e : (strB (numsW (ns.take (i + 1)))).size = (numsW (ns.take (i + 1))).length := rfl
    have : numsW ns = numsW (ns.take (i + 1)) ++ numsW (ns.drop (i + 1)) := by
      unfold numsW
      rw [← List.flatMap_append, List.take_append_drop]
    rw [this, List.length_append, e]
    omega
  rw [← h1, h]
  exact h2
abbrev PowAt (w : World) : Prop := Lib.TabIs Tryd.prog w "internal/strconv.uint64pow10" .u64 Lib.pow10Tab
theorem pow_lt {w : World} (h : PowAt w) : 5 < w.heap.size := by
  unfold PowAt Lib.TabIs World.var? at h
  rw [show Tryd.prog.globalNamed "internal/strconv.uint64pow10" = some 5 by kernel_rfl] at h
  simp only [Option.bind_some] at h
  split at h
  · rename_i hk
    exact (Array.getElem?_eq_some_iff.1 hk).1
  · cases h
theorem pow_same {w w' : World} (h : PowAt w) (hk : w'.heap[5]? = w.heap[5]?) : PowAt w' := by
  unfold PowAt Lib.TabIs World.var? at h ⊢
  rw [show Tryd.prog.globalNamed "internal/strconv.uint64pow10" = some 5 by kernel_rfl] at h ⊢
  simp only [Option.bind_some] at h ⊢
  rw [hk]
  exact h
theorem pow_below {w w' : World} (h : PowAt w) (hb : Below w.heap.size w w') : PowAt w' := pow_same h (hb.block _ (pow_lt h))

theorem itoa_calls (n : Int) (h0 : -9223372036854775808 ≤ n) (h1 : n ≤ 9223372036854775807) (w : World) (hp : PowAt w) :
    Calls Tryd.prog 30 #[.int .i64 n] w fun e w' => e = .returned (.string (strB (Lib.itoa n))) ∧ Below w.heap.size w w' :=
  (Tryd.strconv_Itoa n h0 h1 w hp).mono fun e w' ⟨h, k, os, hw⟩ => ⟨h, by rw [hw]; exact Lib.below_grow _ _ (Nat.le_refl _) _ _⟩

set_option maxRecDepth 100000 in
set_option maxHeartbeats 1000000 in
theorem put_calls (ns : List Int) (hns : ∀ j, j < ns.length → -9223372036854775808 ≤ ns.getD j 0 ∧ ns.getD j 0 ≤ 9223372036854775807) (hl : ns.length ≤ 1048576) (w : World) (b bn cn : Nat) (s : ByteArray) (hs : w.heap[b]? = some (.cells #[.string s] 9 (0, 0)))
    (hc : ∀ j, j < ns.length → w.cell? ⟨bn, j, none⟩ = some (.int .i64 (ns.getD j 0))) (hcn : ns.length ≤ cn) (hbn : bn < w.heap.size) (hne : bn ≠ b) (hp : PowAt w) (hbp : b ≠ 5) (hz : s.size + (numsW ns).length ≤ 1099511627776) :
    Calls Tryd.prog 50 #[.slice (some ⟨bn, 0, none⟩) ns.length cn, .pointer (some ⟨b, 0, none⟩)] w fun e w' => e = .returned (.tuple #[]) ∧ Turned b w w' ∧ w'.heap[b]? = some (.cells #[.string (s ++ strB (numsW ns))] 9 (0, 0)) := by
  go_enter Tryd.func50, Tryd.ntmps50
  have HS := Lib.hid hs
  have HC := Lib.hid hc
  have HP := Lib.hid hp
  have HN := Lib.hid hns
  clear hs hc hp hns
  go_wp2_with fail
  go_loopw [7] (fun vi wr => ∃ i : Nat, i ≤ ns.length ∧ vi = .int .i64 (i : Int) ∧ Turned b w wr ∧ wr.heap[b]? = some (.cells #[.string (s ++ strB (numsW (ns.take i)))] 9 (0, 0))) (fun vi _ => ns.length - (intOf vi).toNat)
  case atStart => exact ⟨0, Nat.zero_le _, rfl, Turned.refl _ _, by rw [HS.out, List.take_zero, numsW_nil]⟩
  case round =>
    obtain ⟨i, hi, rfl, ht, hb⟩ := hrel
    by_cases hlt : i < ns.length
    · have hlt' : (i : Int) < (ns.length : Int) := by omega
      have hci : wr.cell? ⟨bn, i, none⟩ = some (.int .i64 (ns.getD i 0)) := by rw [World.cell?_of_block (w := w) (ht.other bn hbn hne)]; exact HC.out i hlt
      have hit := itoa_calls (ns.getD i 0) (HN.out i hlt).1 (HN.out i hlt).2 wr.drew (pow_same HP.out (ht.other _ (pow_lt HP.out) (Ne.symm hbp)))
      have hcb : wr.drew.cell? ⟨b, 0, none⟩ = some (.string (s ++ strB (numsW (ns.take i)))) := cell_of_heap (i := 0) (w := wr.drew) hb rfl
      generalize hn : ns.getD i 0 = n at hci hit
      have hsz := numsW_size s ns i n hlt hn
      have hstep := numsW_step s ns i n hlt hn
      generalize s ++ strB (numsW (ns.take i)) = X at hcb hb hsz hstep
      generalize strB (Lib.itoa n) = Y at hit hsz hstep
      have hx1 : ¬ 9223372036854775807 < 1 + Y.size := by omega
      have hx2 : ¬ 9223372036854775807 < X.size + (1 + Y.size) := by omega
      have HST := Lib.hid hstep
      have HIT := Lib.hid hit
      have HNN := Lib.hid hn
      have HT := Lib.hid ht
      have HB := Lib.hid hb
      have hbl := (Array.getElem?_eq_some_iff.1 hb).1
      clear hit ht hb hn hstep hsz
      go_wp2_with fail
      go_region_law (first | (go_simp; go_at_call 30; refine HIT.out.mono ?_; rintro e w1 ⟨rfl, hb1⟩; have hcb1 : w1.cell? ⟨b, 0, none⟩ = some (.string X) := (hb1.cell (p := ⟨b, 0, none⟩) hbl).trans hcb; have hfb1 : w1.frozen? ⟨b, 0, none⟩ = false := frozen_of_heap ((hb1.block b hbl).trans HB.out); have HB1 := Lib.hid hb1; clear hb1))
      all_goals go_wp2_with fail
      all_goals rw [HST.out]
      all_goals exact ⟨⟨i + 1, by omega, by push_cast; rfl, (HT.out.trans ((show Turned b wr wr.drew from ⟨rfl, rfl, rfl, Nat.le_refl _, fun _ _ _ => rfl⟩).trans (Turned.of_below HB1.out))).set 0 _, heap_set_same ((HB1.out.block b hbl).trans HB.out)⟩, by simp [intOf]; omega⟩
    · obtain rfl : i = ns.length := by omega
      rw [List.take_length] at hb
      have HT := Lib.hid ht
      have HB := Lib.hid hb
      have hlt' : ¬ (ns.length : Int) < (ns.length : Int) := by omega
      clear ht hb
      go_wp2_with fail
      go_end0
      exact ⟨rfl, HT.out, HB.out⟩
end Go.Proofs.YtbjkljmhhpoooaaDoor
