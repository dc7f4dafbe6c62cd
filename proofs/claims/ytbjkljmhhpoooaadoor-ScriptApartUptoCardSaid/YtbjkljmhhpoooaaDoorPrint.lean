/- What script.Print returns of a plan whose entries are ones that lines mean. -/
import Derived.Test.YtbjkljmhhpoooaaDoorSame
import Derived.Test.YtbjkljmhhpoooaaDoorLines
import Derived.Deep.RegionHeld3
namespace Go.Proofs.YtbjkljmhhpoooaaDoor
open Go.RowKit
set_option linter.unusedVariables false

/-- entries that are read -/
def EntsIn (w : World) (A : Option Addr) (es : List Ent) : Prop :=
  (A = none ∧ es = []) ∨ ∃ b o, A = some ⟨b, o, none⟩ ∧ b < w.heap.size ∧ ∀ i e, es[i]? = some e → ∃ A' c', BytesIn w A' e.by_ ∧ w.rangeAt b (o + i * 8) (entArr e A' c').toList
theorem range_below {w w' : World} {b o : Nat} {cs : List Value} (h : w.rangeAt b o cs) (hb : b < w.heap.size) (hw : Below w.heap.size w w') : w'.rangeAt b o cs := fun j v hv => (hw.cell (p := ⟨b, o + j, none⟩) hb).trans (h j v hv)
theorem EntsIn.below {w w' : World} {A : Option Addr} {es : List Ent} (h : EntsIn w A es) (hb : Below w.heap.size w w') : EntsIn w' A es := by
  rcases h with h | ⟨b, o, h1, h2, h3⟩
  · exact .inl h
  · refine .inr ⟨b, o, h1, Nat.lt_of_lt_of_le h2 hb.size, fun i e he => ?_⟩
    obtain ⟨A', c', k1, k2⟩ := h3 i e he
    exact ⟨A', c', k1.below hb, range_below k2 h2 hb⟩
theorem bld_below {B b : Nat} {p : Value} {bs : List Value} {w w' : World} (h : Lib.BuilderAt 64 5 B b p bs w) (hb : Below w.heap.size w w') : Lib.BuilderAt 64 5 B b p bs w' := by
  have hlt := h.lt
  obtain ⟨h1, v, h2, h3, h4⟩ := h
  exact ⟨h1, v, (hb.block b hlt).trans h2, own_below h3 hb, h4⟩
theorem Meant.small {e : Ent} (h : Meant e) : Small e := by
  cases h with
  | ins s a ch h1 h2 h3 h4 h5 => refine ⟨?_, ?_, ?_, ?_, ?_, ?_, ?_, ?_, ?_⟩ <;> simp <;> omega
  | del s a h1 h2 h3 => refine ⟨?_, ?_, ?_, ?_, ?_, ?_, ?_, ?_, ?_⟩ <;> simp <;> omega
  | tick s h2 => refine ⟨?_, ?_, ?_, ?_, ?_, ?_, ?_, ?_, ?_⟩ <;> simp <;> omega
  | fly k a h1 h2 => refine ⟨?_, ?_, ?_, ?_, ?_, ?_, ?_, ?_, ?_⟩ <;> simp <;> omega
  | flip a b c h1 h2 h3 h4 => refine ⟨?_, ?_, ?_, ?_, ?_, ?_, ?_, ?_, ?_⟩ <;> simp <;> omega
  | bare k h1 => refine ⟨?_, ?_, ?_, ?_, ?_, ?_, ?_, ?_, ?_⟩ <;> simp <;> omega
  | disk k a b c h1 h2 h3 h4 => refine ⟨?_, ?_, ?_, ?_, ?_, ?_, ?_, ?_, ?_⟩ <;> simp <;> omega
  | forge s bs h1 h2 h3 => refine ⟨?_, ?_, ?_, ?_, ?_, ?_, ?_, ?_, ?_⟩ <;> first | exact h3 | (simp; omega) | simp
theorem Meant.facts {e : Ent} (h : Meant e) : e.err = 0 ∧ e.by_.length ≤ 64 := by cases h <;> simp <;> omega

theorem planW_snoc (n : Nat) (ls : List (List UInt8)) (l : List UInt8) : planW n (ls ++ [l]) = planW n ls ++ (l ++ [10]) := by
  unfold planW
  rw [← List.cons_append, List.flatMap_append]
  simp
theorem planW_take (n : Nat) (es : List Ent) (i : Nat) : (planW n ((es.take i).map writW)).length ≤ (planW n (es.map writW)).length := by
  have e : es.map writW = (es.take i).map writW ++ (es.drop i).map writW := by rw [← List.map_append, List.take_append_drop]
  rw [e]
  unfold planW
  rw [← List.cons_append, List.flatMap_append, List.length_append]
  omega
theorem planW_next (n : Nat) (es : List Ent) (i : Nat) (e : Ent) (h : es[i]? = some e) : planW n ((es.take (i + 1)).map writW) = planW n ((es.take i).map writW) ++ (writW e ++ [10]) := by
  rw [List.take_add_one, h, List.map_append]
  exact planW_snoc n _ _
theorem ent_cells {w : World} {b : Nat} {e : Ent} {A : Option Addr} {c : Nat} {t : TypeId} (h : w.heap[b]? = some (.cells (entArr e A c) t (0, 0))) :
    w.cell? ⟨b, 0, none⟩ = some (.int .i64 (e.kind : Int)) ∧ w.cell? ⟨b, 1, none⟩ = some (.int .i64 (e.site : Int)) ∧ w.cell? ⟨b, 2, none⟩ = some (.int .i64 (e.a : Int)) ∧ w.cell? ⟨b, 3, none⟩ = some (.int .i64 (e.b : Int)) ∧ w.cell? ⟨b, 4, none⟩ = some (.int .i64 (e.c : Int)) ∧
      w.cell? ⟨b, 5, none⟩ = some (.int .u8 (e.ch : Int)) ∧ w.cell? ⟨b, 6, none⟩ = some (.slice A e.by_.length c) ∧ w.cell? ⟨b, 7, none⟩ = some (.int .i64 (e.err : Int)) :=
  ⟨cell_of_heap h rfl, cell_of_heap h rfl, cell_of_heap h rfl, cell_of_heap h rfl, cell_of_heap h rfl, cell_of_heap h rfl, cell_of_heap h rfl, cell_of_heap h rfl⟩
section
variable {P : Program}
theorem wpList_load_at {ops : Array Oper} {rest : List Oper} {op : Oper} {a : Act} {w : World} {Q : Exit → Act → World → Prop} (hgd : op.guard = none) (ty : TypeId) (x : Operand) (ho : op.op = .load ty x)
    (b o : Nat) (cells : Array Value) (hx : a.eval x = .pointer (some ⟨b, o, none⟩)) (hh : w.rangeAt b o cells.toList)
    (hd : (P.underlying ty).map TypeDesc.isRow = some true) (hi : (P.info? ty).map (·.size) = some cells.size)
    (h : wpList P ops Q rest (a.put op.dst (.agg cells)) w) : wpList P ops Q (op :: rest) a w := by
  obtain ⟨d, hu, hd⟩ := Option.map_eq_some_iff.1 hd
  exact wpList_load_mid hgd ty x ho b o hx cells.toList d hh hu hd (by simpa using hi) (by simpa using h)
end

set_option maxRecDepth 100000 in
set_option maxHeartbeats 2000000 in
theorem print_good (n : Nat) (hn1 : 1 ≤ n) (hn2 : n ≤ 64) (es : List Ent) (hes : ∀ e ∈ es, Meant e) (hl : es.length ≤ 1024) (hz : (planW n (es.map writW)).length ≤ 65536) (A : Option Addr) (c : Nat) (w : World) (m : Int) (V o cap : Nat) (F : Nat → Option Addr) (C : Nat → Nat)
    (hm : w.cell? ⟨4, 0, none⟩ = some (.int .i64 m)) (hv : VerbsAt V o cap F C w) (hp : PowAt w) (he : EntsIn w A es) :
    Calls Tryd.prog 14 #[.agg #[.int .i64 (n : Int), .slice A es.length c]] w fun e w' => e = .returned (.tuple #[.string (strB (planW n (es.map writW))), .nilIface]) ∧ Below w.heap.size w w' := by
  go_enter Tryd.func14, Tryd.ntmps14
  have HM := Lib.hid hm
  have HV := Lib.hid hv
  have HP := Lib.hid hp
  have HE := Lib.hid he
  have HZ := Lib.hid hz
  have HES := Lib.hid hes
  clear hm hv hp he hz hes
  have h1 : ¬ (n : Int) < 1 := by omega
  have h2 : ¬ (64 : Int) < (n : Int) := by omega
  have h3 : ¬ (1024 : Int) < (es.length : Int) := by omega
  go_wp2_with fail
  have hb2 : Below w.heap.size w ((w.alloc (.cells #[.int .i64 (n : Int), .slice A es.length c] 31)).alloc (.cells #[.pointer none, .slice none 0 0] 64)) := ((Below.refl _ w).alloc (Nat.le_refl _) _).alloc (by simp) _
  have hpl : ((w.alloc (.cells #[.int .i64 (n : Int), .slice A es.length c] 31)).alloc (.cells #[.pointer none, .slice none 0 0] 64)).heap[w.heap.size]? = some (.cells #[.int .i64 (n : Int), .slice A es.length c] 31 (0, 0)) := alloc_old (alloc_at rfl)
  have hbd : Lib.BuilderAt 64 5 (w.heap.size + 1) (w.heap.size + 1) (.pointer none) [] ((w.alloc (.cells #[.int .i64 (n : Int), .slice A es.length c] 31)).alloc (.cells #[.pointer none, .slice none 0 0] 64)) :=
    ⟨Nat.le_refl _, _, alloc_at (by simp), own_nil0 _ _ _ _, by simp [Value.ownBlock]⟩
  have hsz2 : w.heap.size + 1 ≤ ((w.alloc (.cells #[.int .i64 (n : Int), .slice A es.length c] 31)).alloc (.cells #[.pointer none, .slice none 0 0] 64)).heap.size := by simp
  generalize World.alloc (World.alloc w _) _ = w2 at hb2 hpl hbd hsz2 ⊢
  obtain ⟨b, hbe⟩ : ∃ b, w.heap.size + 1 = b := ⟨_, rfl⟩
  rw [hbe] at hbd hsz2 ⊢
  have HB2 := Lib.hid hb2
  have HPL := Lib.hid hpl
  have HBD := Lib.hid hbd
  have HBE := Lib.hid hbe
  have HSZ2 := Lib.hid hsz2
  clear hb2 hpl hbd hbe hsz2
  refine (itoa_calls n (by omega) (by omega) w2 (pow_below HP.out HB2.out)).mono ?_
  rintro e w3 ⟨rfl, hb3⟩
  have hy : strB (Lib.itoa (n : Int)) = strB (Lib.decDigits n) := by rw [itoa_dd]
  rw [hy]
  have hyl : (strB (Lib.decDigits n)).size ≤ 2 := dd_len 1 n (by omega)
  generalize hY : strB (Lib.decDigits n) = Y at hyl
  have hx1 : ¬ 9223372036854775807 < 8 + Y.size := by omega
  have hx2 : ¬ 9223372036854775807 < 8 + Y.size + 1 := by omega
  have HY := Lib.hid hY
  have HB3 := Lib.hid hb3
  clear hY hb3 hy
  go_wp2_with fail
  have hs0 : (⟨#[99, 108, 105, 101, 110, 116, 115, 32]⟩ ++ Y ++ ⟨#[10]⟩ : ByteArray).size ≤ 11 := by
    rw [ByteArray.size_append, ByteArray.size_append]
    have e1 : (⟨#[99, 108, 105, 101, 110, 116, 115, 32]⟩ : ByteArray).size = 8 := rfl
    have e2 : (⟨#[10]⟩ : ByteArray).size = 1 := rfl
    omega
  refine (Tryd.Builder_WriteString b b [] _ w3 (Or.inl (bld_below HBD.out HB3.out)) (by simp only [List.length_nil]; omega) (Nat.le_trans HSZ2.out HB3.out.size)).mono ?_
  rintro e w4 ⟨rfl, hbd4, hb4⟩
  have ht : [] ++ Lib.strCells (⟨#[99, 108, 105, 101, 110, 116, 115, 32]⟩ ++ Y ++ ⟨#[10]⟩) = Lib.byteCells (planW n ((es.take 0).map writW)) := by
    rw [List.nil_append, Lib.strCells_eq, ← HY.out]
    simp [planW, strB, clB, ByteArray.data_append]
  rw [ht] at hbd4
  have hb24 : Below b w2 w4 := (HB3.out.mono HSZ2.out).trans hb4
  have hpl4 : w4.heap[w.heap.size]? = some (.cells #[.int .i64 (n : Int), .slice A es.length c] 31 (0, 0)) := (hb24.block _ (by have := HBE.out; omega)).trans HPL.out
  have HBD4 := Lib.hid hbd4
  have HB24 := Lib.hid hb24
  have hc1 := cell_of_heap (i := 1) hpl4 (v := .slice A es.length c) rfl
  clear hbd4 hb24 hpl4 hb4 ht hs0 hyl hx1 hx2
  generalize w.heap.size = p0 at hc1 ⊢
  have hle : (planW n (es.map writW)).length ≤ 65536 := HZ.out
  have HLE := Lib.hid hle
  clear hle
  go_wp2_with fail
  clear hc1
  go_loopw [31] (fun vi wr => ∃ i : Nat, i ≤ es.length ∧ vi = .int .i64 (i : Int) ∧ Lib.BuilderAt 64 5 b b (.pointer (some ⟨b, 0, none⟩)) (Lib.byteCells (planW n ((es.take i).map writW))) wr ∧ Below b w2 wr) (fun vi _ => es.length - (intOf vi).toNat)
  case atStart => exact ⟨0, Nat.zero_le _, rfl, HBD4.out, HB24.out⟩
  case round =>
    obtain ⟨i, hi, rfl, hbdr, hbr⟩ := hrel
    have HBDR := Lib.hid hbdr
    have HBR := Lib.hid hbr
    have hwr : Below w.heap.size w wr := HB2.out.trans (hbr.mono (by have := HBE.out; omega))
    have HWR := Lib.hid hwr
    have hbwr : b ≤ wr.heap.size := Nat.le_trans HSZ2.out hbr.size
    by_cases hlt : i < es.length
    · have hlt' : (i : Int) < (es.length : Int) := by omega
      obtain ⟨e, hei⟩ : ∃ e, es[i]? = some e := ⟨_, List.getElem?_eq_getElem hlt⟩
      have hme : Meant e := HES.out e (List.mem_of_getElem? hei)
      obtain ⟨hba, oa, rfl, hblt, hall⟩ : ∃ ba oa, A = some ⟨ba, oa, none⟩ ∧ ba < w.heap.size ∧ ∀ i e, es[i]? = some e → ∃ A' c', BytesIn w A' e.by_ ∧ w.rangeAt ba (oa + i * 8) (entArr e A' c').toList := by
        rcases HE.out with ⟨_, h0⟩ | h
        · rw [h0] at hlt; exact absurd hlt (by simp)
        · exact h
      obtain ⟨A', c', hbi, hra⟩ := hall i e hei
      have hrr := range_below hra hblt hwr
      have hbir := hbi.below hwr
      have hsm := hme.small
      have h4 : ¬ ((e.kind : Nat) : Int) < 1 := by have := hsm.kind1; omega
      have h5 : ¬ (13 : Int) < ((e.kind : Nat) : Int) := by have := hsm.kind2; omega
      have h6 : ¬ (64 : Int) < ((e.by_.length : Nat) : Int) := by have := hme.facts.2; omega
      have HRR := Lib.hid hrr
      have HBI := Lib.hid hbir
      have HSM := Lib.hid hsm
      have HME := Lib.hid hme
      have HEI := Lib.hid hei
      clear hrr hbir hsm hme hei hall hbi hra hbdr hbr hwr
      go_wp2_with (first | (refine wpList_load_at rfl 25 _ rfl hba (oa + i * 8) (entArr e A' c') rfl HRR.out (by kernel_rfl) (by kernel_rfl) ?_) | (refine wpList_store_block rfl 25 _ _ rfl wr.heap.size (entArr e A' c') zeroCells8 _ rfl rfl (alloc_at rfl) rfl (by kernel_rfl) rfl ?_; intro w5 hw5; have hq0 := cell_of_heap (i := 0) hw5.at_ (v := .int .i64 (e.kind : Int)) rfl; have hq6 := cell_of_heap (i := 6) hw5.at_ (v := .slice A' e.by_.length c') rfl; have HW5 := Lib.hid hw5; clear hw5) | (refine wpList_load_block rfl 25 _ rfl wr.heap.size (entArr e A' c') _ rfl HW5.out.at_ (by kernel_rfl) (by kernel_rfl) ?_))
      have hb5 : Below wr.heap.size wr w5 := ((Below.refl _ wr).alloc (Nat.le_refl _) _).trans (HW5.out.below (Nat.le_refl _))
      have hbw5 : Below w.heap.size w w5 := HWR.out.trans (hb5.mono HWR.out.size)
      have HB5 := Lib.hid hb5
      have HBW5 := Lib.hid hbw5
      have hbi5 := HBI.out.below hb5
      have HBI5 := Lib.hid hbi5
      refine (written_calls e HSM.out A' c' w5 V o cap F C (HV.out.below hbw5) (pow_below HP.out hbw5) (fun h0 => hbi5.some h0)).mono ?_
      rintro e' w6 ⟨rfl, hb6⟩
      have hvb : wr.heap.size < w5.heap.size := (Array.getElem?_eq_some_iff.1 HW5.out.at_).1
      have hvb6 : w6.heap[wr.heap.size]? = some (.cells (entArr e A' c') 25 (0, 0)) := (hb6.block _ hvb).trans HW5.out.at_
      have hb6' : Below wr.heap.size wr w6 := HB5.out.trans (hb6.mono HB5.out.size)
      have HB6 := Lib.hid hb6'
      have HVB6 := Lib.hid hvb6
      have hbw6 : Below w.heap.size w w6 := HWR.out.trans (hb6'.mono HWR.out.size)
      have HBW6 := Lib.hid hbw6
      have HBI6 := Lib.hid (HBI.out.below hb6')
      have hlen := writW_len HME.out
      have hrd : lineS (wordsB (strB (writW e))) = e := read_written HME.out
      have hLINE : ∀ w', Below w6.heap.size w6 w' → Calls Tryd.prog 9 #[.string (strB (writW e))] w' fun e' w'' => ∃ A2 c2, e' = .returned (.agg (entArr e A2 c2)) ∧ BytesIn w'' A2 e.by_ ∧ Below w6.heap.size w6 w'' := by
        intro w' hw'
        have hbw' : Below w.heap.size w w' := HBW6.out.trans (hw'.mono HBW6.out.size)
        refine (line_calls (strB (writW e)) w' m V o cap F C (by show (writW e).length ≤ _; omega) ((hbw'.cell (World.block_lt_of_cell? w _ HM.out)).trans HM.out) (HV.out.below hbw')).mono ?_
        intro e' w'' h
        rw [hrd] at h
        obtain ⟨A2, c2, h1, h2, h3⟩ := h.lay
        exact ⟨A2, c2, h1, own_in h2, hw'.trans (h3.mono hw'.size)⟩
      have HLINE := Lib.hid hLINE
      have hzz : (strB (writW e)).size ≤ 138 := hlen
      have HLEN := Lib.hid hlen
      generalize hSS : strB (writW e) = SS at hzz HLINE ⊢
      have HSS := Lib.hid hSS
      clear hb5 hbw5 hbi5 hb6 hb6' hvb6 hbw6 hlen hrd hLINE hSS hq0 hq6 hvb
      generalize wr.heap.size = vb at HVB6 ⊢
      go_wp2_with fail
      obtain ⟨k0, k1, k2, k3, k4, k5, k6, k7⟩ := ent_cells HVB6.out
      have hvb6 : vb < w6.heap.size := (Array.getElem?_eq_some_iff.1 HVB6.out).1
      have he7 : (((e.err : Nat) : Int) != 0) = false := by rw [HME.out.facts.1]; rfl
      have HKEEP : ∀ w', Below w6.heap.size w6 w' → w'.heap[vb]? = some (.cells (entArr e A' c') 25 (0, 0)) := fun w' h => (h.block vb hvb6).trans HVB6.out
      have HK := Lib.hid HKEEP
      clear HKEEP
      go_region_held3 (fun w' => w'.cell? ⟨vb, 0, none⟩ = some (.int .i64 (e.kind : Int)) ∧ w'.cell? ⟨vb, 1, none⟩ = some (.int .i64 (e.site : Int)) ∧ w'.cell? ⟨vb, 2, none⟩ = some (.int .i64 (e.a : Int)) ∧ w'.cell? ⟨vb, 3, none⟩ = some (.int .i64 (e.b : Int)) ∧ w'.cell? ⟨vb, 4, none⟩ = some (.int .i64 (e.c : Int)) ∧
        w'.cell? ⟨vb, 5, none⟩ = some (.int .u8 (e.ch : Int)) ∧ w'.cell? ⟨vb, 6, none⟩ = some (.slice A' e.by_.length c') ∧ w'.cell? ⟨vb, 7, none⟩ = some (.int .i64 (e.err : Int))) (first | go_keep | exact ent_cells (HK.out _ (by assumption)))
        (first | (go_at_call 9; refine (HLINE.out _ (by first | exact (Below.refl _ _).drew | exact Below.refl _ _)).mono ?_; rintro e' w7 ⟨A2, c2, rfl, hbi7, hb7⟩) | (go_at_call 32; refine (same_calls e A2 A' c2 c' w7 hbi7 (HBI6.out.below hb7)).mono ?_; rintro e' w8 ⟨rfl, hb78⟩; have hb8 := hb7.trans (hb78.mono hb7.size)))
      have hbld8 := bld_below HBDR.out (HB6.out.trans (hb8.mono HB6.out.size))
      have hbw8 : b ≤ w8.heap.size := Nat.le_trans hbwr (Nat.le_trans HB6.out.size hb8.size)
      have hbr8 : Below b w2 w8 := HBR.out.trans ((HB6.out.trans (hb8.mono HB6.out.size)).mono hbwr)
      have HBLD8 := Lib.hid hbld8
      have HBW8 := Lib.hid hbw8
      have HBR8 := Lib.hid hbr8
      have hx1 : ¬ 9223372036854775807 < SS.size + 1 := by omega
      clear hbld8 hbw8 hbr8 hbi7 hb7 hb78 hb8 k0 k1 k2 k3 k4 k5 k6 k7 he7
      go_wp2_with fail
      have hlen0 : (Lib.byteCells (planW n ((es.take i).map writW))).length ≤ 65536 := by
        rw [Lib.byteCells_length]
        exact Nat.le_trans (planW_take n es i) HLE.out
      have hlen1 : (Lib.byteCells (planW n ((es.take i).map writW))).length + (SS ++ ⟨#[10]⟩).size ≤ 140737488355328 := by
        rw [ByteArray.size_append]
        have e2 : (⟨#[10]⟩ : ByteArray).size = 1 := rfl
        omega
      have HWS := Tryd.Builder_WriteString b b (Lib.byteCells (planW n ((es.take i).map writW))) (SS ++ ⟨#[10]⟩) w8 (Or.inr HBLD8.out) hlen1 HBW8.out
      refine HWS.mono ?_
      rintro e' w9 ⟨rfl, hbd9, hb9⟩
      have ht : Lib.byteCells (planW n ((es.take i).map writW)) ++ Lib.strCells (SS ++ ⟨#[10]⟩) = Lib.byteCells (planW n ((es.take (i + 1)).map writW)) := by
        rw [planW_next n es i e HEI.out, Lib.byteCells_append, Lib.strCells_eq, ← HSS.out]
        simp [strB, ByteArray.data_append]
      rw [ht] at hbd9
      have hbr9 : Below b w2 w9 := HBR8.out.trans hb9
      have HBD9 := Lib.hid hbd9
      have HBR9 := Lib.hid hbr9
      clear hbd9 hb9 hbr9 ht hlen0 hx1
      have hi64 : IntKind.i64.wrap ((i : Int) + 1) = (i : Int) + 1 := IntWalk.i64_in _ (by omega)
      go_wp2_with fail
      exact ⟨⟨i + 1, by omega, by push_cast; rfl, HBD9.out, HBR9.out⟩, by simp [intOf]; omega⟩
    · obtain rfl : i = es.length := by omega
      rw [List.take_length] at hbdr
      have hlt' : ¬ (es.length : Int) < (es.length : Int) := by omega
      have HBD := Lib.hid hbdr
      have hlen0 : (Lib.byteCells (planW n (es.map writW))).length ≤ 65536 := by
        rw [Lib.byteCells_length]
        exact HLE.out
      have HL0 := Lib.hid hlen0
      have hx1 : ¬ (65536 : Int) < (((Lib.byteCells (planW n (es.map writW))).length : Nat) : Int) := by omega
      have HLENC := Lib.hid (Tryd.Builder_Len b b (Lib.byteCells (planW n (es.map writW))) wr (Or.inr HBD.out))
      have HSTR := Lib.hid (Tryd.Builder_String_any b b (planW n (es.map writW)) wr (Or.inr HBD.out) hbwr)
      generalize (Lib.byteCells (planW n (es.map writW))).length = LL at HLENC hx1
      clear hbdr hbr hwr hlen0
      go_wp2_with fail
      refine HLENC.out.mono ?_
      rintro e' w9 ⟨rfl, rfl⟩
      go_wp2_with fail
      refine HSTR.out.mono ?_
      rintro e' w9 ⟨rfl, hb9⟩
      go_wp2_with fail
      go_ret2
      exact ⟨rfl, HB2.out.trans ((HBR.out.trans hb9).mono (by have := HBE.out; omega))⟩
end Go.Proofs.YtbjkljmhhpoooaaDoor
