/- What script.written returns: the line of an entry that has one. -/
import Derived.Test.YtbjkljmhhpoooaaDoorPut
import Derived.Deep.Cut
import Derived.Lib.ItoaLen
namespace Go.Proofs.YtbjkljmhhpoooaaDoor
open Go.RowKit
set_option linter.unusedVariables false

def hexD (n : Nat) : UInt8 := UInt8.ofNat (if n < 10 then 48 + n else 87 + n)
def hex2 (b : Nat) : List UInt8 := [hexD (b / 16), hexD (b % 16)]
def bytesW (bs : List Nat) : List UInt8 := (if bs = [] then [45] else []) ++ bs.flatMap hex2
/-- the line of an entry -/
def tailW (e : Ent) : List UInt8 :=
  if e.kind = 1 then numsW [e.site, e.a] ++ [32, UInt8.ofNat e.ch]
  else if e.kind = 2 then numsW [e.site, e.a]
  else if e.kind = 3 then numsW [e.site]
  else if e.kind = 4 ∨ e.kind = 5 ∨ e.kind = 6 then numsW [e.a]
  else if e.kind = 7 ∨ e.kind = 10 ∨ e.kind = 12 then numsW [e.a, e.b, e.c]
  else if e.kind = 13 then numsW [e.site] ++ [32] ++ bytesW e.by_
  else []
def writW (e : Ent) : List UInt8 := (vWords.getD (e.kind - 1) ByteArray.empty).data.toList ++ tailW e

/-- the entry's variables are small -/
structure Small (e : Ent) : Prop where
  kind1 : 1 ≤ e.kind
  kind2 : e.kind ≤ 13
  site : e.site ≤ 4611686018427387904
  a : e.a ≤ 4611686018427387904
  b : e.b ≤ 4611686018427387904
  c : e.c ≤ 4611686018427387904
  ch : e.ch < 128
  bytes : ∀ x, x ∈ e.by_ → x < 256
  len : e.by_.length ≤ 1048576

/-- Where written stands behind its first statements: the entry's block and the text's. -/
structure WMem (w W : World) (e : Ent) (A : Option Addr) (c : Nat) (bx bs : Nat) (s : ByteArray) : Prop where
  box : W.heap[bx]? = some (.cells (entArr e A c) 25 (0, 0))
  str : W.heap[bs]? = some (.cells #[.string s] 9 (0, 0))
  hbx : w.heap.size ≤ bx
  hbs : w.heap.size ≤ bs
  ne : bx ≠ bs
  below : Below w.heap.size w W

theorem WMem.cells {w W : World} {e : Ent} {A : Option Addr} {c bx bs : Nat} {s : ByteArray} (h : WMem w W e A c bx bs s) (j : Nat) (v : Value) (hj : (entArr e A c)[j]? = some v) : W.cell? ⟨bx, j, none⟩ = some v := cell_of_heap h.box hj
theorem WMem.scell {w W : World} {e : Ent} {A : Option Addr} {c bx bs : Nat} {s : ByteArray} (h : WMem w W e A c bx bs s) : W.cell? ⟨bs, 0, none⟩ = some (.string s) ∧ W.frozen? ⟨bs, 0, none⟩ = false := ⟨cell_of_heap h.str rfl, frozen_of_heap h.str⟩
theorem WMem.set {w W : World} {e : Ent} {A : Option Addr} {c bx bs : Nat} {s : ByteArray} (h : WMem w W e A c bx bs s) (x : ByteArray) : WMem w (W.setCell ⟨bs, 0, none⟩ (.string x)) e A c bx bs x :=
  ⟨(heap_set_other h.ne).trans h.box, heap_set_same h.str, h.hbx, h.hbs, h.ne, h.below.setCell h.hbs _⟩
theorem WMem.alloc {w W : World} {e : Ent} {A : Option Addr} {c bx bs : Nat} {s : ByteArray} (h : WMem w W e A c bx bs s) (o : Obj) : WMem w (W.alloc o) e A c bx bs s :=
  ⟨alloc_old h.box, alloc_old h.str, h.hbx, h.hbs, h.ne, h.below.alloc h.below.size _⟩
theorem WMem.turned {w W W' : World} {e : Ent} {A : Option Addr} {c bx bs : Nat} {s x : ByteArray} (h : WMem w W e A c bx bs s) (ht : Turned bs W W') (hx : W'.heap[bs]? = some (.cells #[.string x] 9 (0, 0))) : WMem w W' e A c bx bs x :=
  ⟨ht.get h.ne h.box, hx, h.hbx, h.hbs, h.ne, h.below.trans (ht.below h.hbs h.below.size)⟩
theorem put_at {w W : World} {e : Ent} {A : Option Addr} {c bx bs : Nat} {s : ByteArray} (h : WMem w W e A c bx bs s) (hp : PowAt w) (ns : List Int) (n : Nat) (hn : ns.length = n) (hns : ∀ j, j < ns.length → -9223372036854775808 ≤ ns.getD j 0 ∧ ns.getD j 0 ≤ 9223372036854775807) (hl : ns.length ≤ 1048576)
    (hz : s.size + (numsW ns).length ≤ 1099511627776) (cells : Array Value) (hcs : cells = (ns.map (Value.int .i64 ·)).toArray) :
    Calls Tryd.prog 50 #[.slice (some ⟨W.heap.size, 0, none⟩) n n, .pointer (some ⟨bs, 0, none⟩)] (W.alloc (.cells cells 3)) fun e' w' => e' = .returned (.tuple #[]) ∧ WMem w w' e A c bx bs (s ++ strB (numsW ns)) := by
  subst hn hcs
  have hbs := (Array.getElem?_eq_some_iff.1 h.str).1
  have hpw := pow_lt hp
  refine (put_calls ns hns hl _ bs W.heap.size ns.length s (h.alloc _).str (fun j hj => ?_) (Nat.le_refl _) (by simp) (by omega) (pow_below (pow_below hp h.below) ((Below.refl _ _).alloc (Nat.le_refl _) _)) (by have := h.hbs; omega) hz).mono fun e' w' ⟨h1, h2, h3⟩ => ⟨h1, (h.alloc _).turned h2 h3⟩
  refine cell_of_heap (alloc_at rfl) ?_
  simp [List.getElem?_eq_getElem hj, List.getD_eq_getElem?_getD]

def intsN (ns : List Nat) : List Int := ns.map fun (n : Nat) => (n : Int)
theorem nums_len (ns : List Nat) (h : ∀ n, n ∈ ns → n ≤ 4611686018427387904) : (numsW (intsN ns)).length ≤ 22 * ns.length := by
  induction ns with
  | nil => simp [numsW, intsN]
  | cons n ns ih =>
    have h0 := h n List.mem_cons_self
    have h1 := Lib.itoa_length_le (n : Int) (by omega) (by omega)
    have h2 := ih fun x hx => h x (List.mem_cons_of_mem _ hx)
    simp only [numsW, intsN, List.map_cons, List.flatMap_cons, List.length_append, List.length_cons] at h2 ⊢
    omega
theorem put_nat {w W : World} {e : Ent} {A : Option Addr} {c bx bs : Nat} {s : ByteArray} (h : WMem w W e A c bx bs s) (hp : PowAt w) (ns : List Nat) (n : Nat) (hn : ns.length = n) (hns : ∀ x, x ∈ ns → x ≤ 4611686018427387904) (hl : ns.length ≤ 3)
    (hz : s.size ≤ 1048576) (cells : Array Value) (hcs : cells = ((intsN ns).map (Value.int .i64 ·)).toArray) :
    Calls Tryd.prog 50 #[.slice (some ⟨W.heap.size, 0, none⟩) n n, .pointer (some ⟨bs, 0, none⟩)] (W.alloc (.cells cells 3)) fun e' w' => e' = .returned (.tuple #[]) ∧ WMem w w' e A c bx bs (s ++ strB (numsW (intsN ns))) := by
  have hlen := nums_len ns hns
  refine put_at h hp (intsN ns) n (by simpa [intsN] using hn) (fun j hj => ?_) (by simp [intsN]; omega) (by omega) cells hcs
  have hj' : j < ns.length := by simpa [intsN] using hj
  have := hns ns[j] (List.getElem_mem hj')
  have e : (intsN ns).getD j 0 = (ns[j] : Int) := by simp [intsN, List.getD_eq_getElem?_getD, List.getElem?_eq_getElem hj']
  rw [e]
  omega
theorem words_len : ∀ k : Fin 13, (vWords.getD k.val ByteArray.empty).size ≤ 100 := by decide
theorem enc_ch : ∀ ch : Fin 128, Utf8.encode (wrap32 ((ch.val : Nat) : Int)) = ⟨#[UInt8.ofNat ch.val]⟩ := by decide +kernel
theorem ret_str {a b : ByteArray} (h : a = b) : Ending.returned (.string a) = .returned (.string b) := by rw [h]

set_option maxRecDepth 100000 in
set_option maxHeartbeats 1000000 in
theorem written_low (e : Ent) (he : Small e) (hne : e.kind ≠ 13) (A : Option Addr) (c : Nat) (w : World) (V o cap : Nat) (F : Nat → Option Addr) (C : Nat → Nat) (hv : VerbsAt V o cap F C w) (hp : PowAt w) :
    Calls Tryd.prog 31 #[.agg (entArr e A c)] w fun e' w' => e' = .returned (.string (strB (writW e))) ∧ Below w.heap.size w w' := by
  go_enter Tryd.func31, Tryd.ntmps31
  obtain ⟨k, hk⟩ : ∃ k, e.kind = k + 1 := ⟨e.kind - 1, by have := he.kind1; omega⟩
  have hk13 : k < 13 := by have := he.kind2; omega
  have hg := cell_alloc hv.g (.cells (entArr e A c) 25)
  have hw := cell_alloc (hv.word k hk13) (.cells (entArr e A c) 25)
  rw [Nat.mul_comm] at hw
  have hv0 := words_len ⟨k, hk13⟩
  simp only at hv0
  generalize hvw : vWords.getD k ByteArray.empty = vw at hw hv0
  have hkk : e.kind - 1 = k := by omega
  unfold writW
  rw [hkk, hvw]
  have h1 : IntKind.i64.wrap (((e.kind : Nat) : Int) - 1) = (k : Int) := by rw [hk, IntKind.wrap]; simp [IntKind.bits, IntKind.signed]; omega
  have h2 : (k : Int) < 13 := by omega
  have HV := Lib.hid hv
  have HP := Lib.hid hp
  have HE := Lib.hid he
  have hb0 : Below w.heap.size w (w.alloc (.cells (entArr e A c) 25)) := (Below.refl _ _).alloc (Nat.le_refl _) _
  have HB0 := Lib.hid hb0
  have HK := Lib.hid hk
  clear hv hp he hb0 hk hkk hvw
  unfold entArr at hg hw ⊢
  go_upto_region 3 with (fail)
  generalize hW : World.alloc (World.alloc w _) _ = W
  have wm : WMem w W e A c w.heap.size (w.heap.size + 1) vw := by
    subst hW
    refine ⟨alloc_old (alloc_at rfl), alloc_at (by simp), Nat.le_refl _, by omega, by omega, ?_⟩
    exact HB0.out.alloc HB0.out.size _
  generalize w.heap.size + 1 = bs at wm ⊢
  generalize w.heap.size = bx at wm ⊢
  clear hW hg hw h1
  have WM := Lib.hid wm
  have HNE := Lib.hid hne
  clear hne
  obtain ⟨kind, site, ea, eb, ec, ch, by_, err⟩ := e
  have hc0 := wm.cells 0 (.int .i64 (kind : Int)) rfl
  have hc1 := wm.cells 1 (.int .i64 (site : Int)) rfl
  have hc2 := wm.cells 2 (.int .i64 (ea : Int)) rfl
  have hc3 := wm.cells 3 (.int .i64 (eb : Int)) rfl
  have hc4 := wm.cells 4 (.int .i64 (ec : Int)) rfl
  have hc5 := wm.cells 5 (.int .u8 (ch : Int)) rfl
  have hc6 := wm.cells 6 (.slice A by_.length c) rfl
  clear wm
  have hk14 : k = 0 ∨ k = 1 ∨ k = 2 ∨ k = 3 ∨ k = 4 ∨ k = 5 ∨ k = 6 ∨ k = 7 ∨ k = 8 ∨ k = 9 ∨ k = 10 ∨ k = 11 ∨ k = 12 := by omega
  clear hk13 h2
  rcases hk14 with rfl | rfl | rfl | rfl | rfl | rfl | rfl | rfl | rfl | rfl | rfl | rfl | rfl
  · obtain rfl : kind = 1 := HK.out
    replace hc0 : W.cell? ⟨bx, 0, none⟩ = some (.int .i64 1) := hc0
    go_wp2_with fail
    refine (put_nat WM.out HP.out [site, ea] 2 rfl (fun x hx => ?_) (by simp) (by omega) _ rfl).mono ?_
    · have h := HE.out
      simp only [List.mem_cons, List.not_mem_nil, or_false] at hx
      rcases hx with rfl | rfl
      · exact h.site
      · exact h.a
    rintro e' w1 ⟨rfl, wm1⟩
    obtain ⟨hs1, hf1⟩ := wm1.scell
    have hz1 : (vw ++ strB (numsW (intsN [site, ea]))).size ≤ 1000 := by
      rw [ByteArray.size_append]
      have := nums_len [site, ea] (fun x hx => by
        have h := HE.out
        simp only [List.mem_cons, List.not_mem_nil, or_false] at hx
        rcases hx with rfl | rfl
        · exact h.site
        · exact h.a
        )
      have e : (strB (numsW (intsN [site, ea]))).size = (numsW (intsN [site, ea])).length := rfl
      simp only [List.length_cons, List.length_nil] at this
      omega
    have hst := strB_add vw (numsW (intsN [site, ea]))
    generalize vw ++ strB (numsW (intsN [site, ea])) = X at wm1 hs1 hz1 hst
    have h5 := wm1.cells 5 (.int .u8 (ch : Int)) rfl
    have h6 := wm1.cells 6 (.slice A by_.length c) rfl
    have HST := Lib.hid hst
    have WM1 := Lib.hid wm1
    clear wm1 hst
    have hY := enc_ch ⟨ch, HE.out.ch⟩
    simp only at hY
    generalize hYY : (⟨#[UInt8.ofNat ch]⟩ : ByteArray) = Y at hY
    have hY1 : Y.size = 1 := by rw [← hYY]; rfl
    have hx0 : ¬ 9223372036854775807 < 1 + Y.size := by omega
    have hx1 : ¬ 9223372036854775807 < X.size + (1 + Y.size) := by omega
    have HYY := Lib.hid hYY
    clear hYY hY1
    go_wp2_with fail
    go_ret
    refine ⟨ret_str ?_, WM1.out.below.setCell WM1.out.hbs _⟩
    rw [← HYY.out, HST.out]
    show strB (vw.data.toList ++ numsW (intsN [site, ea])) ++ strB [32, UInt8.ofNat ch] = _
    rw [strB_add]
    exact congrArg strB (List.append_assoc _ _ _)
  · obtain rfl : kind = 2 := HK.out
    replace hc0 : W.cell? ⟨bx, 0, none⟩ = some (.int .i64 2) := hc0
    go_wp2_with fail
    refine (put_nat WM.out HP.out [site, ea] 2 rfl (fun x hx => ?_) (by simp) (by omega) _ rfl).mono ?_
    · have h := HE.out
      simp only [List.mem_cons, List.not_mem_nil, or_false] at hx
      rcases hx with rfl | rfl
      · exact h.site
      · exact h.a
    rintro e' w1 ⟨rfl, wm1⟩
    obtain ⟨hs1, hf1⟩ := wm1.scell
    have WM1 := Lib.hid wm1
    clear wm1
    go_wp2_with fail
    go_ret
    exact ⟨ret_str (by rw [strB_add]; rfl), WM1.out.below⟩
  · obtain rfl : kind = 3 := HK.out
    replace hc0 : W.cell? ⟨bx, 0, none⟩ = some (.int .i64 3) := hc0
    go_wp2_with fail
    refine (put_nat WM.out HP.out [site] 1 rfl (fun x hx => ?_) (by simp) (by omega) _ rfl).mono ?_
    · have h := HE.out
      simp only [List.mem_cons, List.not_mem_nil, or_false] at hx
      rcases hx with rfl
      · exact h.site
    rintro e' w1 ⟨rfl, wm1⟩
    obtain ⟨hs1, hf1⟩ := wm1.scell
    have WM1 := Lib.hid wm1
    clear wm1
    go_wp2_with fail
    go_ret
    exact ⟨ret_str (by rw [strB_add]; rfl), WM1.out.below⟩
  · obtain rfl : kind = 4 := HK.out
    replace hc0 : W.cell? ⟨bx, 0, none⟩ = some (.int .i64 4) := hc0
    go_wp2_with fail
    refine (put_nat WM.out HP.out [ea] 1 rfl (fun x hx => ?_) (by simp) (by omega) _ rfl).mono ?_
    · have h := HE.out
      simp only [List.mem_cons, List.not_mem_nil, or_false] at hx
      rcases hx with rfl
      · exact h.a
    rintro e' w1 ⟨rfl, wm1⟩
    obtain ⟨hs1, hf1⟩ := wm1.scell
    have WM1 := Lib.hid wm1
    clear wm1
    go_wp2_with fail
    go_ret
    exact ⟨ret_str (by rw [strB_add]; rfl), WM1.out.below⟩
  · obtain rfl : kind = 5 := HK.out
    replace hc0 : W.cell? ⟨bx, 0, none⟩ = some (.int .i64 5) := hc0
    go_wp2_with fail
    refine (put_nat WM.out HP.out [ea] 1 rfl (fun x hx => ?_) (by simp) (by omega) _ rfl).mono ?_
    · have h := HE.out
      simp only [List.mem_cons, List.not_mem_nil, or_false] at hx
      rcases hx with rfl
      · exact h.a
    rintro e' w1 ⟨rfl, wm1⟩
    obtain ⟨hs1, hf1⟩ := wm1.scell
    have WM1 := Lib.hid wm1
    clear wm1
    go_wp2_with fail
    go_ret
    exact ⟨ret_str (by rw [strB_add]; rfl), WM1.out.below⟩
  · obtain rfl : kind = 6 := HK.out
    replace hc0 : W.cell? ⟨bx, 0, none⟩ = some (.int .i64 6) := hc0
    go_wp2_with fail
    refine (put_nat WM.out HP.out [ea] 1 rfl (fun x hx => ?_) (by simp) (by omega) _ rfl).mono ?_
    · have h := HE.out
      simp only [List.mem_cons, List.not_mem_nil, or_false] at hx
      rcases hx with rfl
      · exact h.a
    rintro e' w1 ⟨rfl, wm1⟩
    obtain ⟨hs1, hf1⟩ := wm1.scell
    have WM1 := Lib.hid wm1
    clear wm1
    go_wp2_with fail
    go_ret
    exact ⟨ret_str (by rw [strB_add]; rfl), WM1.out.below⟩
  · obtain rfl : kind = 7 := HK.out
    replace hc0 : W.cell? ⟨bx, 0, none⟩ = some (.int .i64 7) := hc0
    go_wp2_with fail
    refine (put_nat WM.out HP.out [ea, eb, ec] 3 rfl (fun x hx => ?_) (by simp) (by omega) _ rfl).mono ?_
    · have h := HE.out
      simp only [List.mem_cons, List.not_mem_nil, or_false] at hx
      rcases hx with rfl | rfl | rfl
      · exact h.a
      · exact h.b
      · exact h.c
    rintro e' w1 ⟨rfl, wm1⟩
    obtain ⟨hs1, hf1⟩ := wm1.scell
    have WM1 := Lib.hid wm1
    clear wm1
    go_wp2_with fail
    go_ret
    exact ⟨ret_str (by rw [strB_add]; rfl), WM1.out.below⟩
  · obtain rfl : kind = 8 := HK.out
    replace hc0 : W.cell? ⟨bx, 0, none⟩ = some (.int .i64 8) := hc0
    obtain ⟨hs1, hf1⟩ := WM.out.scell
    go_wp2_with fail
    go_ret
    exact ⟨ret_str ((numsW_nil vw).symm.trans (by rw [strB_add]; rfl)), WM.out.below⟩
  · obtain rfl : kind = 9 := HK.out
    replace hc0 : W.cell? ⟨bx, 0, none⟩ = some (.int .i64 9) := hc0
    obtain ⟨hs1, hf1⟩ := WM.out.scell
    go_wp2_with fail
    go_ret
    exact ⟨ret_str ((numsW_nil vw).symm.trans (by rw [strB_add]; rfl)), WM.out.below⟩
  · obtain rfl : kind = 10 := HK.out
    replace hc0 : W.cell? ⟨bx, 0, none⟩ = some (.int .i64 10) := hc0
    go_wp2_with fail
    refine (put_nat WM.out HP.out [ea, eb, ec] 3 rfl (fun x hx => ?_) (by simp) (by omega) _ rfl).mono ?_
    · have h := HE.out
      simp only [List.mem_cons, List.not_mem_nil, or_false] at hx
      rcases hx with rfl | rfl | rfl
      · exact h.a
      · exact h.b
      · exact h.c
    rintro e' w1 ⟨rfl, wm1⟩
    obtain ⟨hs1, hf1⟩ := wm1.scell
    have WM1 := Lib.hid wm1
    clear wm1
    go_wp2_with fail
    go_ret
    exact ⟨ret_str (by rw [strB_add]; rfl), WM1.out.below⟩
  · obtain rfl : kind = 11 := HK.out
    replace hc0 : W.cell? ⟨bx, 0, none⟩ = some (.int .i64 11) := hc0
    obtain ⟨hs1, hf1⟩ := WM.out.scell
    go_wp2_with fail
    go_ret
    exact ⟨ret_str ((numsW_nil vw).symm.trans (by rw [strB_add]; rfl)), WM.out.below⟩
  · obtain rfl : kind = 12 := HK.out
    replace hc0 : W.cell? ⟨bx, 0, none⟩ = some (.int .i64 12) := hc0
    go_wp2_with fail
    refine (put_nat WM.out HP.out [ea, eb, ec] 3 rfl (fun x hx => ?_) (by simp) (by omega) _ rfl).mono ?_
    · have h := HE.out
      simp only [List.mem_cons, List.not_mem_nil, or_false] at hx
      rcases hx with rfl | rfl | rfl
      · exact h.a
      · exact h.b
      · exact h.c
    rintro e' w1 ⟨rfl, wm1⟩
    obtain ⟨hs1, hf1⟩ := wm1.scell
    have WM1 := Lib.hid wm1
    clear wm1
    go_wp2_with fail
    go_ret
    exact ⟨ret_str (by rw [strB_add]; rfl), WM1.out.below⟩
  · exact absurd HK.out HNE.out
end Go.Proofs.YtbjkljmhhpoooaaDoor
