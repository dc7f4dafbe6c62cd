/-
  jotterlaw15.ScriptRound: Print of the plan; its text's length. AN ENTRY PUT INTO A ROW OF ITS OWN.
-/
import Derived.Test.YtbjkljmhhpoooaaDoorRo
import Derived.Test.YtbjkljmhhpoooaaDoorAlkG
namespace Go.Proofs.YtbjkljmhhpoooaaDoor
open Go.Conc Go.Co Go.Proofs Go.RowKit
set_option linter.unusedVariables false

theorem list_cons {α : Type} {l : List α} {n : Nat} (h : l.length = n + 1) : ∃ x r, l = x :: r ∧ r.length = n := by
  cases l with
  | nil => simp at h
  | cons x r => exact ⟨x, r, rfl, by simpa using h⟩
theorem getD_of {T : Array Value} {i : Nat} {v : Value} (h : T[i]? = some v) : T.getD i undef = v := by simp [Array.getD_eq_getD_getElem?, h]
set_option maxRecDepth 100000 in
theorem arr105 {T : Array Value} (h : T.size = 105) : T = List.toArray (T.getD 0 undef :: T.getD 1 undef :: T.getD 2 undef :: T.getD 3 undef :: T.getD 4 undef :: T.getD 5 undef :: T.getD 6 undef :: T.getD 7 undef :: T.getD 8 undef :: T.getD 9 undef :: T.getD 10 undef :: T.getD 11 undef :: T.getD 12 undef :: T.getD 13 undef :: T.getD 14 undef :: T.getD 15 undef :: T.getD 16 undef :: T.getD 17 undef :: T.getD 18 undef :: T.getD 19 undef :: T.getD 20 undef :: T.getD 21 undef :: T.getD 22 undef :: T.getD 23 undef :: T.getD 24 undef :: T.getD 25 undef :: T.getD 26 undef :: T.getD 27 undef :: T.getD 28 undef :: T.getD 29 undef :: T.getD 30 undef :: T.getD 31 undef :: T.getD 32 undef :: T.getD 33 undef :: T.getD 34 undef :: T.getD 35 undef :: T.getD 36 undef :: T.getD 37 undef :: T.getD 38 undef :: T.getD 39 undef :: T.getD 40 undef :: T.getD 41 undef :: T.getD 42 undef :: T.getD 43 undef :: T.getD 44 undef :: T.getD 45 undef :: T.getD 46 undef :: T.getD 47 undef :: T.getD 48 undef :: T.getD 49 undef :: T.getD 50 undef :: T.getD 51 undef :: T.getD 52 undef :: T.getD 53 undef :: T.getD 54 undef :: T.getD 55 undef :: T.getD 56 undef :: T.getD 57 undef :: T.getD 58 undef :: T.getD 59 undef :: T.getD 60 undef :: T.getD 61 undef :: T.getD 62 undef :: T.getD 63 undef :: T.getD 64 undef :: T.getD 65 undef :: T.getD 66 undef :: T.getD 67 undef :: T.getD 68 undef :: T.getD 69 undef :: T.getD 70 undef :: T.getD 71 undef :: T.getD 72 undef :: T.getD 73 undef :: T.getD 74 undef :: T.getD 75 undef :: T.getD 76 undef :: T.getD 77 undef :: T.getD 78 undef :: T.getD 79 undef :: T.getD 80 undef :: T.getD 81 undef :: T.getD 82 undef :: T.getD 83 undef :: T.getD 84 undef :: T.getD 85 undef :: T.getD 86 undef :: T.getD 87 undef :: T.getD 88 undef :: T.getD 89 undef :: T.getD 90 undef :: T.getD 91 undef :: T.getD 92 undef :: T.getD 93 undef :: T.getD 94 undef :: T.getD 95 undef :: T.getD 96 undef :: T.getD 97 undef :: T.getD 98 undef :: T.getD 99 undef :: T.getD 100 undef :: T.getD 101 undef :: T.getD 102 undef :: T.getD 103 undef :: T.getD 104 undef :: []) := by
  obtain ⟨l⟩ := T
  have h0 : l.length = 105 := h
  clear h
  obtain ⟨x0, l1, rfl, h1⟩ := list_cons h0
  obtain ⟨x1, l2, rfl, h2⟩ := list_cons h1
  obtain ⟨x2, l3, rfl, h3⟩ := list_cons h2
  obtain ⟨x3, l4, rfl, h4⟩ := list_cons h3
  obtain ⟨x4, l5, rfl, h5⟩ := list_cons h4
  obtain ⟨x5, l6, rfl, h6⟩ := list_cons h5
  obtain ⟨x6, l7, rfl, h7⟩ := list_cons h6
  obtain ⟨x7, l8, rfl, h8⟩ := list_cons h7
  obtain ⟨x8, l9, rfl, h9⟩ := list_cons h8
  obtain ⟨x9, l10, rfl, h10⟩ := list_cons h9
  obtain ⟨x10, l11, rfl, h11⟩ := list_cons h10
  obtain ⟨x11, l12, rfl, h12⟩ := list_cons h11
  obtain ⟨x12, l13, rfl, h13⟩ := list_cons h12
  obtain ⟨x13, l14, rfl, h14⟩ := list_cons h13
  obtain ⟨x14, l15, rfl, h15⟩ := list_cons h14
  obtain ⟨x15, l16, rfl, h16⟩ := list_cons h15
  obtain ⟨x16, l17, rfl, h17⟩ := list_cons h16
  obtain ⟨x17, l18, rfl, h18⟩ := list_cons h17
  obtain ⟨x18, l19, rfl, h19⟩ := list_cons h18
  obtain ⟨x19, l20, rfl, h20⟩ := list_cons h19
  obtain ⟨x20, l21, rfl, h21⟩ := list_cons h20
  obtain ⟨x21, l22, rfl, h22⟩ := list_cons h21
  obtain ⟨x22, l23, rfl, h23⟩ := list_cons h22
  obtain ⟨x23, l24, rfl, h24⟩ := list_cons h23
  obtain ⟨x24, l25, rfl, h25⟩ := list_cons h24
  obtain ⟨x25, l26, rfl, h26⟩ := list_cons h25
  obtain ⟨x26, l27, rfl, h27⟩ := list_cons h26
  obtain ⟨x27, l28, rfl, h28⟩ := list_cons h27
  obtain ⟨x28, l29, rfl, h29⟩ := list_cons h28
  obtain ⟨x29, l30, rfl, h30⟩ := list_cons h29
  obtain ⟨x30, l31, rfl, h31⟩ := list_cons h30
  obtain ⟨x31, l32, rfl, h32⟩ := list_cons h31
  obtain ⟨x32, l33, rfl, h33⟩ := list_cons h32
  obtain ⟨x33, l34, rfl, h34⟩ := list_cons h33
  obtain ⟨x34, l35, rfl, h35⟩ := list_cons h34
  obtain ⟨x35, l36, rfl, h36⟩ := list_cons h35
  obtain ⟨x36, l37, rfl, h37⟩ := list_cons h36
  obtain ⟨x37, l38, rfl, h38⟩ := list_cons h37
  obtain ⟨x38, l39, rfl, h39⟩ := list_cons h38
  obtain ⟨x39, l40, rfl, h40⟩ := list_cons h39
  obtain ⟨x40, l41, rfl, h41⟩ := list_cons h40
  obtain ⟨x41, l42, rfl, h42⟩ := list_cons h41
  obtain ⟨x42, l43, rfl, h43⟩ := list_cons h42
  obtain ⟨x43, l44, rfl, h44⟩ := list_cons h43
  obtain ⟨x44, l45, rfl, h45⟩ := list_cons h44
  obtain ⟨x45, l46, rfl, h46⟩ := list_cons h45
  obtain ⟨x46, l47, rfl, h47⟩ := list_cons h46
  obtain ⟨x47, l48, rfl, h48⟩ := list_cons h47
  obtain ⟨x48, l49, rfl, h49⟩ := list_cons h48
  obtain ⟨x49, l50, rfl, h50⟩ := list_cons h49
  obtain ⟨x50, l51, rfl, h51⟩ := list_cons h50
  obtain ⟨x51, l52, rfl, h52⟩ := list_cons h51
  obtain ⟨x52, l53, rfl, h53⟩ := list_cons h52
  obtain ⟨x53, l54, rfl, h54⟩ := list_cons h53
  obtain ⟨x54, l55, rfl, h55⟩ := list_cons h54
  obtain ⟨x55, l56, rfl, h56⟩ := list_cons h55
  obtain ⟨x56, l57, rfl, h57⟩ := list_cons h56
  obtain ⟨x57, l58, rfl, h58⟩ := list_cons h57
  obtain ⟨x58, l59, rfl, h59⟩ := list_cons h58
  obtain ⟨x59, l60, rfl, h60⟩ := list_cons h59
  obtain ⟨x60, l61, rfl, h61⟩ := list_cons h60
  obtain ⟨x61, l62, rfl, h62⟩ := list_cons h61
  obtain ⟨x62, l63, rfl, h63⟩ := list_cons h62
  obtain ⟨x63, l64, rfl, h64⟩ := list_cons h63
  obtain ⟨x64, l65, rfl, h65⟩ := list_cons h64
  obtain ⟨x65, l66, rfl, h66⟩ := list_cons h65
  obtain ⟨x66, l67, rfl, h67⟩ := list_cons h66
  obtain ⟨x67, l68, rfl, h68⟩ := list_cons h67
  obtain ⟨x68, l69, rfl, h69⟩ := list_cons h68
  obtain ⟨x69, l70, rfl, h70⟩ := list_cons h69
  obtain ⟨x70, l71, rfl, h71⟩ := list_cons h70
  obtain ⟨x71, l72, rfl, h72⟩ := list_cons h71
  obtain ⟨x72, l73, rfl, h73⟩ := list_cons h72
  obtain ⟨x73, l74, rfl, h74⟩ := list_cons h73
  obtain ⟨x74, l75, rfl, h75⟩ := list_cons h74
  obtain ⟨x75, l76, rfl, h76⟩ := list_cons h75
  obtain ⟨x76, l77, rfl, h77⟩ := list_cons h76
  obtain ⟨x77, l78, rfl, h78⟩ := list_cons h77
  obtain ⟨x78, l79, rfl, h79⟩ := list_cons h78
  obtain ⟨x79, l80, rfl, h80⟩ := list_cons h79
  obtain ⟨x80, l81, rfl, h81⟩ := list_cons h80
  obtain ⟨x81, l82, rfl, h82⟩ := list_cons h81
  obtain ⟨x82, l83, rfl, h83⟩ := list_cons h82
  obtain ⟨x83, l84, rfl, h84⟩ := list_cons h83
  obtain ⟨x84, l85, rfl, h85⟩ := list_cons h84
  obtain ⟨x85, l86, rfl, h86⟩ := list_cons h85
  obtain ⟨x86, l87, rfl, h87⟩ := list_cons h86
  obtain ⟨x87, l88, rfl, h88⟩ := list_cons h87
  obtain ⟨x88, l89, rfl, h89⟩ := list_cons h88
  obtain ⟨x89, l90, rfl, h90⟩ := list_cons h89
  obtain ⟨x90, l91, rfl, h91⟩ := list_cons h90
  obtain ⟨x91, l92, rfl, h92⟩ := list_cons h91
  obtain ⟨x92, l93, rfl, h93⟩ := list_cons h92
  obtain ⟨x93, l94, rfl, h94⟩ := list_cons h93
  obtain ⟨x94, l95, rfl, h95⟩ := list_cons h94
  obtain ⟨x95, l96, rfl, h96⟩ := list_cons h95
  obtain ⟨x96, l97, rfl, h97⟩ := list_cons h96
  obtain ⟨x97, l98, rfl, h98⟩ := list_cons h97
  obtain ⟨x98, l99, rfl, h99⟩ := list_cons h98
  obtain ⟨x99, l100, rfl, h100⟩ := list_cons h99
  obtain ⟨x100, l101, rfl, h101⟩ := list_cons h100
  obtain ⟨x101, l102, rfl, h102⟩ := list_cons h101
  obtain ⟨x102, l103, rfl, h103⟩ := list_cons h102
  obtain ⟨x103, l104, rfl, h104⟩ := list_cons h103
  obtain ⟨x104, l105, rfl, h105⟩ := list_cons h104
  obtain rfl := List.eq_nil_of_length_eq_zero h105
  rfl

theorem MB.keep {cl : Int} {P : Option Addr} {n cp : Nat} {R : RawE} {AR : Option Addr} {cR : Nat} {w0 w w' : World} {n0 N : Nat} {es : List Ent} (h : MB cl P n cp R AR cR w0 w n0 N es) (ha : Abv w.heap.size w w') : MB cl P n cp R AR cR w0 w' n0 N es := by
  have hs := h.size
  obtain ⟨sv, hq, hE⟩ := h.hq
  refine ⟨(ha.block _ (by omega)).trans h.he, (ha.block _ (by omega)).trans h.hp, h.hN1, h.hN2, h.all, h.len, ⟨sv, (ha.block _ (by omega)).trans hq, hE.keep fun k cur t _ hk _ => ha.block k (Array.getElem?_eq_some_iff.1 hk).1⟩, Nat.le_trans hs ha.size, h.abv.trans (ha.mono (by have := h.abv.size; omega))⟩

set_option maxHeartbeats 1000000 in
/-- An entry put into a row of its own. -/
theorem ents_set {w : World} {lo g c : Nat} {es : List Ent} (h : EntsAt w lo (.slice (some ⟨g, 0, none⟩) es.length c) es) {i : Nat} (hi : i < es.length) {X : Ent} {A : Option Addr} {cX lo2 : Nat}
    (hX : w.ownsRow lo2 5 1 (.slice A X.by_.length cX) X.by_.length (u8s X.by_)) :
    lo ≤ g ∧ w.there g (i * 8) 8 ∧ ∃ w2, w.setCells g (i * 8) (entArr X A cX).toList = w2 ∧ EntsIn w2 (some ⟨g, 0, none⟩) (es.set i X) ∧ BytesKept 0 w w2 ∧ w2.os = w.os ∧ w2.tape = w.tape ∧ w2.output = w.output ∧ w2.heap.size = w.heap.size ∧ ∀ k, k ≠ g → w2.heap[k]? = w.heap[k]? := by
  obtain ⟨L, hL, hrow⟩ := h
  rcases hrow.2 with ⟨hv, h0⟩ | ⟨g', cap, cur, hv, hg, hh, hc, hm, hs, ht⟩
  · injection hv with h1; cases h1
  injection hv with h1 h2 h3
  injection h1 with h1
  injection h1 with h1
  subst h1 h3
  have hgl : g < w.heap.size := (Array.getElem?_eq_some_iff.1 hh).1
  have hsz : i * 8 + 8 ≤ cur.size := by
    have h5 := hrow.1
    have h6 : (cur.toList.take (es.length * 8)).length = L.length := by rw [ht]
    rw [List.length_take] at h6
    simp only [Array.length_toList] at h6
    omega
  obtain ⟨f1, f2, f3, f4, f5, f6⟩ := setCells_facts g (entArr X A cX).toList (i * 8) w
  obtain ⟨cs', e1, e2, e3⟩ := f6 cur _ hh
  have hlen8 : (entArr X A cX).toList.length = 8 := rfl
  have hk : BytesKept 0 w (w.setCells g (i * 8) (entArr X A cX).toList) := fun k cu _ hku => f5 k (by
    rintro rfl
    rw [hh] at hku
    injection hku with hku
    injection hku with _ e
    exact absurd e (by decide))
  refine ⟨hg, fun j hj => ⟨by rw [cell_of_heap hh (v := cur[i * 8 + j]'(by omega)) (Array.getElem?_eq_getElem _)]; rfl, frozen_of_heap hh⟩, _, rfl, ?_, hk, f1, f2, f3, f4, f5⟩
  refine .inr ⟨g, 0, rfl, by rw [f4]; exact hgl, fun j e he => ?_⟩
  by_cases hji : j = i
  · subst hji
    rw [List.getElem?_set_self hi] at he
    injection he with he
    subst he
    refine ⟨A, cX, own_in (own_kept (own_mono hX (Nat.zero_le _)) hk), fun m v hm => ?_⟩
    have hm8 : m < 8 := by have := (List.getElem?_eq_some_iff.1 hm).1; omega
    rw [Nat.zero_add]
    refine cell_of_heap e1 ?_
    rw [e3, if_neg (by omega), if_pos (by omega), Nat.add_sub_cancel_left, hm]
  · rw [List.getElem?_set_ne (by omega)] at he
    have hjl : j < es.length := (List.getElem?_eq_some_iff.1 he).1
    obtain ⟨V, ⟨bv, hV, ho⟩, hj⟩ := entsC_at hL j e he
    obtain ⟨A', c', rfl⟩ := own_form ho
    refine ⟨A', c', own_in (own_kept (own_mono ho (Nat.zero_le _)) hk), fun m v hm => ?_⟩
    have hm8 : m < 8 := by have := (List.getElem?_eq_some_iff.1 hm).1; simpa [entArr] using this
    rw [Nat.zero_add]
    refine cell_of_heap e1 ?_
    rw [e3, if_pos (by omega)]
    have h5 : L[j * 8 + m]? = some v := by rw [hj m hm8, hV]; exact hm
    rw [← ht, List.getElem?_take_of_lt (by omega)] at h5
    rw [← Array.getElem?_toList]
    exact h5

theorem text_same {N : Nat} {es : List Ent} {i : Nat} {Y : Ent} (h : es[i]? = some Y) : es.set i Y = es := by
  apply List.ext_getElem?
  intro j
  by_cases hj : j = i
  · subst hj
    rw [List.getElem?_set_self (List.getElem?_eq_some_iff.1 h).1, h]
  · rw [List.getElem?_set_ne (by omega)]
theorem text_unlike {N : Nat} {es : List Ent} {i : Nat} {X Y : Ent} (hY : es[i]? = some Y) (hx : Meant X) (hy : Meant Y) (hne : X ≠ Y) : strB (planW N (es.map writW)) ≠ strB (planW N ((es.set i X).map writW)) := by
  intro h
  have h1 : planW N (es.map writW) = planW N ((es.set i X).map writW) := by
    have := congrArg (fun b : ByteArray => b.data.toList) h
    simpa [strB] using this
  have hi : i < es.length := (List.getElem?_eq_some_iff.1 hY).1
  have e1 : es = es.take i ++ Y :: es.drop (i + 1) := by
    rw [← (List.getElem?_eq_some_iff.1 hY).2, List.getElem_cons_drop, List.take_append_drop]
  have e2 : es.set i X = es.take i ++ X :: es.drop (i + 1) := List.set_eq_take_append_cons_drop.trans (if_pos hi)
  rw [e2] at h1
  conv at h1 => lhs; rw [e1]
  rw [List.map_append, List.map_append, List.map_cons, List.map_cons] at h1
  exact hne (writW_inj hx hy (planW_inj h1).symm)

section
variable (cl n1 : Int) (P : Option Addr) (n cp : Nat) (R : RawE) (AR : Option Addr) (cR : Nat)

set_option maxRecDepth 100000 in
set_option maxHeartbeats 2000000 in
theorem pieceD (w0 w : World) (n0 N : Nat) (es : List Ent) (hM : MB cl P n cp R AR cR w0 w n0 N es) (m : Int) (V o cap : Nat) (F : Nat → Option Addr) (C : Nat → Nat)
    (hm : w.cell? ⟨4, 0, none⟩ = some (.int .i64 m)) (hv : VerbsAt V o cap F C w) (hp : PowAt w) (x0 x2 x4 x6 x8 x9 x10 x11 x12 x13 x14 x15 x16 x17 x18 x19 x20 x21 x22 x23 x24 x25 x26 x27 x28 x29 x30 x31 x32 x33 x34 x35 x36 x37 x38 x39 x40 x41 x42 x43 x44 x45 x46 x47 x48 x49 x50 x51 x52 x53 x54 x55 x56 x57 x58 x59 x60 x61 x62 x63 x64 x65 x66 x67 x68 x69 x70 x71 x72 x73 x74 x75 x76 x77 x78 x79 x80 x81 x82 x83 x84 x85 x86 x87 x88 x89 x90 x91 x92 x93 x94 x95 x96 x97 x98 x99 x100 x101 x102 x103 x104 : Value) :
    cD.wp Tryd.prog (fun e a' w' => match e with | .normal => ∃ T, a' = ⟨T, []⟩ ∧ TD T n1 n0 (strB (planW N (es.map writW))) ∧ MB cl P n cp R AR cR w0 w' n0 N es | _ => False) ⟨List.toArray (x0 :: .int .i64 n1 :: x2 :: .pointer (some ⟨n0, 0, none⟩) :: x4 :: .pointer (some ⟨n0 + 1, 0, none⟩) :: x6 :: .pointer (some ⟨n0 + 2, 0, none⟩) :: x8 :: x9 :: x10 :: x11 :: x12 :: x13 :: x14 :: x15 :: x16 :: x17 :: x18 :: x19 :: x20 :: x21 :: x22 :: x23 :: x24 :: x25 :: x26 :: x27 :: x28 :: x29 :: x30 :: x31 :: x32 :: x33 :: x34 :: x35 :: x36 :: x37 :: x38 :: x39 :: x40 :: x41 :: x42 :: x43 :: x44 :: x45 :: x46 :: x47 :: x48 :: x49 :: x50 :: x51 :: x52 :: x53 :: x54 :: x55 :: x56 :: x57 :: x58 :: x59 :: x60 :: x61 :: x62 :: x63 :: x64 :: x65 :: x66 :: x67 :: x68 :: x69 :: x70 :: x71 :: x72 :: x73 :: x74 :: x75 :: x76 :: x77 :: x78 :: x79 :: x80 :: x81 :: x82 :: x83 :: x84 :: x85 :: x86 :: x87 :: x88 :: x89 :: x90 :: x91 :: x92 :: x93 :: x94 :: x95 :: x96 :: x97 :: x98 :: x99 :: x100 :: x101 :: x102 :: x103 :: x104 :: []), []⟩ w := by
  simp only [cD, bodyRo, Tryd.f4, Option.getD_some]
  obtain ⟨sv, hq, hE⟩ := hM.hq
  obtain ⟨A, c, rfl, hin, _⟩ := ents_in hE
  have hlen := hM.len
  have hz := planW_len N hM.hN2 es hM.all
  have hpr := print_good N hM.hN1 hM.hN2 es hM.all (by omega) (by omega) A c w m V o cap F C hm hv hp hin
  have HM := Lib.hid hM
  have HPR := Lib.hid hpr
  have HQ := Lib.hid hq
  clear hM hpr hq hE hin hm hv hp
  go_wp2_with (refine wpList_load_block rfl 31 _ rfl (n0 + 2) _ _ rfl HQ.out (by kernel_rfl) (by kernel_rfl) ?_)
  refine HPR.out.mono ?_
  rintro e' w' ⟨rfl, hb⟩
  have HMB := Lib.hid (HM.out.keep (Abv.of_below hb))
  clear hb
  go_wp2_with fail
  exact ⟨⟨rfl, rfl, rfl, rfl, rfl, rfl⟩, HMB.out⟩

set_option maxRecDepth 100000 in
set_option maxHeartbeats 2000000 in
theorem pieceE (w : World) (n0 : Nat) (s : ByteArray) (hs : 10 ≤ s.size) (hs2 : s.size ≤ 65536) (x0 x2 x3 x4 x6 x8 x11 x12 x13 x14 x15 x16 x17 x18 x19 x20 x21 x22 x23 x24 x25 x26 x27 x28 x29 x30 x31 x32 x33 x34 x35 x36 x37 x38 x39 x40 x41 x42 x43 x44 x45 x46 x47 x48 x49 x50 x51 x52 x53 x54 x55 x56 x57 x58 x59 x60 x61 x62 x63 x64 x65 x66 x67 x68 x69 x70 x71 x72 x73 x74 x75 x76 x77 x78 x79 x80 x81 x82 x83 x84 x85 x86 x87 x88 x89 x90 x91 x92 x93 x94 x95 x96 x97 x98 x99 x100 x101 x102 x103 x104 : Value) :
    cE.wp Tryd.prog (fun e a' w' => match e with | .normal => ∃ T, a' = ⟨T, []⟩ ∧ TD T n1 n0 s ∧ w' = w | _ => False) ⟨List.toArray (x0 :: .int .i64 n1 :: x2 :: x3 :: x4 :: .pointer (some ⟨n0 + 1, 0, none⟩) :: x6 :: .pointer (some ⟨n0 + 2, 0, none⟩) :: x8 :: .string s :: .nilIface :: x11 :: x12 :: x13 :: x14 :: x15 :: x16 :: x17 :: x18 :: x19 :: x20 :: x21 :: x22 :: x23 :: x24 :: x25 :: x26 :: x27 :: x28 :: x29 :: x30 :: x31 :: x32 :: x33 :: x34 :: x35 :: x36 :: x37 :: x38 :: x39 :: x40 :: x41 :: x42 :: x43 :: x44 :: x45 :: x46 :: x47 :: x48 :: x49 :: x50 :: x51 :: x52 :: x53 :: x54 :: x55 :: x56 :: x57 :: x58 :: x59 :: x60 :: x61 :: x62 :: x63 :: x64 :: x65 :: x66 :: x67 :: x68 :: x69 :: x70 :: x71 :: x72 :: x73 :: x74 :: x75 :: x76 :: x77 :: x78 :: x79 :: x80 :: x81 :: x82 :: x83 :: x84 :: x85 :: x86 :: x87 :: x88 :: x89 :: x90 :: x91 :: x92 :: x93 :: x94 :: x95 :: x96 :: x97 :: x98 :: x99 :: x100 :: x101 :: x102 :: x103 :: x104 :: []), []⟩ w := by
  simp only [cE, bodyRo, Tryd.f4, Option.getD_some]
  have h1 : ¬ (s.size : Int) < 10 := by omega
  go_wp2_with fail
  exact ⟨rfl, rfl, rfl, rfl, rfl, rfl⟩
end
end Go.Proofs.YtbjkljmhhpoooaaDoor
