/-
  jotterlaw15.ScriptApart: from Parse's return; the run.
-/
import Derived.Test.YtbjkljmhhpoooaaDoorRoD
import Derived.Test.YtbjkljmhhpoooaaDoorTxt
import Derived.Test.YtbjkljmhhpoooaaDoorRefd
import Derived.Test.YtbjkljmhhpoooaaDoorRefR

/-
  jotterlaw15.ScriptApart: its pieces ahead of Parse.
-/
namespace Go.Proofs.YtbjkljmhhpoooaaDoor
open Go.Conc Go.Co Go.Proofs Go.RowKit
set_option linter.unusedVariables false

/-! ### ScriptApart -/
noncomputable def bodyAp : Code := Tryd.f5.body.getD .skip
noncomputable def ops1Ap : Array Oper := match bodyAp with | .seq _ (.seq (.seq (.region _ ops _) _) _) => ops | _ => #[]
noncomputable def condAp : Code := match bodyAp with | .seq _ (.seq (.seq _ c) _) => c | _ => .skip
noncomputable def restAp : Code := match bodyAp with | .seq _ (.seq _ c) => c | _ => .skip
noncomputable def aA : Code := match restAp with | .seq c _ => c | _ => .skip
noncomputable def aB : Code := match restAp with | .seq _ (.seq c _) => c | _ => .skip
noncomputable def aC : Code := match restAp with | .seq _ (.seq _ (.seq c _)) => c | _ => .skip
noncomputable def aD : Code := match restAp with | .seq _ (.seq _ (.seq _ (.seq c _))) => c | _ => .skip
noncomputable def aE : Code := match restAp with | .seq _ (.seq _ (.seq _ (.seq _ (.seq c _)))) => c | _ => .skip
noncomputable def ops15Ap : Array Oper := match restAp with | .seq _ (.seq _ (.seq _ (.seq _ (.seq _ (.seq (.region _ ops _) _))))) => ops | _ => #[]
noncomputable def aF : Code := match restAp with | .seq _ (.seq _ (.seq _ (.seq _ (.seq _ (.seq _ c))))) => c | _ => .skip
theorem as_ok : okCode Tryd.prog S2 5 aA = true ∧ okCode Tryd.prog S2 5 aB = true ∧ okCode Tryd.prog S2 5 aC = true ∧ okCode Tryd.prog S2 5 aD = true ∧ okCode Tryd.prog S2 5 aE = true ∧ okCode Tryd.prog S2 5 aF = true := ⟨by kernel_rfl, by kernel_rfl, by kernel_rfl, by kernel_rfl, by kernel_rfl, by kernel_rfl⟩
theorem broughtAp : S2.D 5 = [] := by kernel_rfl
set_option maxRecDepth 100000 in
theorem bodyAp_eq : bodyAp = .seq (.region 0 (match bodyAp with | .seq (.region _ ops _) _ => ops | _ => #[]) false) (.seq (.seq (.region 1 ops1Ap false) condAp) restAp) := rfl
set_option maxRecDepth 100000 in
theorem restAp_eq : restAp = .seq aA (.seq aB (.seq aC (.seq aD (.seq aE (.seq (.region 15 ops15Ap false) aF))))) := rfl

def LinesIn (w : World) (P : Option Addr) (n : Nat) : Prop := n = 0 ∨ ∃ b o, P = some ⟨b, o, none⟩ ∧ b < w.heap.size ∧ ∀ i, i < n → ∃ s : ByteArray, s.size ≤ 1048576 ∧ w.cell? ⟨b, o + i, none⟩ = some (.string s)
/-- how many clients -/
def nOf (cl : Int) : Nat := (withinS cl 1 64).toNat
theorem nOf_in (cl : Int) : 1 ≤ nOf cl ∧ nOf cl ≤ 64 ∧ withinS cl 1 64 = ((nOf cl : Nat) : Int) := by
  have := within_in cl 1 64 (by decide)
  unfold nOf
  omega
/-- the text and the entries so far -/
structure MC (w0 w : World) (N : Nat) (T : Nat) (vt vw : Value) (ls : List (List UInt8)) : Prop where
  text : TextAt w w0.heap.size T vt (planW N ls)
  want : WantAt w w0.heap.size T vw (ls.map readL)
  abv : Abv w0.heap.size w0 w
  no10 : ∀ x ∈ ls, (10 : UInt8) ∉ x
  len : ls.length ≤ 1024
  size : (planW N ls).length ≤ 65536

set_option maxRecDepth 100000 in
theorem arr73 {T : Array Value} (h : T.size = 73) : T = List.toArray (T.getD 0 undef :: T.getD 1 undef :: T.getD 2 undef :: T.getD 3 undef :: T.getD 4 undef :: T.getD 5 undef :: T.getD 6 undef :: T.getD 7 undef :: T.getD 8 undef :: T.getD 9 undef :: T.getD 10 undef :: T.getD 11 undef :: T.getD 12 undef :: T.getD 13 undef :: T.getD 14 undef :: T.getD 15 undef :: T.getD 16 undef :: T.getD 17 undef :: T.getD 18 undef :: T.getD 19 undef :: T.getD 20 undef :: T.getD 21 undef :: T.getD 22 undef :: T.getD 23 undef :: T.getD 24 undef :: T.getD 25 undef :: T.getD 26 undef :: T.getD 27 undef :: T.getD 28 undef :: T.getD 29 undef :: T.getD 30 undef :: T.getD 31 undef :: T.getD 32 undef :: T.getD 33 undef :: T.getD 34 undef :: T.getD 35 undef :: T.getD 36 undef :: T.getD 37 undef :: T.getD 38 undef :: T.getD 39 undef :: T.getD 40 undef :: T.getD 41 undef :: T.getD 42 undef :: T.getD 43 undef :: T.getD 44 undef :: T.getD 45 undef :: T.getD 46 undef :: T.getD 47 undef :: T.getD 48 undef :: T.getD 49 undef :: T.getD 50 undef :: T.getD 51 undef :: T.getD 52 undef :: T.getD 53 undef :: T.getD 54 undef :: T.getD 55 undef :: T.getD 56 undef :: T.getD 57 undef :: T.getD 58 undef :: T.getD 59 undef :: T.getD 60 undef :: T.getD 61 undef :: T.getD 62 undef :: T.getD 63 undef :: T.getD 64 undef :: T.getD 65 undef :: T.getD 66 undef :: T.getD 67 undef :: T.getD 68 undef :: T.getD 69 undef :: T.getD 70 undef :: T.getD 71 undef :: T.getD 72 undef :: []) := by
  obtain ⟨l⟩ := T
  have h0 : l.length = 73 := h
  clear h
  obtain ⟨x0, l1, rfl, h1⟩ := list_cons h0
  obtain ⟨x1, l2, rfl, h2⟩ := list_cons h1
  obtain ⟨x2, l3, rfl, h3⟩ := list_cons h2
  obtain ⟨x3, l4, rfl, h4⟩ := list_cons h3
  obtain ⟨x4, l5, rfl, h5⟩ := list_cons h4
  obtain ⟨x5, l6, rfl, h6⟩ := list_cons h5
  obtain ⟨x6, l7, rfl, h7⟩ := list_cons h6
  obtain ⟨x7, l8, rfl, h8⟩ := list_cons h7
  obtain ⟨x8, l9, rfl, h9⟩ := list_cons h8
  obtain ⟨x9, l10, rfl, h10⟩ := list_cons h9
  obtain ⟨x10, l11, rfl, h11⟩ := list_cons h10
  obtain ⟨x11, l12, rfl, h12⟩ := list_cons h11
  obtain ⟨x12, l13, rfl, h13⟩ := list_cons h12
  obtain ⟨x13, l14, rfl, h14⟩ := list_cons h13
  obtain ⟨x14, l15, rfl, h15⟩ := list_cons h14
  obtain ⟨x15, l16, rfl, h16⟩ := list_cons h15
  obtain ⟨x16, l17, rfl, h17⟩ := list_cons h16
  obtain ⟨x17, l18, rfl, h18⟩ := list_cons h17
  obtain ⟨x18, l19, rfl, h19⟩ := list_cons h18
  obtain ⟨x19, l20, rfl, h20⟩ := list_cons h19
  obtain ⟨x20, l21, rfl, h21⟩ := list_cons h20
  obtain ⟨x21, l22, rfl, h22⟩ := list_cons h21
  obtain ⟨x22, l23, rfl, h23⟩ := list_cons h22
  obtain ⟨x23, l24, rfl, h24⟩ := list_cons h23
  obtain ⟨x24, l25, rfl, h25⟩ := list_cons h24
  obtain ⟨x25, l26, rfl, h26⟩ := list_cons h25
  obtain ⟨x26, l27, rfl, h27⟩ := list_cons h26
  obtain ⟨x27, l28, rfl, h28⟩ := list_cons h27
  obtain ⟨x28, l29, rfl, h29⟩ := list_cons h28
  obtain ⟨x29, l30, rfl, h30⟩ := list_cons h29
  obtain ⟨x30, l31, rfl, h31⟩ := list_cons h30
  obtain ⟨x31, l32, rfl, h32⟩ := list_cons h31
  obtain ⟨x32, l33, rfl, h33⟩ := list_cons h32
  obtain ⟨x33, l34, rfl, h34⟩ := list_cons h33
  obtain ⟨x34, l35, rfl, h35⟩ := list_cons h34
  obtain ⟨x35, l36, rfl, h36⟩ := list_cons h35
  obtain ⟨x36, l37, rfl, h37⟩ := list_cons h36
  obtain ⟨x37, l38, rfl, h38⟩ := list_cons h37
  obtain ⟨x38, l39, rfl, h39⟩ := list_cons h38
  obtain ⟨x39, l40, rfl, h40⟩ := list_cons h39
  obtain ⟨x40, l41, rfl, h41⟩ := list_cons h40
  obtain ⟨x41, l42, rfl, h42⟩ := list_cons h41
  obtain ⟨x42, l43, rfl, h43⟩ := list_cons h42
  obtain ⟨x43, l44, rfl, h44⟩ := list_cons h43
  obtain ⟨x44, l45, rfl, h45⟩ := list_cons h44
  obtain ⟨x45, l46, rfl, h46⟩ := list_cons h45
  obtain ⟨x46, l47, rfl, h47⟩ := list_cons h46
  obtain ⟨x47, l48, rfl, h48⟩ := list_cons h47
  obtain ⟨x48, l49, rfl, h49⟩ := list_cons h48
  obtain ⟨x49, l50, rfl, h50⟩ := list_cons h49
  obtain ⟨x50, l51, rfl, h51⟩ := list_cons h50
  obtain ⟨x51, l52, rfl, h52⟩ := list_cons h51
  obtain ⟨x52, l53, rfl, h53⟩ := list_cons h52
  obtain ⟨x53, l54, rfl, h54⟩ := list_cons h53
  obtain ⟨x54, l55, rfl, h55⟩ := list_cons h54
  obtain ⟨x55, l56, rfl, h56⟩ := list_cons h55
  obtain ⟨x56, l57, rfl, h57⟩ := list_cons h56
  obtain ⟨x57, l58, rfl, h58⟩ := list_cons h57
  obtain ⟨x58, l59, rfl, h59⟩ := list_cons h58
  obtain ⟨x59, l60, rfl, h60⟩ := list_cons h59
  obtain ⟨x60, l61, rfl, h61⟩ := list_cons h60
  obtain ⟨x61, l62, rfl, h62⟩ := list_cons h61
  obtain ⟨x62, l63, rfl, h63⟩ := list_cons h62
  obtain ⟨x63, l64, rfl, h64⟩ := list_cons h63
  obtain ⟨x64, l65, rfl, h65⟩ := list_cons h64
  obtain ⟨x65, l66, rfl, h66⟩ := list_cons h65
  obtain ⟨x66, l67, rfl, h67⟩ := list_cons h66
  obtain ⟨x67, l68, rfl, h68⟩ := list_cons h67
  obtain ⟨x68, l69, rfl, h69⟩ := list_cons h68
  obtain ⟨x69, l70, rfl, h70⟩ := list_cons h69
  obtain ⟨x70, l71, rfl, h71⟩ := list_cons h70
  obtain ⟨x71, l72, rfl, h72⟩ := list_cons h71
  obtain ⟨x72, l73, rfl, h73⟩ := list_cons h72
  obtain rfl := List.eq_nil_of_length_eq_zero h73
  rfl

structure SA (T : Array Value) (cl : Int) (P : Option Addr) (n cp : Nat) (s : ByteArray) : Prop where
  size : T.size = 73
  t0 : T[0]? = some (.int .i64 cl)
  t1 : T[1]? = some (.slice P n cp)
  t5 : T[5]? = some (.string s)
  t6 : T[6]? = some .nilIface
structure SC (T : Array Value) (cl : Int) (P : Option Addr) (n cp : Nat) (vt : Value) : Prop where
  size : T.size = 73
  t0 : T[0]? = some (.int .i64 cl)
  t1 : T[1]? = some (.slice P n cp)
  t7 : T[7]? = some vt
structure SD (T : Array Value) (cl : Int) (P : Option Addr) (n cp : Nat) (vt vw : Value) : Prop where
  size : T.size = 73
  t0 : T[0]? = some (.int .i64 cl)
  t1 : T[1]? = some (.slice P n cp)
  t7 : T[7]? = some vt
  t8 : T[8]? = some vw

theorem MC.below {w0 w w' : World} {N T : Nat} {vt vw : Value} {ls : List (List UInt8)} (h : MC w0 w N T vt vw ls) (hb : Below w.heap.size w w') : MC w0 w' N T vt vw ls := by
  have hT := h.text.lt
  obtain ⟨cap, cur, fz, _, _, h3, _⟩ := h.text
  exact ⟨h.text.keep (hb.block T hT), h.want.keep (fun b cur t fz _ hc => hb.block b (Array.getElem?_eq_some_iff.1 hc).1) (.inl rfl) ⟨cur, fz, h3⟩, h.abv.trans ((Abv.of_below hb).mono h.abv.size), h.no10, h.len, h.size⟩
theorem fit_of {a b c : Nat} (h0 : b = c) (h1 : IntKind.i64.wrap ((a : Int) + (b : Int)) = (a : Int) + (b : Int)) (h2 : IntKind.i64.wrap ((a : Int) + (b : Int) + 1) = (a : Int) + (b : Int) + 1) (h : wrap64 (wrap64 ((a : Int) + (b : Int)) + 1) ≤ 65536) : a + c + 1 ≤ 65536 := by
  rw [IntWalk.i64_left] at h1 h2
  rw [h1, h2] at h
  subst h0
  clear h1 h2
  omega
theorem text_typed {w : World} {lo T : Nat} {v : Value} {bs : List UInt8} (h : TextAt w lo T v bs) : ∃ cur fz, w.heap[T]? = some (.cells cur 5 fz) := by
  obtain ⟨cap, cur, fz, _, _, h3, _⟩ := h
  exact ⟨cur, fz, h3⟩
theorem new_cells (w : World) (s : ByteArray) (l : List UInt8) (hl : s.data.toList = l) : ∀ j (hj : j < l.length), ((w.alloc (.cells (bytesRow s (grownCap w s.size 0 5)) 5 ((bytesRow s (grownCap w s.size 0 5)).size, (bytesRow s (grownCap w s.size 0 5)).size + 1))).drew).cell? ((⟨w.heap.size, 0, none⟩ : Addr).add j) = some (.int .u8 (l[j].toNat : Int)) := by
  subst hl
  intro j hj
  rw [Addr.add_mid, Nat.zero_add]
  refine cell_of_heap (alloc_at rfl) ?_
  rw [bytesRow_at s _ j (by simpa using hj)]
  simp

section
variable (cl : Int) (P : Option Addr) (n cp : Nat)
set_option maxRecDepth 100000 in
set_option maxHeartbeats 2000000 in
theorem stepA (w0 w : World) (hcl : i64 cl) (hA : Abv w0.heap.size w0 w) (m : Int) (V o cap : Nat) (F : Nat → Option Addr) (C : Nat → Nat)
    (hm : w.cell? ⟨4, 0, none⟩ = some (.int .i64 m)) (hv : VerbsAt V o cap F C w) (hp : PowAt w) (x2 x3 x4 x5 x6 x7 x8 x9 x10 x11 x12 x13 x14 x15 x16 x17 x18 x19 x20 x21 x22 x23 x24 x25 x26 x27 x28 x29 x30 x31 x32 x33 x34 x35 x36 x37 x38 x39 x40 x41 x42 x43 x44 x45 x46 x47 x48 x49 x50 x51 x52 x53 x54 x55 x56 x57 x58 x59 x60 x61 x62 x63 x64 x65 x66 x67 x68 x69 x70 x71 x72 : Value) :
    aA.wp Tryd.prog (fun e a' w' => match e with | .normal => ∃ T, a' = ⟨T, []⟩ ∧ SA T cl P n cp (strB (planW (nOf cl) [])) ∧ Abv w0.heap.size w0 w' | _ => False) ⟨List.toArray (.int .i64 cl :: .slice P n cp :: x2 :: x3 :: x4 :: x5 :: x6 :: x7 :: x8 :: x9 :: x10 :: x11 :: x12 :: x13 :: x14 :: x15 :: x16 :: x17 :: x18 :: x19 :: x20 :: x21 :: x22 :: x23 :: x24 :: x25 :: x26 :: x27 :: x28 :: x29 :: x30 :: x31 :: x32 :: x33 :: x34 :: x35 :: x36 :: x37 :: x38 :: x39 :: x40 :: x41 :: x42 :: x43 :: x44 :: x45 :: x46 :: x47 :: x48 :: x49 :: x50 :: x51 :: x52 :: x53 :: x54 :: x55 :: x56 :: x57 :: x58 :: x59 :: x60 :: x61 :: x62 :: x63 :: x64 :: x65 :: x66 :: x67 :: x68 :: x69 :: x70 :: x71 :: x72 :: []), []⟩ w := by
  simp only [aA, restAp, bodyAp, Tryd.f5, Option.getD_some]
  obtain ⟨hN1, hN2, hN⟩ := nOf_in cl
  have hpr := print_good (nOf cl) hN1 hN2 [] (fun e he => by cases he) (by decide) (Nat.le_trans (planW_len (nOf cl) hN2 [] (fun e he => by cases he)) (by decide)) none 0 w m V o cap F C hm hv hp (.inl ⟨rfl, rfl⟩)
  have HA := Lib.hid hA
  have HPR := Lib.hid hpr
  have HN := Lib.hid hN
  clear hA hpr hm hv hp hN
  go_wp2_with fail
  refine (within_calls cl 1 64 hcl.1 hcl.2 (by decide) (by decide) (by decide) _).mono ?_
  rintro e' w' ⟨rfl, rfl⟩
  rw [HN.out]
  go_wp2_with fail
  refine HPR.out.mono ?_
  rintro e' w' ⟨rfl, hb⟩
  have HB := Lib.hid (HA.out.trans (Abv.of_below (hb.mono HA.out.size)))
  clear hb
  go_wp2_with fail
  exact ⟨⟨rfl, rfl, rfl, rfl, rfl⟩, HB.out⟩
theorem stepB (w : World) (s : ByteArray) (x2 x3 x4 x7 x8 x9 x10 x11 x12 x13 x14 x15 x16 x17 x18 x19 x20 x21 x22 x23 x24 x25 x26 x27 x28 x29 x30 x31 x32 x33 x34 x35 x36 x37 x38 x39 x40 x41 x42 x43 x44 x45 x46 x47 x48 x49 x50 x51 x52 x53 x54 x55 x56 x57 x58 x59 x60 x61 x62 x63 x64 x65 x66 x67 x68 x69 x70 x71 x72 : Value) :
    aB.wp Tryd.prog (fun e a' w' => match e with | .normal => ∃ T, a' = ⟨T, []⟩ ∧ SA T cl P n cp s ∧ w' = w | _ => False) ⟨List.toArray (.int .i64 cl :: .slice P n cp :: x2 :: x3 :: x4 :: .string s :: .nilIface :: x7 :: x8 :: x9 :: x10 :: x11 :: x12 :: x13 :: x14 :: x15 :: x16 :: x17 :: x18 :: x19 :: x20 :: x21 :: x22 :: x23 :: x24 :: x25 :: x26 :: x27 :: x28 :: x29 :: x30 :: x31 :: x32 :: x33 :: x34 :: x35 :: x36 :: x37 :: x38 :: x39 :: x40 :: x41 :: x42 :: x43 :: x44 :: x45 :: x46 :: x47 :: x48 :: x49 :: x50 :: x51 :: x52 :: x53 :: x54 :: x55 :: x56 :: x57 :: x58 :: x59 :: x60 :: x61 :: x62 :: x63 :: x64 :: x65 :: x66 :: x67 :: x68 :: x69 :: x70 :: x71 :: x72 :: []), []⟩ w := by
  simp only [aB, restAp, bodyAp, Tryd.f5, Option.getD_some]
  go_wp2_with fail
  exact ⟨rfl, rfl, rfl, rfl, rfl⟩
set_option maxRecDepth 100000 in
set_option maxHeartbeats 2000000 in
theorem stepC (w0 w : World) (hA : Abv w0.heap.size w0 w) (x2 x3 x4 x7 x8 x9 x10 x11 x12 x13 x14 x15 x16 x17 x18 x19 x20 x21 x22 x23 x24 x25 x26 x27 x28 x29 x30 x31 x32 x33 x34 x35 x36 x37 x38 x39 x40 x41 x42 x43 x44 x45 x46 x47 x48 x49 x50 x51 x52 x53 x54 x55 x56 x57 x58 x59 x60 x61 x62 x63 x64 x65 x66 x67 x68 x69 x70 x71 x72 : Value) :
    aC.wp Tryd.prog (fun e a' w' => match e with | .normal => ∃ T, a' = ⟨T, []⟩ ∧ ∃ vt T0, SC T cl P n cp vt ∧ MC w0 w' (nOf cl) T0 vt (.slice none 0 0) [] | _ => False) ⟨List.toArray (.int .i64 cl :: .slice P n cp :: x2 :: x3 :: x4 :: .string (strB (planW (nOf cl) [])) :: .nilIface :: x7 :: x8 :: x9 :: x10 :: x11 :: x12 :: x13 :: x14 :: x15 :: x16 :: x17 :: x18 :: x19 :: x20 :: x21 :: x22 :: x23 :: x24 :: x25 :: x26 :: x27 :: x28 :: x29 :: x30 :: x31 :: x32 :: x33 :: x34 :: x35 :: x36 :: x37 :: x38 :: x39 :: x40 :: x41 :: x42 :: x43 :: x44 :: x45 :: x46 :: x47 :: x48 :: x49 :: x50 :: x51 :: x52 :: x53 :: x54 :: x55 :: x56 :: x57 :: x58 :: x59 :: x60 :: x61 :: x62 :: x63 :: x64 :: x65 :: x66 :: x67 :: x68 :: x69 :: x70 :: x71 :: x72 :: []), []⟩ w := by
  simp only [aC, restAp, bodyAp, Tryd.f5, Option.getD_some]
  have hsz : (planW (nOf cl) []).length ≤ 65536 := Nat.le_trans (planW_len (nOf cl) (nOf_in cl).2.1 [] (fun e he => by cases he)) (by decide)
  have hdt : (strB (planW (nOf cl) [])).data.toList = planW (nOf cl) [] := rfl
  generalize nOf cl = N at hsz hdt ⊢
  generalize strB (planW N []) = s at hdt ⊢
  have HA := Lib.hid hA
  have HS := Lib.hid hsz
  have HD := Lib.hid hdt
  clear hA hsz hdt
  have kc := run_bytes_of_string (P := Tryd.prog) w 9 22 5 s Tryd.underlying9 Tryd.underlying22 Tryd.underlying5
  have ht := text_new w s 5 rfl _ rfl
  have HT := Lib.hid ht
  clear ht
  go_wp2_with fail
  have ht : TextAt (w.alloc (.cells (bytesRow s (grownCap w s.size 0 5)) 5 ((bytesRow s (grownCap w s.size 0 5)).size, (bytesRow s (grownCap w s.size 0 5)).size + 1))).drew w0.heap.size w.heap.size (.slice (some ⟨w.heap.size, 0, none⟩) s.size (grownCap w s.size 0 5)) (planW N []) := by
    rw [← HD.out]
    exact HT.out.mono HA.out.size
  exact ⟨_, ⟨rfl, rfl, rfl, rfl⟩, _, ⟨ht, WantAt.nil _ _ _, ⟨HA.out.os, HA.out.output, Nat.le_trans HA.out.size (by simp), (HA.out.push HA.out.size _).block⟩, fun x hx => (by cases hx), Nat.zero_le _, HS.out⟩⟩
set_option maxRecDepth 100000 in
theorem stepD (w : World) (vt : Value) (x2 x3 x4 x5 x6 x8 x9 x10 x11 x12 x13 x14 x15 x16 x17 x18 x19 x20 x21 x22 x23 x24 x25 x26 x27 x28 x29 x30 x31 x32 x33 x34 x35 x36 x37 x38 x39 x40 x41 x42 x43 x44 x45 x46 x47 x48 x49 x50 x51 x52 x53 x54 x55 x56 x57 x58 x59 x60 x61 x62 x63 x64 x65 x66 x67 x68 x69 x70 x71 x72 : Value) :
    aD.wp Tryd.prog (fun e a' w' => match e with | .normal => ∃ T, a' = ⟨T, []⟩ ∧ SD T cl P n cp vt (.slice none 0 0) ∧ w' = w | _ => False) ⟨List.toArray (.int .i64 cl :: .slice P n cp :: x2 :: x3 :: x4 :: x5 :: x6 :: vt :: x8 :: x9 :: x10 :: x11 :: x12 :: x13 :: x14 :: x15 :: x16 :: x17 :: x18 :: x19 :: x20 :: x21 :: x22 :: x23 :: x24 :: x25 :: x26 :: x27 :: x28 :: x29 :: x30 :: x31 :: x32 :: x33 :: x34 :: x35 :: x36 :: x37 :: x38 :: x39 :: x40 :: x41 :: x42 :: x43 :: x44 :: x45 :: x46 :: x47 :: x48 :: x49 :: x50 :: x51 :: x52 :: x53 :: x54 :: x55 :: x56 :: x57 :: x58 :: x59 :: x60 :: x61 :: x62 :: x63 :: x64 :: x65 :: x66 :: x67 :: x68 :: x69 :: x70 :: x71 :: x72 :: []), []⟩ w := by
  simp only [aD, restAp, bodyAp, Tryd.f5, Option.getD_some]
  go_wp2_with fail
  exact ⟨rfl, rfl, rfl, rfl, rfl⟩

theorem readL_def (l : List UInt8) : readL l = lineS (wordsB (ofL l)) := rfl
theorem fl_no10 (l : List UInt8) : (10 : UInt8) ∉ fl l := by
  unfold fl
  intro h
  have := (List.mem_filter.1 h).2
  simp at this

set_option maxRecDepth 100000 in
set_option maxHeartbeats 4000000 in
theorem stepE (w0 w : World) (N T0 : Nat) (vt : Value) (hl : LinesIn w0 P n) (hM : MC w0 w N T0 vt (.slice none 0 0) []) (m : Int) (V o cap : Nat) (F : Nat → Option Addr) (C : Nat → Nat)
    (hm : w0.cell? ⟨4, 0, none⟩ = some (.int .i64 m)) (hv : VerbsAt V o cap F C w0) (x2 x3 x4 x5 x6 x9 x10 x11 x12 x13 x14 x15 x16 x17 x18 x19 x20 x21 x22 x23 x24 x25 x26 x27 x28 x29 x30 x31 x32 x33 x34 x35 x36 x37 x38 x39 x40 x41 x42 x43 x44 x45 x46 x47 x48 x49 x50 x51 x52 x53 x54 x55 x56 x57 x58 x59 x60 x61 x62 x63 x64 x65 x66 x67 x68 x69 x70 x71 x72 : Value) :
    aE.wp Tryd.prog (fun e a' w' => match e with | .normal => ∃ T, a' = ⟨T, []⟩ ∧ ∃ vt vw, SD T cl P n cp vt vw ∧ ∃ T0 ls, MC w0 w' N T0 vt vw ls | _ => False) ⟨List.toArray (.int .i64 cl :: .slice P n cp :: x2 :: x3 :: x4 :: x5 :: x6 :: vt :: .slice none 0 0 :: x9 :: x10 :: x11 :: x12 :: x13 :: x14 :: x15 :: x16 :: x17 :: x18 :: x19 :: x20 :: x21 :: x22 :: x23 :: x24 :: x25 :: x26 :: x27 :: x28 :: x29 :: x30 :: x31 :: x32 :: x33 :: x34 :: x35 :: x36 :: x37 :: x38 :: x39 :: x40 :: x41 :: x42 :: x43 :: x44 :: x45 :: x46 :: x47 :: x48 :: x49 :: x50 :: x51 :: x52 :: x53 :: x54 :: x55 :: x56 :: x57 :: x58 :: x59 :: x60 :: x61 :: x62 :: x63 :: x64 :: x65 :: x66 :: x67 :: x68 :: x69 :: x70 :: x71 :: x72 :: []), []⟩ w := by
  simp only [aE, restAp, bodyAp, Tryd.f5, Option.getD_some]
  have HM := Lib.hid hM
  have HL := Lib.hid hl
  have HMX := Lib.hid hm
  have HV := Lib.hid hv
  clear hM hl hm hv
  go_wp2_with fail
  go_loopw [7, 8, 9] (fun vt vw vi wr => ∃ i : Nat, i ≤ n ∧ i ≤ 1024 ∧ vi = .int .i64 (i : Int) ∧ ∃ T0 ls, ls.length = i ∧ MC w0 wr N T0 vt vw ls) (fun _ _ vi _ => 1024 - (intOf vi).toNat)
  case atStart => exact ⟨0, Nat.zero_le _, Nat.zero_le _, rfl, T0, [], rfl, HM.out⟩
  case round =>
    obtain ⟨i, hi, hi2, rfl, T1, ls, hls, hm⟩ := hrel
    have HC := Lib.hid hm
    have HLS := Lib.hid hls
    obtain ⟨cap1, cur1, fz1, rfl, _⟩ := hm.text
    clear hm hls
    by_cases hlt : i < n
    · have hlt' : (i : Int) < (n : Int) := by omega
      by_cases h1024 : i < 1024
      · have h1024' : (i : Int) < 1024 := by omega
        obtain ⟨b, o', rfl, hb, s, hs, hcs⟩ : ∃ b o', P = some ⟨b, o', none⟩ ∧ b < w0.heap.size ∧ ∃ s : ByteArray, s.size ≤ 1048576 ∧ w0.cell? ⟨b, o' + i, none⟩ = some (.string s) := by
          rcases HL.out with h | ⟨b, o', h1, h2, h3⟩
          · omega
          · obtain ⟨s, k1, k2⟩ := h3 i hlt
            exact ⟨b, o', h1, h2, s, k1, k2⟩
        have hcr := cell_abv hcs HC.out.abv
        go_wp2_with fail
        refine (plain_calls s hs wr).mono ?_
        rintro e' w1 ⟨rfl, hb1⟩
        have HC1 := Lib.hid (HC.out.below hb1)
        have hl10 := fl_no10 s.data.toList
        have hll : (fl s.data.toList).length ≤ 1048576 := Nat.le_trans (fl_len _) (by simpa using hs)
        have hPS := HC.out.size
        clear hb1 hcr hcs
        generalize fl s.data.toList = l at hl10 hll ⊢
        have hsl : (ofL l).size = l.length := rfl
        have hld : (ofL l).data.toList = l := rfl
        generalize hlb : ofL l = lb at hsl hld ⊢
        have HLB := Lib.hid hlb
        clear hlb
        have hi64 : IntKind.i64.wrap ((i : Int) + 1) = (i : Int) + 1 := IntWalk.i64_in _ (by omega)
        have hw1 : IntKind.i64.wrap (((planW N ls).length : Int) + (lb.size : Int)) = ((planW N ls).length : Int) + (lb.size : Int) := IntWalk.i64_in _ (by rw [hsl]; omega)
        have hw2 : IntKind.i64.wrap (((planW N ls).length : Int) + (lb.size : Int) + 1) = ((planW N ls).length : Int) + (lb.size : Int) + 1 := IntWalk.i64_in _ (by rw [hsl]; omega)
        have hx1 : ¬ 9223372036854775807 < lb.size + 1 := by rw [hsl]; omega
        have hsd : (lb ++ ⟨#[10]⟩ : ByteArray).data.toList = l ++ [10] := by rw [ByteArray.data_append, Array.toList_append, hld]
        have hss : (lb ++ ⟨#[10]⟩ : ByteArray).size = (l ++ [10]).length := by rw [ByteArray.size_append, List.length_append, hsl]; rfl
        generalize hcat : (lb ++ ⟨#[10]⟩ : ByteArray) = sn at hsd hss
        have kc := run_bytes_of_string (P := Tryd.prog) w1 9 22 5 sn Tryd.underlying9 Tryd.underlying22 Tryd.underlying5
        have hnew := new_cells w1 sn (l ++ [10]) hsd
        have hnn : (planW N ls).length + (l ++ [10]).length ≤ 1099511627776 := by rw [List.length_append]; simp only [List.length_cons, List.length_nil]; omega
        have HW1 := Lib.hid hw1
        have HW2 := Lib.hid hw2
        clear hw1 hw2
        have HL10 := Lib.hid hl10
        have HLL := Lib.hid hll
        have HNEW := Lib.hid hnew
        have HSS := Lib.hid hss
        have HNN := Lib.hid hnn
        have HSL := Lib.hid hsl
        clear hnew hsd hss hnn hsl hld hl10 hll
        have hMC2 := HC1.out.below (show Below w1.heap.size w1 ((w1.alloc (.cells (bytesRow sn (grownCap w1 sn.size 0 5)) 5 ((bytesRow sn (grownCap w1 sn.size 0 5)).size, (bytesRow sn (grownCap w1 sn.size 0 5)).size + 1))).drew) from ((Below.refl _ w1).alloc (Nat.le_refl _) _).drew)
        have HMC2 := Lib.hid hMC2
        clear hMC2
        go_wp2_with (at_builtin; refine wpList_append_text rfl (.tmp 47) (.tmp 50) rfl rfl HMC2.out.text ⟨w1.heap.size, 0, none⟩ _ _ (l ++ [10]) rfl ?hmm ?hcc HNN.out ?_)
        case hmm => exact HSS.out
        case hcc => exact HNEW.out
        · exact ⟨_, _, ⟨rfl, rfl, rfl, rfl, rfl⟩, T1, ls, HC1.out⟩
        · rename_i hfit K0 a0
          intro T2 v2 w2 ht2 hg2 hT2
          have hle : (planW N ls).length + l.length + 1 ≤ 65536 := fit_of HSL.out HW1.out HW2.out hfit
          have hmc := HMC2.out
          have hlo : w0.heap.size ≤ T1 := by obtain ⟨_, _, _, _, h, _⟩ := hmc.text; exact h
          have hww : WantAt w2 w0.heap.size T2 u8 (ls.map readL) := hmc.want.keep (fun b cur t fz hb hc => hg2.block b (Array.getElem?_eq_some_iff.1 hc).1 hb) (hT2.imp id fun h => by simp; omega) (text_typed hmc.text)
          have hA2 : Abv w0.heap.size w0 w2 := hmc.abv.trans (Abv.of_below (hg2.below hlo hmc.abv.size))
          have hline := line_calls lb w2 m V o cap F C (by have := HSL.out; omega) (cell_abv HMX.out hA2) (verbs_abv HV.out hA2)
          have HLINE := Lib.hid hline
          have HT2 := Lib.hid ht2
          have HWW := Lib.hid hww
          have HA2 := Lib.hid hA2
          have HLE := Lib.hid hle
          clear hfit hmc hww hA2 hline ht2 hle hlo hg2 hT2 kc
          go_wp2_with fail
          refine HLINE.out.mono ?_
          intro e' w3 h
          obtain ⟨A3, c3, rfl, ho3, hb3⟩ := h.lay
          clear h
          have hE : readL l = lineS (wordsB lb) := by rw [← HLB.out]; rfl
          generalize lineS (wordsB lb) = E at ho3 hE ⊢
          have hTl := HT2.out.lt
          have hb34 : Below w2.heap.size w2 (w3.alloc (.cells (entArr E A3 c3) 25)) := hb3.trans ((Below.refl _ w3).alloc hb3.size _)
          have hER : EntR (w3.alloc (.cells (entArr E A3 c3) 25)) T2 E (entArr E A3 c3).toList := entR_of (own_below ho3 ((Below.refl _ w3).alloc (Nat.le_refl _) _)) hTl
          have hW3 : WantAt (w3.alloc (.cells (entArr E A3 c3) 25)) w0.heap.size T2 u8 (ls.map readL) := HWW.out.keep (fun b cur t fz _ hc => hb34.block b (Array.getElem?_eq_some_iff.1 hc).1) (.inl rfl) (text_typed HT2.out)
          have hT3 : TextAt (w3.alloc (.cells (entArr E A3 c3) 25)) w0.heap.size T2 v2 (planW N ls ++ (l ++ [10])) := HT2.out.keep (hb34.block T2 hTl)
          have hA3 : Abv w0.heap.size w0 (w3.alloc (.cells (entArr E A3 c3) 25)) := HA2.out.trans (Abv.of_below (hb34.mono HA2.out.size))
          have hlen : (ls.map readL).length ≤ 1048576 := by rw [List.length_map]; have := HLS.out; omega
          have HER := Lib.hid hER
          have HW3 := Lib.hid hW3
          have HT3 := Lib.hid hT3
          have HA3 := Lib.hid hA3
          have HLEN := Lib.hid hlen
          have HE := Lib.hid hE
          clear hER hW3 hT3 hA3 hlen hE hb34 hb3 ho3
          go_wp2_with (at_builtin; refine wpList_append_want rfl (.tmp 52) (.tmp 55) rfl rfl HW3.out HA3.out.size w3.heap.size 1 rfl (entArr E A3 c3) HER.out (alloc_at rfl) HLEN.out (text_typed HT3.out) ?_)
          intro v4 w4 hw4 hb4 ht4
          have HMC4 : MC w0 w4 N T2 v2 v4 (ls ++ [l]) := by
            refine ⟨?_, ?_, HA3.out.trans (Abv.of_below hb4), ?_, ?_, ?_⟩
            · rw [planW_snoc]; exact HT3.out.keep ht4
            · rw [List.map_append, List.map_cons, List.map_nil, HE.out]; exact hw4
            · intro x hx
              rcases List.mem_append.1 hx with hx | hx
              · exact HC1.out.no10 x hx
              · rw [List.mem_singleton.1 hx]; exact HL10.out
            · rw [List.length_append]; have := HLS.out; simp only [List.length_cons, List.length_nil]; omega
            · rw [planW_snoc, List.length_append, List.length_append]; have := HLE.out; simp only [List.length_cons, List.length_nil]; omega
          have HM4 := Lib.hid HMC4
          clear HMC4 hw4 hb4 ht4
          go_wp2_with fail
          go_roundw
          case rel => exact ⟨i + 1, by omega, by omega, by push_cast; rfl, T2, ls ++ [l], by rw [List.length_append, HLS.out]; rfl, HM4.out⟩
          case measure => simp [intOf]; omega
      · have h1024' : ¬ (i : Int) < 1024 := by omega
        go_wp2_with fail
        exact ⟨_, _, ⟨rfl, rfl, rfl, rfl, rfl⟩, T1, ls, HC.out⟩
    · have hlt' : ¬ (i : Int) < (n : Int) := by omega
      go_wp2_with fail
      exact ⟨_, _, ⟨rfl, rfl, rfl, rfl, rfl⟩, T1, ls, HC.out⟩
end
end Go.Proofs.YtbjkljmhhpoooaaDoor

/-
  jotterlaw15.ScriptApart: behind Parse.
-/
namespace Go.Proofs.YtbjkljmhhpoooaaDoor
open Go.Conc Go.Co Go.Proofs Go.RowKit
set_option linter.unusedVariables false

section
variable (cl : Int) (P : Option Addr) (n cp : Nat)
set_option maxRecDepth 100000 in
set_option maxHeartbeats 4000000 in
theorem stepF (w0 w : World) (T0 : Nat) (vt vw : Value) (ls : List (List UInt8)) (hcl : i64 cl) (hM : MC w0 w (nOf cl) T0 vt vw ls) (pr lo2 : Nat) (svr : Value) (hpr : w.heap[pr]? = some (.cells #[.int .i64 ((nOf cl : Nat) : Int), svr] 31 (0, 0))) (hE2 : EntsAt w lo2 svr (ls.map readL)) (hbl : ∀ e ∈ ls.map readL, e.by_.length ≤ 1099511627776) (x1 x2 x3 x4 x5 x7 x9 x10 x12 x13 x14 x15 x16 x17 x18 x19 x20 x21 x22 x23 x24 x25 x26 x27 x28 x29 x30 x31 x32 x33 x34 x35 x36 x37 x38 x39 x40 x41 x42 x43 x44 x45 x46 x47 x48 x49 x50 x51 x52 x53 x54 x55 x56 x57 x58 x59 x60 x61 x62 x63 x64 x65 x66 x67 x68 x69 x70 x71 x72 : Value) :
    aF.wp Tryd.prog (fun e a' w' => match e with | .ret => ∃ T, a' = ⟨T, []⟩ ∧ T[4]? = some (.bool true) ∧ Below w.heap.size w w' | _ => False) ⟨List.toArray (.int .i64 cl :: x1 :: x2 :: x3 :: x4 :: x5 :: .nilIface :: x7 :: vw :: x9 :: x10 :: .pointer (some ⟨pr, 0, none⟩) :: x12 :: x13 :: x14 :: x15 :: x16 :: x17 :: x18 :: x19 :: x20 :: x21 :: x22 :: x23 :: x24 :: x25 :: x26 :: x27 :: x28 :: x29 :: x30 :: x31 :: x32 :: x33 :: x34 :: x35 :: x36 :: x37 :: x38 :: x39 :: x40 :: x41 :: x42 :: x43 :: x44 :: x45 :: x46 :: x47 :: x48 :: x49 :: x50 :: x51 :: x52 :: x53 :: x54 :: x55 :: x56 :: x57 :: x58 :: x59 :: x60 :: x61 :: x62 :: x63 :: x64 :: x65 :: x66 :: x67 :: x68 :: x69 :: x70 :: x71 :: x72 :: []), []⟩ w := by
  simp only [aF, restAp, bodyAp, Tryd.f5, Option.getD_some]
  obtain ⟨hN1, hN2, hN⟩ := nOf_in cl
  obtain ⟨A, c, hvw, hin⟩ := want_in hM.want
  obtain ⟨B, c2, hsv, hin2, _⟩ := ents_in hE2
  subst hvw hsv
  have hlen : (ls.map readL).length ≤ 1048576 := by rw [List.length_map]; have := hM.len; omega
  generalize ls.map readL = es at *
  have hal : ∀ w', Below w.heap.size w w' → Calls Tryd.prog 16 #[.agg #[.int .i64 ((nOf cl : Nat) : Int), .slice B es.length c2], .agg #[.int .i64 ((nOf cl : Nat) : Int), .slice A es.length c]] w' fun r w2 => r = .returned (.bool true) ∧ Below w'.heap.size w' w2 := fun w' h => alike_plans (nOf cl) es hbl hlen B A c2 c w' (hin2.below h) (hin.below h)
  have hpl : ∀ w', Below w.heap.size w w' → w'.rangeAt pr 0 (#[.int .i64 ((nOf cl : Nat) : Int), .slice B es.length c2] : Array Value).toList := fun w' h => range_block ((h.block pr (Array.getElem?_eq_some_iff.1 hpr).1).trans hpr)
  have HAL := Lib.hid hal
  have HPL := Lib.hid hpl
  have HN := Lib.hid hN
  clear hM hpr hE2 hin hin2 hal hpl hlen hbl hN
  go_wp2_with fail
  refine wp_region_held_drew (S := fun w' => Below w.heap.size w w') (by kernel_rfl) ((Below.refl _ _).drew) (fun hHeld => ?_)
  refine wpAnyH_take (i := 0) (v := .nilIface) rfl (by kernel_rfl) (by kernel_rfl) (by kernel_rfl) (fun _ _ _ h => h) (Or.inl ⟨by rfl, fun w' hw' => ?_⟩) (by assumption) ?_
  · go_simp
  change wpAnyH _ _ _ _ _ _ _ ⟨List.toArray (_ :: _ :: _ :: _ :: _ :: _ :: _ :: _ :: _ :: _ :: _ :: _ :: _ :: _ :: _ :: _ :: _ :: _ :: _ :: _ :: _ :: _ :: _ :: _ :: _ :: _ :: _ :: _ :: _ :: _ :: _ :: _ :: _ :: _ :: _ :: _ :: _ :: _ :: _ :: _ :: _ :: _ :: _ :: _ :: _ :: _ :: _ :: _ :: _ :: _ :: _ :: _ :: _ :: _ :: _ :: _ :: _ :: _ :: _ :: _ :: _ :: _ :: _ :: .nilIface :: _ :: _ :: _ :: _ :: _ :: _ :: _ :: _ :: _ :: []), []⟩ _
  refine wpAnyH_take (i := 1) (v := .bool true) rfl (by kernel_rfl) (by kernel_rfl) (by kernel_rfl) (fun _ _ _ h => h) (Or.inl ⟨by rfl, fun w' hw' => ?_⟩) (by assumption) ?_
  · go_simp
  change wpAnyH _ _ _ _ _ _ _ ⟨List.toArray (_ :: _ :: _ :: _ :: _ :: _ :: _ :: _ :: _ :: _ :: _ :: _ :: _ :: _ :: _ :: _ :: _ :: _ :: _ :: _ :: _ :: _ :: _ :: _ :: _ :: _ :: _ :: _ :: _ :: _ :: _ :: _ :: _ :: _ :: _ :: _ :: _ :: _ :: _ :: _ :: _ :: _ :: _ :: _ :: _ :: _ :: _ :: _ :: _ :: _ :: _ :: _ :: _ :: _ :: _ :: _ :: _ :: _ :: _ :: _ :: _ :: _ :: _ :: .nilIface :: .bool true :: _ :: _ :: _ :: _ :: _ :: _ :: _ :: _ :: []), []⟩ _
  refine wpAnyH_take (i := 2) (v := .bool true) rfl (by kernel_rfl) (by kernel_rfl) (by kernel_rfl) (fun _ _ _ h => h) (Or.inl ⟨by rfl, fun w' hw' => ?_⟩) (by assumption) ?_
  · go_simp
  change wpAnyH _ _ _ _ _ _ _ ⟨List.toArray (_ :: _ :: _ :: _ :: _ :: _ :: _ :: _ :: _ :: _ :: _ :: _ :: _ :: _ :: _ :: _ :: _ :: _ :: _ :: _ :: _ :: _ :: _ :: _ :: _ :: _ :: _ :: _ :: _ :: _ :: _ :: _ :: _ :: _ :: _ :: _ :: _ :: _ :: _ :: _ :: _ :: _ :: _ :: _ :: _ :: _ :: _ :: _ :: _ :: _ :: _ :: _ :: _ :: _ :: _ :: _ :: _ :: _ :: _ :: _ :: _ :: _ :: _ :: .nilIface :: .bool true :: .bool true :: _ :: _ :: _ :: _ :: _ :: _ :: _ :: []), []⟩ _
  refine wpAnyH_take (i := 3) (v := .agg #[.int .i64 ((nOf cl : Nat) : Int), .slice B es.length c2]) rfl (by kernel_rfl) (by kernel_rfl) (by kernel_rfl) (fun _ _ _ h => h) (Or.inl ⟨by rfl, fun w' hw' => ?_⟩) (by assumption) ?_
  · exact run_load_at rfl rfl (HPL.out w' hw') (by kernel_rfl) (by kernel_rfl)
  change wpAnyH _ _ _ _ _ _ _ ⟨List.toArray (_ :: _ :: _ :: _ :: _ :: _ :: _ :: _ :: _ :: _ :: _ :: _ :: _ :: _ :: _ :: _ :: _ :: _ :: _ :: _ :: _ :: _ :: _ :: _ :: _ :: _ :: _ :: _ :: _ :: _ :: _ :: _ :: _ :: _ :: _ :: _ :: _ :: _ :: _ :: _ :: _ :: _ :: _ :: _ :: _ :: _ :: _ :: _ :: _ :: _ :: _ :: _ :: _ :: _ :: _ :: _ :: _ :: _ :: _ :: _ :: _ :: _ :: _ :: .nilIface :: .bool true :: .bool true :: .agg #[.int .i64 ((nOf cl : Nat) : Int), .slice B es.length c2] :: _ :: _ :: _ :: _ :: _ :: _ :: []), []⟩ _
  refine wpAnyH_take (i := 4) (v := .int .i64 cl) rfl (by kernel_rfl) (by kernel_rfl) (by kernel_rfl) (fun _ _ _ h => h) (Or.inl ⟨by rfl, fun w' hw' => ?_⟩) (by assumption) ?_
  · go_simp
  change wpAnyH _ _ _ _ _ _ _ ⟨List.toArray (_ :: _ :: _ :: _ :: _ :: _ :: _ :: _ :: _ :: _ :: _ :: _ :: _ :: _ :: _ :: _ :: _ :: _ :: _ :: _ :: _ :: _ :: _ :: _ :: _ :: _ :: _ :: _ :: _ :: _ :: _ :: _ :: _ :: _ :: _ :: _ :: _ :: _ :: _ :: _ :: _ :: _ :: _ :: _ :: _ :: _ :: _ :: _ :: _ :: _ :: _ :: _ :: _ :: _ :: _ :: _ :: _ :: _ :: _ :: _ :: _ :: _ :: _ :: .nilIface :: .bool true :: .bool true :: .agg #[.int .i64 ((nOf cl : Nat) : Int), .slice B es.length c2] :: .int .i64 cl :: _ :: _ :: _ :: _ :: _ :: []), []⟩ _
  refine wpAnyH_take (i := 6) (v := .slice A es.length c) rfl (by kernel_rfl) (by kernel_rfl) (by kernel_rfl) (fun _ _ _ h => h) (Or.inl ⟨by rfl, fun w' hw' => ?_⟩) (by assumption) ?_
  · go_simp
  change wpAnyH _ _ _ _ _ _ _ ⟨List.toArray (_ :: _ :: _ :: _ :: _ :: _ :: _ :: _ :: _ :: _ :: _ :: _ :: _ :: _ :: _ :: _ :: _ :: _ :: _ :: _ :: _ :: _ :: _ :: _ :: _ :: _ :: _ :: _ :: _ :: _ :: _ :: _ :: _ :: _ :: _ :: _ :: _ :: _ :: _ :: _ :: _ :: _ :: _ :: _ :: _ :: _ :: _ :: _ :: _ :: _ :: _ :: _ :: _ :: _ :: _ :: _ :: _ :: _ :: _ :: _ :: _ :: _ :: _ :: .nilIface :: .bool true :: .bool true :: .agg #[.int .i64 ((nOf cl : Nat) : Int), .slice B es.length c2] :: .int .i64 cl :: _ :: .slice A es.length c :: _ :: _ :: _ :: []), []⟩ _
  refine wpAnyH_ready (rs := [5]) (by kernel_rfl) (by simp) ?_
  refine AllReadyH.cons rfl (fun K hK => ?_) AllReadyH.nil
  clear hHeld
  go_simp
  refine (within_calls cl 1 64 hcl.1 hcl.2 (by decide) (by decide) (by decide) _).mono ?_
  rintro e' w1 ⟨rfl, rfl⟩
  rw [HN.out]
  refine hK.out _ _ (Below.refl _ _).drew (fun hHeld => ?_)
  clear hK K
  change wpAnyH _ _ _ _ _ _ _ ⟨List.toArray (_ :: _ :: _ :: _ :: _ :: _ :: _ :: _ :: _ :: _ :: _ :: _ :: _ :: _ :: _ :: _ :: _ :: _ :: _ :: _ :: _ :: _ :: _ :: _ :: _ :: _ :: _ :: _ :: _ :: _ :: _ :: _ :: _ :: _ :: _ :: _ :: _ :: _ :: _ :: _ :: _ :: _ :: _ :: _ :: _ :: _ :: _ :: _ :: _ :: _ :: _ :: _ :: _ :: _ :: _ :: _ :: _ :: _ :: _ :: _ :: _ :: _ :: _ :: .nilIface :: .bool true :: .bool true :: .agg #[.int .i64 ((nOf cl : Nat) : Int), .slice B es.length c2] :: .int .i64 cl :: .int .i64 ((nOf cl : Nat) : Int) :: .slice A es.length c :: _ :: _ :: _ :: []), []⟩ _
  refine wpAnyH_take (i := 7) (v := .agg #[.int .i64 ((nOf cl : Nat) : Int), .slice A es.length c]) rfl (by kernel_rfl) (by kernel_rfl) (by kernel_rfl) (fun _ _ _ h => h) (Or.inl ⟨by rfl, fun w' hw' => ?_⟩) (by assumption) ?_
  · go_simp
  change wpAnyH _ _ _ _ _ _ _ ⟨List.toArray (_ :: _ :: _ :: _ :: _ :: _ :: _ :: _ :: _ :: _ :: _ :: _ :: _ :: _ :: _ :: _ :: _ :: _ :: _ :: _ :: _ :: _ :: _ :: _ :: _ :: _ :: _ :: _ :: _ :: _ :: _ :: _ :: _ :: _ :: _ :: _ :: _ :: _ :: _ :: _ :: _ :: _ :: _ :: _ :: _ :: _ :: _ :: _ :: _ :: _ :: _ :: _ :: _ :: _ :: _ :: _ :: _ :: _ :: _ :: _ :: _ :: _ :: _ :: .nilIface :: .bool true :: .bool true :: .agg #[.int .i64 ((nOf cl : Nat) : Int), .slice B es.length c2] :: .int .i64 cl :: .int .i64 ((nOf cl : Nat) : Int) :: .slice A es.length c :: .agg #[.int .i64 ((nOf cl : Nat) : Int), .slice A es.length c] :: _ :: _ :: []), []⟩ _
  refine wpAnyH_ready (rs := [8]) (by kernel_rfl) (by simp) ?_
  refine AllReadyH.cons rfl (fun K hK => ?_) AllReadyH.nil
  clear hHeld
  go_simp
  refine (HAL.out _ (Below.refl _ _).drew).mono ?_
  rintro e' w2 ⟨rfl, hb2⟩
  have hb2' : Below w.heap.size w w2 := ⟨hb2.os, hb2.tape, hb2.output, hb2.size, hb2.block⟩
  refine hK.out _ _ hb2' (fun hHeld => ?_)
  clear hK K
  change wpAnyH _ _ _ _ _ _ _ ⟨List.toArray (_ :: _ :: _ :: _ :: _ :: _ :: _ :: _ :: _ :: _ :: _ :: _ :: _ :: _ :: _ :: _ :: _ :: _ :: _ :: _ :: _ :: _ :: _ :: _ :: _ :: _ :: _ :: _ :: _ :: _ :: _ :: _ :: _ :: _ :: _ :: _ :: _ :: _ :: _ :: _ :: _ :: _ :: _ :: _ :: _ :: _ :: _ :: _ :: _ :: _ :: _ :: _ :: _ :: _ :: _ :: _ :: _ :: _ :: _ :: _ :: _ :: _ :: _ :: .nilIface :: .bool true :: .bool true :: .agg #[.int .i64 ((nOf cl : Nat) : Int), .slice B es.length c2] :: .int .i64 cl :: .int .i64 ((nOf cl : Nat) : Int) :: .slice A es.length c :: .agg #[.int .i64 ((nOf cl : Nat) : Int), .slice A es.length c] :: .bool true :: _ :: []), []⟩ _
  refine wpAnyH_take (i := 9) (v := .bool true) rfl (by kernel_rfl) (by kernel_rfl) (by kernel_rfl) (fun _ _ _ h => h) (Or.inl ⟨by rfl, fun w' hw' => ?_⟩) (by assumption) ?_
  · go_simp
  change wpAnyH _ _ _ _ _ _ _ ⟨List.toArray (_ :: _ :: _ :: _ :: _ :: _ :: _ :: _ :: _ :: _ :: _ :: _ :: _ :: _ :: _ :: _ :: _ :: _ :: _ :: _ :: _ :: _ :: _ :: _ :: _ :: _ :: _ :: _ :: _ :: _ :: _ :: _ :: _ :: _ :: _ :: _ :: _ :: _ :: _ :: _ :: _ :: _ :: _ :: _ :: _ :: _ :: _ :: _ :: _ :: _ :: _ :: _ :: _ :: _ :: _ :: _ :: _ :: _ :: _ :: _ :: _ :: _ :: _ :: .nilIface :: .bool true :: .bool true :: .agg #[.int .i64 ((nOf cl : Nat) : Int), .slice B es.length c2] :: .int .i64 cl :: .int .i64 ((nOf cl : Nat) : Int) :: .slice A es.length c :: .agg #[.int .i64 ((nOf cl : Nat) : Int), .slice A es.length c] :: .bool true :: .bool true :: []), []⟩ _
  refine wpAnyH_take (i := 10) (v := .bool true) rfl (by kernel_rfl) (by kernel_rfl) (by kernel_rfl) (fun _ _ _ h => h) (Or.inl ⟨by rfl, fun w' hw' => ?_⟩) (by assumption) ?_
  · go_simp
  change wpAnyH _ _ _ _ _ _ _ ⟨List.toArray (_ :: _ :: _ :: _ :: .bool true :: _ :: _ :: _ :: _ :: _ :: _ :: _ :: _ :: _ :: _ :: _ :: _ :: _ :: _ :: _ :: _ :: _ :: _ :: _ :: _ :: _ :: _ :: _ :: _ :: _ :: _ :: _ :: _ :: _ :: _ :: _ :: _ :: _ :: _ :: _ :: _ :: _ :: _ :: _ :: _ :: _ :: _ :: _ :: _ :: _ :: _ :: _ :: _ :: _ :: _ :: _ :: _ :: _ :: _ :: _ :: _ :: _ :: _ :: .nilIface :: .bool true :: .bool true :: .agg #[.int .i64 ((nOf cl : Nat) : Int), .slice B es.length c2] :: .int .i64 cl :: .int .i64 ((nOf cl : Nat) : Int) :: .slice A es.length c :: .agg #[.int .i64 ((nOf cl : Nat) : Int), .slice A es.length c] :: .bool true :: .bool true :: []), []⟩ _
  refine wpAnyH_done (by kernel_rfl) ?_ _
  have HB2 := Lib.hid hb2'
  clear hb2 hb2' hHeld
  go_wp2_with fail
  exact HB2.out
end
end Go.Proofs.YtbjkljmhhpoooaaDoor

/-
  jotterlaw15.ScriptApart: the whole run.
-/
namespace Go.Proofs.YtbjkljmhhpoooaaDoor
open Go.Conc Go.Co Go.Proofs Go.RowKit
set_option linter.unusedVariables false

theorem by_len (l : List UInt8) : (readL l).by_.length ≤ 1099511627776 := by
  unfold readL
  by_cases he : (lineS (wordsB (ofL l))).err = 0
  · have := (written_read he).1.facts.2
    omega
  · obtain ⟨k, x, hE, _⟩ := line_bad he
    rw [hE]
    exact Nat.zero_le _
theorem run_convert_op {P : Program} {ρ : Operand → Value} {o : Oper} {s d : TypeId} {x : Operand} (ho : o.op = .convert s d x) {v r : Value} (hx : ρ x = v) {w w' : World} (h : (convert s d v).run P w = .ok r w') : (execOp ρ o).run P w = .ok (.value r) w' := by
  unfold execOp
  simp [ho, hx, h]
theorem MC.on {w0 w : World} {N T : Nat} {vt vw : Value} {ls : List (List UInt8)} (h : MC w0 w N T vt vw ls) (t : Tape) (d : Nat) : MC w0 (w.on t d) N T vt vw ls :=
  ⟨h.text.keep rfl, h.want.keep (fun _ _ _ _ _ _ => rfl) (.inl rfl) (text_typed h.text), abv_on h.abv t d, h.no10, h.len, h.size⟩
theorem MC.keep {w0 w w' : World} {N T : Nat} {vt vw : Value} {ls : List (List UInt8)} (h : MC w0 w N T vt vw ls) (ha : Abv w.heap.size w w') : MC w0 w' N T vt vw ls :=
  ⟨h.text.keep (ha.block T h.text.lt), h.want.keep (fun b cur t fz _ hc => ha.block b (Array.getElem?_eq_some_iff.1 hc).1) (.inl rfl) (text_typed h.text), h.abv.trans (ha.mono h.abv.size), h.no10, h.len, h.size⟩

noncomputable def frAp (T : Array Value) : Frame := (base 5).at ⟨T, []⟩ [.inRegion ops1Ap [0, 1], .code condAp, .code restAp]
noncomputable def frAq (T : Array Value) (vt : Value) (s : ByteArray) : Frame := (base 5).at ⟨(T.setIfInBounds 58 vt).setIfInBounds 59 (.string s), []⟩ [.inRegion ops15Ap [2, 3, 4, 5, 6, 7, 8], .code aF]
theorem funcAp : Tryd.prog.inits.idxOf? 5 = none := by kernel_rfl

section
variable (cl : Int) (P : Option Addr) (n cp : Nat)
noncomputable def T0Ap : Array Value := List.toArray (.int .i64 cl :: .slice P n cp :: undef :: undef :: undef :: undef :: undef :: undef :: undef :: undef :: undef :: undef :: undef :: undef :: undef :: undef :: undef :: undef :: undef :: undef :: undef :: undef :: undef :: undef :: undef :: undef :: undef :: undef :: undef :: undef :: undef :: undef :: undef :: undef :: undef :: undef :: undef :: undef :: undef :: undef :: undef :: undef :: undef :: undef :: undef :: undef :: undef :: undef :: undef :: undef :: undef :: undef :: undef :: undef :: undef :: undef :: undef :: undef :: undef :: undef :: undef :: undef :: undef :: undef :: undef :: undef :: undef :: undef :: undef :: undef :: undef :: undef :: undef :: [])
noncomputable def T1Ap : Array Value := List.toArray (.int .i64 cl :: .slice P n cp :: undef :: undef :: .bool false :: undef :: undef :: undef :: undef :: undef :: undef :: undef :: undef :: undef :: undef :: undef :: undef :: undef :: undef :: undef :: undef :: undef :: undef :: undef :: undef :: undef :: undef :: undef :: undef :: undef :: undef :: undef :: undef :: undef :: undef :: undef :: undef :: undef :: undef :: undef :: undef :: undef :: undef :: undef :: undef :: undef :: undef :: undef :: undef :: undef :: undef :: undef :: undef :: undef :: undef :: undef :: undef :: undef :: undef :: undef :: undef :: undef :: undef :: undef :: undef :: undef :: undef :: undef :: undef :: undef :: undef :: undef :: undef :: [])
noncomputable def T3Ap : Array Value := List.toArray (.int .i64 cl :: .slice P n cp :: undef :: undef :: .bool false :: undef :: undef :: undef :: undef :: undef :: undef :: undef :: .bool true :: .bool false :: undef :: undef :: undef :: undef :: undef :: undef :: undef :: undef :: undef :: undef :: undef :: undef :: undef :: undef :: undef :: undef :: undef :: undef :: undef :: undef :: undef :: undef :: undef :: undef :: undef :: undef :: undef :: undef :: undef :: undef :: undef :: undef :: undef :: undef :: undef :: undef :: undef :: undef :: undef :: undef :: undef :: undef :: undef :: undef :: undef :: undef :: undef :: undef :: undef :: undef :: undef :: undef :: undef :: undef :: undef :: undef :: undef :: undef :: undef :: [])
noncomputable def startAp : Goroutine := G ((base 5).at ⟨T0Ap cl P n cp, []⟩ [.code bodyAp]) []
set_option maxRecDepth 100000 in
theorem startAp_eq : G (Frame.enter Tryd.prog 5 #[.int .i64 cl, .slice P n cp] .normal) [] = startAp cl P n cp := by
  have hb : Tryd.f5.body = some bodyAp := rfl
  have ht : (#[.int .i64 cl, .slice P n cp] : Array Value) ++ Array.replicate (73 - (#[.int .i64 cl, .slice P n cp] : Array Value).size) undef = T0Ap cl P n cp := by kernel_rfl
  rw [enter_at (c := bodyAp) _ Tryd.func5 hb, Tryd.ntmps5, ht]
  rfl
set_option maxRecDepth 100000 in
theorem apart_entry (w0 : World) : Co.Way Tryd.prog true (Rely None') (Guar None') (fun a w => a = startFx [frAp (T1Ap cl P n cp)] ∧ Rely None' w0 w) (startAp cl P n cp) w0 := by
  unfold startAp
  rw [bodyAp_eq]
  refine way_silent (mildR _) rfl (fun _ => stepG_seq) ?_
  refine way_silent (mildR _) rfl (fun _ => stepG_region) ?_
  refine way_pure' (mildR _) ⟨T1Ap cl P n cp, []⟩ rfl rfl (by decide) (fun _ _ => rfl) rfl ?_
  refine way_silent (mildR _) rfl (fun _ => stepG_region_end) ?_
  refine way_silent (mildR _) rfl (fun _ => stepG_seq) ?_
  refine way_silent (mildR _) rfl (fun _ => stepG_seq) ?_
  refine way_silent (mildR _) rfl (fun _ => stepG_region) ?_
  refine way_enter (mildR _) #[] rfl rfl (by decide) rfl Tryd.func17 rfl (by kernel_rfl) (by simp only [List.map_toArray, List.map_nil]) ?_
  exact Co.Way.stop fun w1 h1 => ⟨rfl, h1⟩
set_option maxRecDepth 100000 in
theorem frAp_fin : (frAp (T1Ap cl P n cp)).finish (.bool true) = (base 5).at ⟨(T1Ap cl P n cp).setIfInBounds 12 (.bool true), []⟩ [.inRegion ops1Ap [1], .code condAp, .code restAp] := by
  have hd : (ops1Ap[0]?).bind (·.dst) = some 12 := by kernel_rfl
  unfold frAp
  rw [Frame.finish_at, hd]
  simp only [Act.put]
variable (w0 : World) (hcl : i64 cl) (hl : LinesIn w0 P n) (m : Int) (V o cap : Nat) (F : Nat → Option Addr) (C : Nat → Nat)
  (hm : w0.cell? ⟨4, 0, none⟩ = some (.int .i64 m)) (hv : VerbsAt V o cap F C w0) (hp : PowAt w0) (hgs : Tryd.prog.globals.size ≤ w0.heap.size)
include hcl hl hm hv hp
set_option maxRecDepth 100000 in
set_option maxHeartbeats 2000000 in
theorem apart_mid {w : World} (hA : Abv w0.heap.size w0 w) : Co.Way Tryd.prog true (Rely None') (Guar None') (fun a w => ∃ T T0 vt vw ls, a = GP (T0P (strB (planW (nOf cl) ls))) [.code bodyP] [frAq T vt (strB (planW (nOf cl) ls))] ∧ SD T cl P n cp vt vw ∧ MC w0 w (nOf cl) T0 vt vw ls) (G ((frAp (T1Ap cl P n cp)).finish (.bool true)) []) w := by
  rw [frAp_fin]
  refine way_pure' (mildR _) ⟨T3Ap cl P n cp, []⟩ rfl rfl (by decide) (fun _ _ => rfl) rfl ?_
  refine way_silent (mildR _) rfl (fun _ => stepG_region_end) ?_
  refine way_silent (mildR _) rfl (fun _ => stepG_cond (t := false) rfl) ?_
  refine way_silent (mildR _) rfl (fun _ => stepG_skip) ?_
  rw [restAp_eq]
  refine way_silent (mildR _) rfl (fun _ => stepG_seq) ?_
  refine piece as_ok.1 broughtAp (fun T w => SA T cl P n cp (strB (planW (nOf cl) [])) ∧ Abv w0.heap.size w0 w) (fun _ _ t d h => ⟨h.1, abv_on h.2 t d⟩) (fun t d => ?_) fun T w ⟨hT, hA⟩ => ?_
  · have hAt := abv_on hA t d
    exact stepA cl P n cp w0 (w.on t d) hcl hAt m V o cap F C (cell_abv hm hAt) (verbs_abv hv hAt) (pow_abv w0 hp hAt) _ _ _ _ _ _ _ _ _ _ _ _ _ _ _ _ _ _ _ _ _ _ _ _ _ _ _ _ _ _ _ _ _ _ _ _ _ _ _ _ _ _ _ _ _ _ _ _ _ _ _ _ _ _ _ _ _ _ _ _ _ _ _ _ _ _ _ _ _ _ _
  refine way_silent (mildR _) rfl (fun _ => stepG_seq) ?_
  refine piece as_ok.2.1 broughtAp (fun T w => SA T cl P n cp (strB (planW (nOf cl) [])) ∧ Abv w0.heap.size w0 w) (fun _ _ t d h => ⟨h.1, abv_on h.2 t d⟩) (fun t d => ?_) fun T w ⟨hT, hA⟩ => ?_
  · have e0 : T.getD 0 undef = .int .i64 cl := getD_of hT.t0
    have e1 : T.getD 1 undef = .slice P n cp := getD_of hT.t1
    have e5 : T.getD 5 undef = .string (strB (planW (nOf cl) [])) := getD_of hT.t5
    have e6 : T.getD 6 undef = .nilIface := getD_of hT.t6
    rw [arr73 hT.size, e0, e1, e5, e6]
    refine Code.wp_mono ?_ (stepB cl P n cp (w.on t d) (strB (planW (nOf cl) [])) (T.getD 2 undef) (T.getD 3 undef) (T.getD 4 undef) (T.getD 7 undef) (T.getD 8 undef) (T.getD 9 undef) (T.getD 10 undef) (T.getD 11 undef) (T.getD 12 undef) (T.getD 13 undef) (T.getD 14 undef) (T.getD 15 undef) (T.getD 16 undef) (T.getD 17 undef) (T.getD 18 undef) (T.getD 19 undef) (T.getD 20 undef) (T.getD 21 undef) (T.getD 22 undef) (T.getD 23 undef) (T.getD 24 undef) (T.getD 25 undef) (T.getD 26 undef) (T.getD 27 undef) (T.getD 28 undef) (T.getD 29 undef) (T.getD 30 undef) (T.getD 31 undef) (T.getD 32 undef) (T.getD 33 undef) (T.getD 34 undef) (T.getD 35 undef) (T.getD 36 undef) (T.getD 37 undef) (T.getD 38 undef) (T.getD 39 undef) (T.getD 40 undef) (T.getD 41 undef) (T.getD 42 undef) (T.getD 43 undef) (T.getD 44 undef) (T.getD 45 undef) (T.getD 46 undef) (T.getD 47 undef) (T.getD 48 undef) (T.getD 49 undef) (T.getD 50 undef) (T.getD 51 undef) (T.getD 52 undef) (T.getD 53 undef) (T.getD 54 undef) (T.getD 55 undef) (T.getD 56 undef) (T.getD 57 undef) (T.getD 58 undef) (T.getD 59 undef) (T.getD 60 undef) (T.getD 61 undef) (T.getD 62 undef) (T.getD 63 undef) (T.getD 64 undef) (T.getD 65 undef) (T.getD 66 undef) (T.getD 67 undef) (T.getD 68 undef) (T.getD 69 undef) (T.getD 70 undef) (T.getD 71 undef) (T.getD 72 undef))
    intro e a' w' h
    cases e with
    | normal =>
      obtain ⟨T, h1, h2, rfl⟩ := h
      exact ⟨T, h1, h2, abv_on hA t d⟩
    | _ => exact h.elim
  refine way_silent (mildR _) rfl (fun _ => stepG_seq) ?_
  refine piece as_ok.2.2.1 broughtAp (fun T w => ∃ vt T0, SC T cl P n cp vt ∧ MC w0 w (nOf cl) T0 vt (.slice none 0 0) []) (fun _ _ t d h => h.imp fun _ h => h.imp fun _ h => ⟨h.1, h.2.on t d⟩) (fun t d => ?_) fun T w ⟨vt, T0, hT, hM⟩ => ?_
  · have e0 : T.getD 0 undef = .int .i64 cl := getD_of hT.t0
    have e1 : T.getD 1 undef = .slice P n cp := getD_of hT.t1
    have e5 : T.getD 5 undef = .string (strB (planW (nOf cl) [])) := getD_of hT.t5
    have e6 : T.getD 6 undef = .nilIface := getD_of hT.t6
    rw [arr73 hT.size, e0, e1, e5, e6]
    exact stepC cl P n cp w0 (w.on t d) (abv_on hA t d) (T.getD 2 undef) (T.getD 3 undef) (T.getD 4 undef) (T.getD 7 undef) (T.getD 8 undef) (T.getD 9 undef) (T.getD 10 undef) (T.getD 11 undef) (T.getD 12 undef) (T.getD 13 undef) (T.getD 14 undef) (T.getD 15 undef) (T.getD 16 undef) (T.getD 17 undef) (T.getD 18 undef) (T.getD 19 undef) (T.getD 20 undef) (T.getD 21 undef) (T.getD 22 undef) (T.getD 23 undef) (T.getD 24 undef) (T.getD 25 undef) (T.getD 26 undef) (T.getD 27 undef) (T.getD 28 undef) (T.getD 29 undef) (T.getD 30 undef) (T.getD 31 undef) (T.getD 32 undef) (T.getD 33 undef) (T.getD 34 undef) (T.getD 35 undef) (T.getD 36 undef) (T.getD 37 undef) (T.getD 38 undef) (T.getD 39 undef) (T.getD 40 undef) (T.getD 41 undef) (T.getD 42 undef) (T.getD 43 undef) (T.getD 44 undef) (T.getD 45 undef) (T.getD 46 undef) (T.getD 47 undef) (T.getD 48 undef) (T.getD 49 undef) (T.getD 50 undef) (T.getD 51 undef) (T.getD 52 undef) (T.getD 53 undef) (T.getD 54 undef) (T.getD 55 undef) (T.getD 56 undef) (T.getD 57 undef) (T.getD 58 undef) (T.getD 59 undef) (T.getD 60 undef) (T.getD 61 undef) (T.getD 62 undef) (T.getD 63 undef) (T.getD 64 undef) (T.getD 65 undef) (T.getD 66 undef) (T.getD 67 undef) (T.getD 68 undef) (T.getD 69 undef) (T.getD 70 undef) (T.getD 71 undef) (T.getD 72 undef)
  refine way_silent (mildR _) rfl (fun _ => stepG_seq) ?_
  refine piece as_ok.2.2.2.1 broughtAp (fun T w => SD T cl P n cp vt (.slice none 0 0) ∧ MC w0 w (nOf cl) T0 vt (.slice none 0 0) []) (fun _ _ t d h => ⟨h.1, h.2.on t d⟩) (fun t d => ?_) fun T w ⟨hT, hM⟩ => ?_
  · have e0 : T.getD 0 undef = .int .i64 cl := getD_of hT.t0
    have e1 : T.getD 1 undef = .slice P n cp := getD_of hT.t1
    have e7 : T.getD 7 undef = vt := getD_of hT.t7
    rw [arr73 hT.size, e0, e1, e7]
    refine Code.wp_mono ?_ (stepD cl P n cp (w.on t d) vt (T.getD 2 undef) (T.getD 3 undef) (T.getD 4 undef) (T.getD 5 undef) (T.getD 6 undef) (T.getD 8 undef) (T.getD 9 undef) (T.getD 10 undef) (T.getD 11 undef) (T.getD 12 undef) (T.getD 13 undef) (T.getD 14 undef) (T.getD 15 undef) (T.getD 16 undef) (T.getD 17 undef) (T.getD 18 undef) (T.getD 19 undef) (T.getD 20 undef) (T.getD 21 undef) (T.getD 22 undef) (T.getD 23 undef) (T.getD 24 undef) (T.getD 25 undef) (T.getD 26 undef) (T.getD 27 undef) (T.getD 28 undef) (T.getD 29 undef) (T.getD 30 undef) (T.getD 31 undef) (T.getD 32 undef) (T.getD 33 undef) (T.getD 34 undef) (T.getD 35 undef) (T.getD 36 undef) (T.getD 37 undef) (T.getD 38 undef) (T.getD 39 undef) (T.getD 40 undef) (T.getD 41 undef) (T.getD 42 undef) (T.getD 43 undef) (T.getD 44 undef) (T.getD 45 undef) (T.getD 46 undef) (T.getD 47 undef) (T.getD 48 undef) (T.getD 49 undef) (T.getD 50 undef) (T.getD 51 undef) (T.getD 52 undef) (T.getD 53 undef) (T.getD 54 undef) (T.getD 55 undef) (T.getD 56 undef) (T.getD 57 undef) (T.getD 58 undef) (T.getD 59 undef) (T.getD 60 undef) (T.getD 61 undef) (T.getD 62 undef) (T.getD 63 undef) (T.getD 64 undef) (T.getD 65 undef) (T.getD 66 undef) (T.getD 67 undef) (T.getD 68 undef) (T.getD 69 undef) (T.getD 70 undef) (T.getD 71 undef) (T.getD 72 undef))
    intro e a' w' h
    cases e with
    | normal =>
      obtain ⟨T, h1, h2, rfl⟩ := h
      exact ⟨T, h1, h2, hM.on t d⟩
    | _ => exact h.elim
  refine way_silent (mildR _) rfl (fun _ => stepG_seq) ?_
  refine piece as_ok.2.2.2.2.1 broughtAp (fun T w => ∃ vt vw, SD T cl P n cp vt vw ∧ ∃ T0 ls, MC w0 w (nOf cl) T0 vt vw ls) (fun _ _ t d h => h.imp fun _ h => h.imp fun _ h => ⟨h.1, h.2.imp fun _ h => h.imp fun _ h => h.on t d⟩) (fun t d => ?_) fun T w ⟨vt, vw, hT, T0, ls, hM⟩ => ?_
  · have e0 : T.getD 0 undef = .int .i64 cl := getD_of hT.t0
    have e1 : T.getD 1 undef = .slice P n cp := getD_of hT.t1
    have e7 : T.getD 7 undef = vt := getD_of hT.t7
    have e8 : T.getD 8 undef = .slice none 0 0 := getD_of hT.t8
    rw [arr73 hT.size, e0, e1, e7, e8]
    exact stepE cl P n cp w0 (w.on t d) (nOf cl) T0 vt hl (hM.on t d) m V o cap F C hm hv (T.getD 2 undef) (T.getD 3 undef) (T.getD 4 undef) (T.getD 5 undef) (T.getD 6 undef) (T.getD 9 undef) (T.getD 10 undef) (T.getD 11 undef) (T.getD 12 undef) (T.getD 13 undef) (T.getD 14 undef) (T.getD 15 undef) (T.getD 16 undef) (T.getD 17 undef) (T.getD 18 undef) (T.getD 19 undef) (T.getD 20 undef) (T.getD 21 undef) (T.getD 22 undef) (T.getD 23 undef) (T.getD 24 undef) (T.getD 25 undef) (T.getD 26 undef) (T.getD 27 undef) (T.getD 28 undef) (T.getD 29 undef) (T.getD 30 undef) (T.getD 31 undef) (T.getD 32 undef) (T.getD 33 undef) (T.getD 34 undef) (T.getD 35 undef) (T.getD 36 undef) (T.getD 37 undef) (T.getD 38 undef) (T.getD 39 undef) (T.getD 40 undef) (T.getD 41 undef) (T.getD 42 undef) (T.getD 43 undef) (T.getD 44 undef) (T.getD 45 undef) (T.getD 46 undef) (T.getD 47 undef) (T.getD 48 undef) (T.getD 49 undef) (T.getD 50 undef) (T.getD 51 undef) (T.getD 52 undef) (T.getD 53 undef) (T.getD 54 undef) (T.getD 55 undef) (T.getD 56 undef) (T.getD 57 undef) (T.getD 58 undef) (T.getD 59 undef) (T.getD 60 undef) (T.getD 61 undef) (T.getD 62 undef) (T.getD 63 undef) (T.getD 64 undef) (T.getD 65 undef) (T.getD 66 undef) (T.getD 67 undef) (T.getD 68 undef) (T.getD 69 undef) (T.getD 70 undef) (T.getD 71 undef) (T.getD 72 undef)
  refine way_silent (mildR _) rfl (fun _ => stepG_seq) ?_
  refine way_silent (mildR _) rfl (fun _ => stepG_region) ?_
  have e7 : T.getD 7 undef = vt := getD_of hT.t7
  have hs58 : 58 < T.size := by rw [hT.size]; decide
  have hev : Act.eval ⟨T.setIfInBounds 58 vt, []⟩ (.tmp 58) = vt := getD_of (Array.getElem?_setIfInBounds_self_of_lt hs58)
  have hev2 : Act.eval ⟨(T.setIfInBounds 58 vt).setIfInBounds 59 (.string (strB (planW (nOf cl) ls))), []⟩ (.tmp 59) = .string (strB (planW (nOf cl) ls)) := by
    have : 59 < (T.setIfInBounds 58 vt).size := by rw [Array.size_setIfInBounds, hT.size]; decide
    exact getD_of (Array.getElem?_setIfInBounds_self_of_lt this)
  refine way_pure' (v := vt) (mildR _) ⟨T.setIfInBounds 58 vt, []⟩ rfl rfl (by decide) (fun _ _ => by rw [← e7]; rfl) rfl ?_
  refine way_run ready2 rfl rfl (by decide) rfl broughtAp (.string (strB (planW (nOf cl) ls))) ⟨(T.setIfInBounds 58 vt).setIfInBounds 59 (.string (strB (planW (nOf cl) ls))), []⟩ rfl fun w1 h1 => ⟨w1, run_convert_op rfl hev (((hM.keep ((Abv.refl _ w).rely h1 fun _ h => h.elim)).text).conv), ?_⟩
  have hM1 := hM.keep ((Abv.refl _ w).rely h1 fun _ h => h.elim)
  refine way_enter (mildR _) #[.string (strB (planW (nOf cl) ls))] rfl rfl (by decide) rfl Tryd.func15 rfl (by kernel_rfl) (by simp only [List.map_toArray, List.map_cons, List.map_nil, hev2]) ?_
  have ht : (#[.string (strB (planW (nOf cl) ls))] : Array Value) ++ Array.replicate (Tryd.f15.ntmps - (#[.string (strB (planW (nOf cl) ls))] : Array Value).size) undef = T0P (strB (planW (nOf cl) ls)) := by kernel_rfl
  rw [ht]
  exact Co.Way.stop fun w2 h2 => ⟨T, T0, vt, vw, ls, rfl, hT, hM1.keep ((Abv.refl _ w1).rely h2 fun _ h => h.elim)⟩
end
end Go.Proofs.YtbjkljmhhpoooaaDoor

/-
  jotterlaw15.ScriptApart: from Parse's return; the run.
-/
namespace Go.Proofs.YtbjkljmhhpoooaaDoor
open Go.Conc Go.Co Go.Proofs Go.RowKit
set_option linter.unusedVariables false
noncomputable def storeAp : Oper := ops15Ap.getD 7 (default : Oper)
set_option maxRecDepth 100000 in
set_option maxHeartbeats 2000000 in
theorem frame_litA (s : ByteArray) (v vt : Value) {T : Array Value} (x0 x1 x2 x3 x4 x5 x6 x7 x8 x9 x10 x11 x12 x13 x14 x15 x16 x17 x18 x19 x20 x21 x22 x23 x24 x25 x26 x27 x28 x29 x30 x31 x32 x33 x34 x35 x36 x37 x38 x39 x40 x41 x42 x43 x44 x45 x46 x47 x48 x49 x50 x51 x52 x53 x54 x55 x56 x57 x58 x59 x60 x61 x62 x63 x64 x65 x66 x67 x68 x69 x70 x71 x72 : Value) (h : T = List.toArray (x0 :: x1 :: x2 :: x3 :: x4 :: x5 :: x6 :: x7 :: x8 :: x9 :: x10 :: x11 :: x12 :: x13 :: x14 :: x15 :: x16 :: x17 :: x18 :: x19 :: x20 :: x21 :: x22 :: x23 :: x24 :: x25 :: x26 :: x27 :: x28 :: x29 :: x30 :: x31 :: x32 :: x33 :: x34 :: x35 :: x36 :: x37 :: x38 :: x39 :: x40 :: x41 :: x42 :: x43 :: x44 :: x45 :: x46 :: x47 :: x48 :: x49 :: x50 :: x51 :: x52 :: x53 :: x54 :: x55 :: x56 :: x57 :: x58 :: x59 :: x60 :: x61 :: x62 :: x63 :: x64 :: x65 :: x66 :: x67 :: x68 :: x69 :: x70 :: x71 :: x72 :: [])) : (frAq T vt s).finish v = (base 5).at ⟨List.toArray (x0 :: x1 :: x2 :: x3 :: x4 :: x5 :: x6 :: x7 :: x8 :: x9 :: x10 :: x11 :: x12 :: x13 :: x14 :: x15 :: x16 :: x17 :: x18 :: x19 :: x20 :: x21 :: x22 :: x23 :: x24 :: x25 :: x26 :: x27 :: x28 :: x29 :: x30 :: x31 :: x32 :: x33 :: x34 :: x35 :: x36 :: x37 :: x38 :: x39 :: x40 :: x41 :: x42 :: x43 :: x44 :: x45 :: x46 :: x47 :: x48 :: x49 :: x50 :: x51 :: x52 :: x53 :: x54 :: x55 :: x56 :: x57 :: vt :: .string s :: v :: x61 :: x62 :: x63 :: x64 :: x65 :: x66 :: x67 :: x68 :: x69 :: x70 :: x71 :: x72 :: []), []⟩ [.inRegion ops15Ap [3, 4, 5, 6, 7, 8], .code aF] := by
  subst h
  rfl
section
variable (cl : Int) (P : Option Addr) (n cp : Nat)
variable (w0 : World) (hcl : i64 cl) (hl : LinesIn w0 P n) (m : Int) (V o cap : Nat) (F : Nat → Option Addr) (C : Nat → Nat)
  (hm : w0.cell? ⟨4, 0, none⟩ = some (.int .i64 m)) (hv : VerbsAt V o cap F C w0) (hp : PowAt w0) (hgs : Tryd.prog.globals.size ≤ w0.heap.size)
include hcl
set_option maxRecDepth 100000 in
set_option maxHeartbeats 2000000 in
theorem apart_rest_lit {T0 : Nat} {vt vw : Value} {ls : List (List UInt8)} {w : World} (hM : MC w0 w (nOf cl) T0 vt vw ls) {lo2 : Nat} {sv : Value} (hE2 : EntsAt w lo2 sv (ls.map readL)) (s : ByteArray) (x1 x2 x3 x4 x5 x6 x7 x9 x10 x11 x12 x13 x14 x15 x16 x17 x18 x19 x20 x21 x22 x23 x24 x25 x26 x27 x28 x29 x30 x31 x32 x33 x34 x35 x36 x37 x38 x39 x40 x41 x42 x43 x44 x45 x46 x47 x48 x49 x50 x51 x52 x53 x54 x55 x56 x57 x61 x62 x63 x64 x65 x66 x67 x68 x69 x70 x71 x72 : Value) :
    Co.Way Tryd.prog true (Rely None') (Guar None') (AtEnd' Tryd.prog fun v w' => v = .bool true ∧ Abv w0.heap.size w0 w') (G ((base 5).at ⟨List.toArray (.int .i64 cl :: x1 :: x2 :: x3 :: x4 :: x5 :: x6 :: x7 :: vw :: x9 :: x10 :: x11 :: x12 :: x13 :: x14 :: x15 :: x16 :: x17 :: x18 :: x19 :: x20 :: x21 :: x22 :: x23 :: x24 :: x25 :: x26 :: x27 :: x28 :: x29 :: x30 :: x31 :: x32 :: x33 :: x34 :: x35 :: x36 :: x37 :: x38 :: x39 :: x40 :: x41 :: x42 :: x43 :: x44 :: x45 :: x46 :: x47 :: x48 :: x49 :: x50 :: x51 :: x52 :: x53 :: x54 :: x55 :: x56 :: x57 :: vt :: .string s :: .tuple #[.agg #[.int .i64 ((nOf cl : Nat) : Int), sv], .nilIface] :: x61 :: x62 :: x63 :: x64 :: x65 :: x66 :: x67 :: x68 :: x69 :: x70 :: x71 :: x72 :: []), []⟩ [.inRegion ops15Ap [3, 4, 5, 6, 7, 8], .code aF]) []) w := by
  refine way_pure' (mildR _) ⟨List.toArray (.int .i64 cl :: x1 :: x2 :: x3 :: x4 :: x5 :: x6 :: x7 :: vw :: x9 :: x10 :: x11 :: x12 :: x13 :: x14 :: x15 :: x16 :: x17 :: x18 :: x19 :: x20 :: x21 :: x22 :: x23 :: x24 :: x25 :: x26 :: x27 :: x28 :: x29 :: x30 :: x31 :: x32 :: x33 :: x34 :: x35 :: x36 :: x37 :: x38 :: x39 :: x40 :: x41 :: x42 :: x43 :: x44 :: x45 :: x46 :: x47 :: x48 :: x49 :: x50 :: x51 :: x52 :: x53 :: x54 :: x55 :: x56 :: .tuple #[.agg #[.int .i64 ((nOf cl : Nat) : Int), sv], .nilIface] :: vt :: .string s :: .tuple #[.agg #[.int .i64 ((nOf cl : Nat) : Int), sv], .nilIface] :: x61 :: x62 :: x63 :: x64 :: x65 :: x66 :: x67 :: x68 :: x69 :: x70 :: x71 :: x72 :: []), []⟩ rfl rfl (by decide) (fun _ _ => rfl) rfl ?_
  refine way_pure' (mildR _) ⟨List.toArray (.int .i64 cl :: x1 :: x2 :: x3 :: x4 :: x5 :: x6 :: x7 :: vw :: x9 :: x10 :: x11 :: x12 :: x13 :: x14 :: x15 :: x16 :: x17 :: x18 :: x19 :: x20 :: x21 :: x22 :: x23 :: x24 :: x25 :: x26 :: x27 :: x28 :: x29 :: x30 :: x31 :: x32 :: x33 :: x34 :: x35 :: x36 :: x37 :: x38 :: x39 :: x40 :: x41 :: x42 :: x43 :: x44 :: x45 :: x46 :: x47 :: x48 :: x49 :: x50 :: x51 :: x52 :: x53 :: x54 :: x55 :: x56 :: .tuple #[.agg #[.int .i64 ((nOf cl : Nat) : Int), sv], .nilIface] :: vt :: .string s :: .tuple #[.agg #[.int .i64 ((nOf cl : Nat) : Int), sv], .nilIface] :: .agg #[.int .i64 ((nOf cl : Nat) : Int), sv] :: x62 :: x63 :: x64 :: x65 :: x66 :: x67 :: x68 :: x69 :: x70 :: x71 :: x72 :: []), []⟩ rfl rfl (by decide) (fun _ _ => rfl) rfl ?_
  refine way_pure' (mildR _) ⟨List.toArray (.int .i64 cl :: x1 :: x2 :: x3 :: x4 :: x5 :: x6 :: x7 :: vw :: x9 :: x10 :: x11 :: x12 :: x13 :: x14 :: x15 :: x16 :: x17 :: x18 :: x19 :: x20 :: x21 :: x22 :: x23 :: x24 :: x25 :: x26 :: x27 :: x28 :: x29 :: x30 :: x31 :: x32 :: x33 :: x34 :: x35 :: x36 :: x37 :: x38 :: x39 :: x40 :: x41 :: x42 :: x43 :: x44 :: x45 :: x46 :: x47 :: x48 :: x49 :: x50 :: x51 :: x52 :: x53 :: x54 :: x55 :: x56 :: .tuple #[.agg #[.int .i64 ((nOf cl : Nat) : Int), sv], .nilIface] :: vt :: .string s :: .tuple #[.agg #[.int .i64 ((nOf cl : Nat) : Int), sv], .nilIface] :: .agg #[.int .i64 ((nOf cl : Nat) : Int), sv] :: .nilIface :: x63 :: x64 :: x65 :: x66 :: x67 :: x68 :: x69 :: x70 :: x71 :: x72 :: []), []⟩ rfl rfl (by decide) (fun _ _ => rfl) rfl ?_
  refine way_value' (.pointer (some ⟨w.heap.size, 0, none⟩)) ⟨List.toArray (.int .i64 cl :: x1 :: x2 :: x3 :: x4 :: x5 :: x6 :: x7 :: vw :: x9 :: x10 :: .pointer (some ⟨w.heap.size, 0, none⟩) :: x12 :: x13 :: x14 :: x15 :: x16 :: x17 :: x18 :: x19 :: x20 :: x21 :: x22 :: x23 :: x24 :: x25 :: x26 :: x27 :: x28 :: x29 :: x30 :: x31 :: x32 :: x33 :: x34 :: x35 :: x36 :: x37 :: x38 :: x39 :: x40 :: x41 :: x42 :: x43 :: x44 :: x45 :: x46 :: x47 :: x48 :: x49 :: x50 :: x51 :: x52 :: x53 :: x54 :: x55 :: x56 :: .tuple #[.agg #[.int .i64 ((nOf cl : Nat) : Int), sv], .nilIface] :: vt :: .string s :: .tuple #[.agg #[.int .i64 ((nOf cl : Nat) : Int), sv], .nilIface] :: .agg #[.int .i64 ((nOf cl : Nat) : Int), sv] :: .nilIface :: x63 :: x64 :: x65 :: x66 :: x67 :: x68 :: x69 :: x70 :: x71 :: x72 :: []), []⟩ rfl rfl (by decide) rfl fun w1 h1 => ⟨w1.alloc (.cells #[.int .i64 0, .slice none 0 0] 31), #[], by rw [← h1.size]; exact exec_alloc planZ rfl w1 #[], ⟨fun _ h => h.elim, rfl, by simp, fun e he => by simp [Go.seen] at he⟩, ?_⟩
  have hA2 : Abv w.heap.size w (w1.alloc (.cells #[.int .i64 0, .slice none 0 0] 31)) := ((Abv.refl _ w).rely h1 fun _ h => h.elim).push (by rw [h1.size]; exact Nat.le_refl _) _
  have hpl2 : (w1.alloc (.cells #[.int .i64 0, .slice none 0 0] 31)).heap[w.heap.size]? = some (.cells #[.int .i64 0, .slice none 0 0] 31 (0, 0)) := by rw [← h1.size]; exact alloc_at rfl
  generalize w1.alloc (.cells #[.int .i64 0, .slice none 0 0] 31) = w2 at hA2 hpl2 ⊢
  refine way_skip ready2 rfl rfl (by decide) rfl broughtAp ⟨List.toArray (.int .i64 cl :: x1 :: x2 :: x3 :: x4 :: x5 :: x6 :: x7 :: vw :: x9 :: x10 :: .pointer (some ⟨w.heap.size, 0, none⟩) :: x12 :: x13 :: x14 :: x15 :: x16 :: x17 :: x18 :: x19 :: x20 :: x21 :: x22 :: x23 :: x24 :: x25 :: x26 :: x27 :: x28 :: x29 :: x30 :: x31 :: x32 :: x33 :: x34 :: x35 :: x36 :: x37 :: x38 :: x39 :: x40 :: x41 :: x42 :: x43 :: x44 :: x45 :: x46 :: x47 :: x48 :: x49 :: x50 :: x51 :: x52 :: x53 :: x54 :: x55 :: x56 :: .tuple #[.agg #[.int .i64 ((nOf cl : Nat) : Int), sv], .nilIface] :: vt :: .string s :: .tuple #[.agg #[.int .i64 ((nOf cl : Nat) : Int), sv], .nilIface] :: .agg #[.int .i64 ((nOf cl : Nat) : Int), sv] :: .nilIface :: x63 :: x64 :: x65 :: x66 :: x67 :: x68 :: x69 :: x70 :: x71 :: x72 :: []), []⟩ rfl fun w3 h3 => ?_
  obtain ⟨w4, hr4, hs4⟩ := run_store_block (P := Tryd.prog) (ρ := Act.eval ⟨List.toArray (.int .i64 cl :: x1 :: x2 :: x3 :: x4 :: x5 :: x6 :: x7 :: vw :: x9 :: x10 :: .pointer (some ⟨w.heap.size, 0, none⟩) :: x12 :: x13 :: x14 :: x15 :: x16 :: x17 :: x18 :: x19 :: x20 :: x21 :: x22 :: x23 :: x24 :: x25 :: x26 :: x27 :: x28 :: x29 :: x30 :: x31 :: x32 :: x33 :: x34 :: x35 :: x36 :: x37 :: x38 :: x39 :: x40 :: x41 :: x42 :: x43 :: x44 :: x45 :: x46 :: x47 :: x48 :: x49 :: x50 :: x51 :: x52 :: x53 :: x54 :: x55 :: x56 :: .tuple #[.agg #[.int .i64 ((nOf cl : Nat) : Int), sv], .nilIface] :: vt :: .string s :: .tuple #[.agg #[.int .i64 ((nOf cl : Nat) : Int), sv], .nilIface] :: .agg #[.int .i64 ((nOf cl : Nat) : Int), sv] :: .nilIface :: x63 :: x64 :: x65 :: x66 :: x67 :: x68 :: x69 :: x70 :: x71 :: x72 :: []), []⟩) (o := storeAp) rfl (w := w3) (b := w.heap.size) (cells := #[.int .i64 ((nOf cl : Nat) : Int), sv]) (old := #[.int .i64 0, .slice none 0 0]) (t := 31) rfl rfl ((rely_get h3 _).trans hpl2) rfl (by kernel_rfl) (by obtain ⟨A, c, rfl, _⟩ := ents_in hE2; rfl)
  refine ⟨w4, hr4, ?_⟩
  have hA4 : Abv w.heap.size w w4 := (hA2.rely h3 fun _ h => h.elim).trans (.of_below (hs4.below (Nat.le_refl _)))
  have hM4 := hM.keep hA4
  have hE4 : EntsAt w4 lo2 sv (ls.map readL) := hE2.keep fun k cur t _ hk _ => hA4.block k (Array.getElem?_eq_some_iff.1 hk).1
  have hpl4 := hs4.at_
  refine way_pure' (mildR _) ⟨List.toArray (.int .i64 cl :: x1 :: x2 :: x3 :: x4 :: x5 :: .nilIface :: x7 :: vw :: x9 :: x10 :: .pointer (some ⟨w.heap.size, 0, none⟩) :: x12 :: x13 :: x14 :: x15 :: x16 :: x17 :: x18 :: x19 :: x20 :: x21 :: x22 :: x23 :: x24 :: x25 :: x26 :: x27 :: x28 :: x29 :: x30 :: x31 :: x32 :: x33 :: x34 :: x35 :: x36 :: x37 :: x38 :: x39 :: x40 :: x41 :: x42 :: x43 :: x44 :: x45 :: x46 :: x47 :: x48 :: x49 :: x50 :: x51 :: x52 :: x53 :: x54 :: x55 :: x56 :: .tuple #[.agg #[.int .i64 ((nOf cl : Nat) : Int), sv], .nilIface] :: vt :: .string s :: .tuple #[.agg #[.int .i64 ((nOf cl : Nat) : Int), sv], .nilIface] :: .agg #[.int .i64 ((nOf cl : Nat) : Int), sv] :: .nilIface :: x63 :: x64 :: x65 :: x66 :: x67 :: x68 :: x69 :: x70 :: x71 :: x72 :: []), []⟩ rfl rfl (by decide) (fun _ _ => rfl) rfl ?_
  refine way_silent (mildR _) rfl (fun _ => stepG_region_end) ?_
  refine piece_end (.bool true) as_ok.2.2.2.2.2 broughtAp Tryd.func5 funcAp (fun w t d h => ⟨h.1, abv_on h.2 t d⟩) fun t d => ?_
  refine Code.wp_mono ?_ (stepF cl w0 (w4.on t d) T0 vt vw ls hcl (hM4.on t d) w.heap.size lo2 sv hpl4 (hE4.keep fun _ _ _ _ _ _ => rfl) (fun e he => by obtain ⟨l, _, rfl⟩ := List.mem_map.1 he; exact by_len l) _ _ _ _ _ _ _ _ _ _ _ _ _ _ _ _ _ _ _ _ _ _ _ _ _ _ _ _ _ _ _ _ _ _ _ _ _ _ _ _ _ _ _ _ _ _ _ _ _ _ _ _ _ _ _ _ _ _ _ _ _ _ _ _ _ _ _ _ _)
  intro e a' w' h
  cases e with
  | ret =>
    obtain ⟨T', h1, h2, h6⟩ := h
    exact ⟨T', h1, fun w1 => by simp [results, Tryd.results5, h2], rfl, hM4.abv.trans (abv_under (Abv.of_below (h6.mono hM4.abv.size)))⟩
  | _ => exact h.elim

theorem apart_rest {T : Array Value} {T0 : Nat} {vt vw : Value} {ls : List (List UInt8)} (hT : SD T cl P n cp vt vw) {w : World} (hM : MC w0 w (nOf cl) T0 vt vw ls) {lo2 : Nat} {sv : Value} (hE2 : EntsAt w lo2 sv (ls.map readL)) (s : ByteArray) :
    Co.Way Tryd.prog true (Rely None') (Guar None') (AtEnd' Tryd.prog fun v w' => v = .bool true ∧ Abv w0.heap.size w0 w') (G ((frAq T vt s).finish (.tuple #[.agg #[.int .i64 ((nOf cl : Nat) : Int), sv], .nilIface])) []) w := by
  have e0 : T.getD 0 undef = .int .i64 cl := getD_of hT.t0
  have e8 : T.getD 8 undef = vw := getD_of hT.t8
  have eT := arr73 hT.size
  rw [e0, e8] at eT
  rw [frame_litA s _ vt _ _ _ _ _ _ _ _ _ _ _ _ _ _ _ _ _ _ _ _ _ _ _ _ _ _ _ _ _ _ _ _ _ _ _ _ _ _ _ _ _ _ _ _ _ _ _ _ _ _ _ _ _ _ _ _ _ _ _ _ _ _ _ _ _ _ _ _ _ _ _ _ _ eT]
  exact apart_rest_lit cl w0 hcl hM hE2 s (T.getD 1 undef) (T.getD 2 undef) (T.getD 3 undef) (T.getD 4 undef) (T.getD 5 undef) (T.getD 6 undef) (T.getD 7 undef) (T.getD 9 undef) (T.getD 10 undef) (T.getD 11 undef) (T.getD 12 undef) (T.getD 13 undef) (T.getD 14 undef) (T.getD 15 undef) (T.getD 16 undef) (T.getD 17 undef) (T.getD 18 undef) (T.getD 19 undef) (T.getD 20 undef) (T.getD 21 undef) (T.getD 22 undef) (T.getD 23 undef) (T.getD 24 undef) (T.getD 25 undef) (T.getD 26 undef) (T.getD 27 undef) (T.getD 28 undef) (T.getD 29 undef) (T.getD 30 undef) (T.getD 31 undef) (T.getD 32 undef) (T.getD 33 undef) (T.getD 34 undef) (T.getD 35 undef) (T.getD 36 undef) (T.getD 37 undef) (T.getD 38 undef) (T.getD 39 undef) (T.getD 40 undef) (T.getD 41 undef) (T.getD 42 undef) (T.getD 43 undef) (T.getD 44 undef) (T.getD 45 undef) (T.getD 46 undef) (T.getD 47 undef) (T.getD 48 undef) (T.getD 49 undef) (T.getD 50 undef) (T.getD 51 undef) (T.getD 52 undef) (T.getD 53 undef) (T.getD 54 undef) (T.getD 55 undef) (T.getD 56 undef) (T.getD 57 undef) (T.getD 61 undef) (T.getD 62 undef) (T.getD 63 undef) (T.getD 64 undef) (T.getD 65 undef) (T.getD 66 undef) (T.getD 67 undef) (T.getD 68 undef) (T.getD 69 undef) (T.getD 70 undef) (T.getD 71 undef) (T.getD 72 undef)

include hl hm hv hp hgs in
/-- ████ THE RUN ████ -/
theorem apart_run : EvEnd Tryd.prog (solo (G (Frame.enter Tryd.prog 5 #[.int .i64 cl, .slice P n cp] .normal) []) w0) #[] (fun v w' => v = .bool true ∧ Abv w0.heap.size w0 w') := by
  rw [startAp_eq]
  have h0 : Done Tryd.prog (fun a w => a = startAp cl P n cp ∧ w = w0) 1 (solo (startAp cl P n cp) w0) #[] := done_first ⟨rfl, rfl⟩
  refine (beside (P := Tryd.prog) (Stop := fun a w => a = startFx [frAp (T1Ap cl P n cp)] ∧ Rely None' w0 w) ?_ (h0.mono ?_)).ends fun m1 t1 h1 => ?_
  · rintro g w ⟨rfl, _⟩; rfl
  · rintro a w ⟨rfl, rfl⟩
    exact apart_entry cl P n cp w
  obtain ⟨a, w1, ⟨rfl, hr⟩, h1⟩ := h1.fix
  have hA : Abv w0.heap.size w0 w1 := (Abv.refl _ w0).rely hr fun _ h => h.elim
  refine (fixed_done w1 m V o cap F C (cell_abv hm hA) (verbs_abv hv hA) (pow_abv w0 hp hA) (Nat.le_trans hgs hA.size) h1).ends fun m2 t2 h2 => ?_
  refine (beside (P := Tryd.prog) (Stop := fun a w => ∃ T T0 vt vw ls, a = GP (T0P (strB (planW (nOf cl) ls))) [.code bodyP] [frAq T vt (strB (planW (nOf cl) ls))] ∧ SD T cl P n cp vt vw ∧ MC w0 w (nOf cl) T0 vt vw ls) ?_ (h2.mono ?_)).ends fun m3 t3 h3 => ?_
  · rintro g w ⟨T, T0, vt, vw, ls, rfl, _⟩; rfl
  · rintro a w ⟨rfl, hA2⟩
    exact apart_mid cl P n cp w0 hcl hl m V o cap F C hm hv hp (hA.trans (hA2.mono hA.size))
  obtain ⟨a, w3, ⟨T, T0, vt, vw, ls, rfl, hT, hM⟩, h3⟩ := h3.fix
  refine (parse_plan w3 m V o cap F C (cell_abv hm hM.abv) (verbs_abv hv hM.abv) (Nat.le_trans hgs hM.abv.size) (nOf_in cl).1 (nOf_in cl).2.1 hM.no10 hM.len hM.size h3).ends fun m4 t4 h4 => ended (h4.mono ?_)
  rintro a w ⟨sv, rfl, hE, hA4⟩
  exact apart_rest cl P n cp w0 hcl hT (hM.keep hA4) hE _
end
end Go.Proofs.YtbjkljmhhpoooaaDoor
