/-
  jotterlaw15.ScriptRound: the whole run.
-/
import Derived.Test.YtbjkljmhhpoooaaDoorEntL
import Derived.Test.YtbjkljmhhpoooaaDoorFixD
import Derived.Test.YtbjkljmhhpoooaaDoorAlkG

/-
  PIECES OF A LAW's BODY IN COMPANY, one behind the other; jotterlaw15.ScriptRound: its first pieces.
-/
namespace Go.Proofs.YtbjkljmhhpoooaaDoor
open Go.Conc Go.Co Go.Proofs Go.RowKit
set_option linter.unusedVariables false

theorem veil_on {w v : World} (h : Veil None' w v) : w = v.on w.tape w.drawn := by
  have hh : w.heap = v.heap := Array.ext_getElem? fun k => h.same k fun e => e
  have ho := h.os
  have hp := h.output
  cases w
  cases v
  simp only at hh ho hp
  subst hh ho hp
  rfl

/-- A PIECE: a lone walk of a piece of code, beside leavers. -/
theorem piece {f : FuncId} {c : Code} {k : List Item} {cs : List Frame} {T : Array Value} {w : World} {Stop : Goroutine → World → Prop} (hok : okCode Tryd.prog S2 f c = true) (hD : S2.D f = []) (Φ : Array Value → World → Prop)
    (hΦ : ∀ T w t d, Φ T w → Φ T (w.on t d)) (h : ∀ t d, c.wp Tryd.prog (fun e a' w' => match e with | .normal => ∃ T', a' = ⟨T', []⟩ ∧ Φ T' w' | _ => False) ⟨T, []⟩ (w.on t d))
    (hn : ∀ T' w', Φ T' w' → Co.Way Tryd.prog true (Rely None') (Guar None') Stop (G ((base f).at ⟨T', []⟩ k) cs) w') :
    Co.Way Tryd.prog true (Rely None') (Guar None') Stop (G ((base f).at ⟨T, []⟩ (.code c :: k)) cs) w := by
  refine (lift_code (b := base f) (a := ⟨T, []⟩) (c := c) ready2 codes2 true k cs hok hD rfl (veil_none w) (Q := fun a' v' => ∃ T', a' = ⟨T', []⟩ ∧ Φ T' v') ?_ ?_).then (Rely.refl _) ?_
  · rintro a v t d ⟨T', h1, h2⟩
    exact ⟨T', h1, hΦ _ _ _ _ h2⟩
  · intro t d
    refine Code.wp_mono ?_ (h t d)
    intro e a' w' h
    cases e with
    | normal => exact ⟨rfl, h⟩
    | _ => exact h.elim
  · rintro g w' ⟨a', v', ⟨T', rfl, h2⟩, _, rfl, hv'⟩
    refine hn T' w' ?_
    rw [veil_on hv']
    exact hΦ _ _ _ _ h2
/-- The last piece: to the return of the main goroutine. -/
theorem piece_end {f : FuncId} {fn : Func} {c : Code} {T : Array Value} {w : World} {Post : Value → World → Prop} (v : Value) (hok : okCode Tryd.prog S2 f c = true) (hD : S2.D f = []) (hf : Tryd.prog.funcs[f]? = some fn) (hi : Tryd.prog.inits.idxOf? f = none)
    (hP : ∀ w t d, Post v w → Post v (w.on t d)) (h : ∀ t d, c.wp Tryd.prog (fun e a' w' => match e with | .ret => ∃ T', a' = ⟨T', []⟩ ∧ (∀ w1, (results fn T').run Tryd.prog w1 = .ok v w1) ∧ Post v w' | _ => False) ⟨T, []⟩ (w.on t d)) :
    Co.Way Tryd.prog true (Rely None') (Guar None') (AtEnd' Tryd.prog Post) (G ((base f).at ⟨T, []⟩ [.code c]) []) w := by
  refine (lift_body (b := base f) (a := ⟨T, []⟩) (c := c) ready2 codes2 true [] hok hD rfl (veil_none w) (Q := fun a' v' => ∃ T', a' = ⟨T', []⟩ ∧ (∀ w1, (results fn T').run Tryd.prog w1 = .ok v w1) ∧ Post v v') ?_ ?_).then (Rely.refl _) ?_
  · rintro a v' t d ⟨T', h1, h2, h3⟩
    exact ⟨T', h1, h2, hP _ _ _ h3⟩
  · intro t d
    refine Code.wp_mono ?_ (h t d)
    intro e a' w' h
    cases e with
    | ret => exact ⟨rfl, h⟩
    | _ => exact h.elim
  · rintro g w' ⟨a', todo, v', ⟨T', rfl, h2, h3⟩, _, rfl, hv'⟩
    refine Co.Way.stop fun w1 h1 => at_end (b := base f) (a := ⟨T', []⟩) (todo := todo) (fn := fn) (v := v) rfl rfl hf hi (h2 w1) ?_
    have e1 : w1 = v'.on w1.tape w1.drawn := by
      refine veil_on ⟨h1.size.trans hv'.size, fun k hk => (rely_get h1 k).trans (hv'.same k hk), masked_none _, fun _ h => h.elim, h1.os.trans hv'.os, h1.output.trans hv'.output⟩
    rw [e1]
    exact hP _ _ _ h3

/-! ### ScriptRound -/
noncomputable def bodyRo : Code := Tryd.f4.body.getD .skip
noncomputable def cA : Code := match bodyRo with | .seq c _ => c | _ => .skip
noncomputable def cB : Code := match bodyRo with | .seq _ (.seq c _) => c | _ => .skip
noncomputable def cC : Code := match bodyRo with | .seq _ (.seq _ (.seq c _)) => c | _ => .skip
noncomputable def cD : Code := match bodyRo with | .seq _ (.seq _ (.seq _ (.seq c _))) => c | _ => .skip
noncomputable def cE : Code := match bodyRo with | .seq _ (.seq _ (.seq _ (.seq _ (.seq c _)))) => c | _ => .skip
noncomputable def ops9Ro : Array Oper := match bodyRo with | .seq _ (.seq _ (.seq _ (.seq _ (.seq _ (.seq (.region _ ops _) _))))) => ops | _ => #[]
noncomputable def cF : Code := match bodyRo with | .seq _ (.seq _ (.seq _ (.seq _ (.seq _ (.seq _ c))))) => c | _ => .skip
theorem cs_ok : okCode Tryd.prog S2 4 cA = true ∧ okCode Tryd.prog S2 4 cB = true ∧ okCode Tryd.prog S2 4 cC = true ∧ okCode Tryd.prog S2 4 cD = true ∧ okCode Tryd.prog S2 4 cE = true ∧ okCode Tryd.prog S2 4 cF = true := ⟨by kernel_rfl, by kernel_rfl, by kernel_rfl, by kernel_rfl, by kernel_rfl, by kernel_rfl⟩
theorem broughtRo : S2.D 4 = [] := by kernel_rfl

/-- any entries, as they are read -/
def RawsIn (w : World) (P : Option Addr) (n : Nat) : Prop := n = 0 ∨ ∃ b o, P = some ⟨b, o, none⟩ ∧ b < w.heap.size ∧ ∀ i, i < n → ∃ R A cap, RawE.Ok R ∧ R.bs.length ≤ cap ∧ (A = none → cap = 0) ∧ BytesRd w A R.bs ∧ w.rangeAt b (o + i * 8) (rawArr R A cap).toList
theorem RawsIn.below {w w' : World} {P : Option Addr} {n : Nat} (h : RawsIn w P n) (hb : Below w.heap.size w w') : RawsIn w' P n := by
  rcases h with h | ⟨b, o, h1, h2, h3⟩
  · exact .inl h
  · refine .inr ⟨b, o, h1, Nat.lt_of_lt_of_le h2 hb.size, fun i hi => ?_⟩
    obtain ⟨R, A, cap, k1, k2, k3, k4, k5⟩ := h3 i hi
    exact ⟨R, A, cap, k1, k2, k3, bytesRd_below k4 hb, range_below k5 h2 hb⟩

/-- the fold by which a row of one entry is laid -/
theorem fold_ent (E : Ent) (A : Option Addr) (c : Nat) (z0 z1 z2 z3 z4 z5 z6 z7 : Value) : Array.foldl (fun (cs : Array Value) (x : Value × Nat) => cs.setIfInBounds x.snd x.fst) #[z0, z1, z2, z3, z4, z5, z6, z7] (entArr E A c).zipIdx 0 (entArr E A c).size = entArr E A c := by
  unfold entArr
  simp

structure TA (T : Array Value) (n1 : Int) (n0 : Nat) : Prop where
  size : T.size = 105
  t1 : T[1]? = some (.int .i64 n1)
  t3 : T[3]? = some (.pointer (some ⟨n0, 0, none⟩))
  t5 : T[5]? = some (.pointer (some ⟨n0 + 1, 0, none⟩))
structure TB (T : Array Value) (n1 : Int) (n0 : Nat) : Prop where
  size : T.size = 105
  t1 : T[1]? = some (.int .i64 n1)
  t3 : T[3]? = some (.pointer (some ⟨n0, 0, none⟩))
  t5 : T[5]? = some (.pointer (some ⟨n0 + 1, 0, none⟩))
  t7 : T[7]? = some (.pointer (some ⟨n0 + 2, 0, none⟩))
structure TD (T : Array Value) (n1 : Int) (n0 : Nat) (s : ByteArray) : Prop where
  size : T.size = 105
  t1 : T[1]? = some (.int .i64 n1)
  t5 : T[5]? = some (.pointer (some ⟨n0 + 1, 0, none⟩))
  t7 : T[7]? = some (.pointer (some ⟨n0 + 2, 0, none⟩))
  t9 : T[9]? = some (.string s)
  t10 : T[10]? = some .nilIface
/-- the boxes of the arguments -/
structure MA (cl : Int) (P : Option Addr) (n cp : Nat) (R : RawE) (AR : Option Addr) (cR : Nat) (w0 w : World) (n0 : Nat) : Prop where
  hp : w.heap[n0]? = some (.cells #[.int .i64 cl, .slice P n cp] 31 (0, 0))
  he : w.heap[n0 + 1]? = some (.cells (rawArr R AR cR) 25 (0, 0))
  size : w.heap.size = n0 + 2
  abv : Abv n0 w0 w
/-- .. and the plan that is made -/
structure MB (cl : Int) (P : Option Addr) (n cp : Nat) (R : RawE) (AR : Option Addr) (cR : Nat) (w0 w : World) (n0 N : Nat) (es : List Ent) : Prop where
  he : w.heap[n0 + 1]? = some (.cells (rawArr R AR cR) 25 (0, 0))
  hp : w.heap[n0]? = some (.cells #[.int .i64 cl, .slice P n cp] 31 (0, 0))
  hN1 : 1 ≤ N
  hN2 : N ≤ 64
  all : ∀ e ∈ es, Meant e
  len : es.length ≤ 450
  hq : ∃ sv, w.heap[n0 + 2]? = some (.cells #[.int .i64 (N : Int), sv] 31 (0, 0)) ∧ EntsAt w (n0 + 3) sv es
  size : n0 + 3 ≤ w.heap.size
  abv : Abv n0 w0 w
section
variable (cl n1 : Int) (P : Option Addr) (n cp : Nat) (R : RawE) (AR : Option Addr) (cR : Nat)

set_option maxRecDepth 100000 in
set_option maxHeartbeats 2000000 in
theorem pieceA (w0 w : World) (n0 : Nat) (hn : w.heap.size = n0) (h0 : Abv n0 w0 w) : cA.wp Tryd.prog (fun e a' w' => match e with | .normal => ∃ T, a' = ⟨T, []⟩ ∧ TA T n1 n0 ∧ MA cl P n cp R AR cR w0 w' n0 | _ => False) ⟨List.toArray (.agg #[.int .i64 cl, .slice P n cp] :: .int .i64 n1 :: .agg (rawArr R AR cR) :: undef :: undef :: undef :: undef :: undef :: undef :: undef :: undef :: undef :: undef :: undef :: undef :: undef :: undef :: undef :: undef :: undef :: undef :: undef :: undef :: undef :: undef :: undef :: undef :: undef :: undef :: undef :: undef :: undef :: undef :: undef :: undef :: undef :: undef :: undef :: undef :: undef :: undef :: undef :: undef :: undef :: undef :: undef :: undef :: undef :: undef :: undef :: undef :: undef :: undef :: undef :: undef :: undef :: undef :: undef :: undef :: undef :: undef :: undef :: undef :: undef :: undef :: undef :: undef :: undef :: undef :: undef :: undef :: undef :: undef :: undef :: undef :: undef :: undef :: undef :: undef :: undef :: undef :: undef :: undef :: undef :: undef :: undef :: undef :: undef :: undef :: undef :: undef :: undef :: undef :: undef :: undef :: undef :: undef :: undef :: undef :: undef :: undef :: undef :: undef :: undef :: undef :: []), []⟩ w := by
  subst hn
  simp only [cA, bodyRo, Tryd.f4, Option.getD_some]
  unfold rawArr
  have H0 := Lib.hid h0
  clear h0
  go_wp2_with fail
  exact ⟨⟨rfl, rfl, rfl, rfl⟩, ⟨alloc_old (alloc_at rfl), alloc_at (by simp), by simp, (H0.out.push (Nat.le_refl _) _).push (by simp) _⟩⟩

set_option maxRecDepth 100000 in
set_option maxHeartbeats 2000000 in
theorem pieceB (w0 w : World) (n0 : Nat) (hcl : i64 cl) (hM : MA cl P n cp R AR cR w0 w n0) (x0 x2 x4 x6 x7 x8 x9 x10 x11 x12 x13 x14 x15 x16 x17 x18 x19 x20 x21 x22 x23 x24 x25 x26 x27 x28 x29 x30 x31 x32 x33 x34 x35 x36 x37 x38 x39 x40 x41 x42 x43 x44 x45 x46 x47 x48 x49 x50 x51 x52 x53 x54 x55 x56 x57 x58 x59 x60 x61 x62 x63 x64 x65 x66 x67 x68 x69 x70 x71 x72 x73 x74 x75 x76 x77 x78 x79 x80 x81 x82 x83 x84 x85 x86 x87 x88 x89 x90 x91 x92 x93 x94 x95 x96 x97 x98 x99 x100 x101 x102 x103 x104 : Value) :
    cB.wp Tryd.prog (fun e a' w' => match e with | .normal => ∃ T, a' = ⟨T, []⟩ ∧ TB T n1 n0 ∧ ∃ N, MB cl P n cp R AR cR w0 w' n0 N [] | _ => False) ⟨List.toArray (x0 :: .int .i64 n1 :: x2 :: .pointer (some ⟨n0, 0, none⟩) :: x4 :: .pointer (some ⟨n0 + 1, 0, none⟩) :: x6 :: x7 :: x8 :: x9 :: x10 :: x11 :: x12 :: x13 :: x14 :: x15 :: x16 :: x17 :: x18 :: x19 :: x20 :: x21 :: x22 :: x23 :: x24 :: x25 :: x26 :: x27 :: x28 :: x29 :: x30 :: x31 :: x32 :: x33 :: x34 :: x35 :: x36 :: x37 :: x38 :: x39 :: x40 :: x41 :: x42 :: x43 :: x44 :: x45 :: x46 :: x47 :: x48 :: x49 :: x50 :: x51 :: x52 :: x53 :: x54 :: x55 :: x56 :: x57 :: x58 :: x59 :: x60 :: x61 :: x62 :: x63 :: x64 :: x65 :: x66 :: x67 :: x68 :: x69 :: x70 :: x71 :: x72 :: x73 :: x74 :: x75 :: x76 :: x77 :: x78 :: x79 :: x80 :: x81 :: x82 :: x83 :: x84 :: x85 :: x86 :: x87 :: x88 :: x89 :: x90 :: x91 :: x92 :: x93 :: x94 :: x95 :: x96 :: x97 :: x98 :: x99 :: x100 :: x101 :: x102 :: x103 :: x104 :: []), []⟩ w := by
  simp only [cB, bodyRo, Tryd.f4, Option.getD_some]
  have hc0 := cell_of_heap (i := 0) hM.hp (v := .int .i64 cl) rfl
  have hsz := hM.size
  have HM := Lib.hid hM
  clear hM
  go_wp2_with fail
  refine (within_nat cl 1 64 hcl (by decide) (by decide) _).mono ?_
  rintro e' w' ⟨N, rfl, h1, h2, rfl⟩
  go_wp2_with fail
  have hz2 := HM.out.size
  refine ⟨⟨rfl, rfl, rfl, rfl, by rw [← hz2]; rfl⟩, N, alloc_old HM.out.he, alloc_old HM.out.hp, h1, h2, fun e he => (by cases he), Nat.zero_le _, ⟨_, by rw [← hz2]; exact alloc_at rfl, EntsAt.nil _ _⟩, by simp; omega, HM.out.abv.push (by rw [hz2]; omega) _⟩

set_option maxRecDepth 100000 in
set_option maxHeartbeats 4000000 in
theorem pieceC (w0 w : World) (n0 N : Nat) (hn0 : w0.heap.size = n0) (hraw : RawsIn w0 P n) (hM : MB cl P n cp R AR cR w0 w n0 N []) (x0 x2 x4 x6 x8 x9 x10 x11 x12 x13 x14 x15 x16 x17 x18 x19 x20 x21 x22 x23 x24 x25 x26 x27 x28 x29 x30 x31 x32 x33 x34 x35 x36 x37 x38 x39 x40 x41 x42 x43 x44 x45 x46 x47 x48 x49 x50 x51 x52 x53 x54 x55 x56 x57 x58 x59 x60 x61 x62 x63 x64 x65 x66 x67 x68 x69 x70 x71 x72 x73 x74 x75 x76 x77 x78 x79 x80 x81 x82 x83 x84 x85 x86 x87 x88 x89 x90 x91 x92 x93 x94 x95 x96 x97 x98 x99 x100 x101 x102 x103 x104 : Value) :
    cC.wp Tryd.prog (fun e a' w' => match e with | .normal => ∃ T, a' = ⟨T, []⟩ ∧ TB T n1 n0 ∧ ∃ es, MB cl P n cp R AR cR w0 w' n0 N es | _ => False) ⟨List.toArray (x0 :: .int .i64 n1 :: x2 :: .pointer (some ⟨n0, 0, none⟩) :: x4 :: .pointer (some ⟨n0 + 1, 0, none⟩) :: x6 :: .pointer (some ⟨n0 + 2, 0, none⟩) :: x8 :: x9 :: x10 :: x11 :: x12 :: x13 :: x14 :: x15 :: x16 :: x17 :: x18 :: x19 :: x20 :: x21 :: x22 :: x23 :: x24 :: x25 :: x26 :: x27 :: x28 :: x29 :: x30 :: x31 :: x32 :: x33 :: x34 :: x35 :: x36 :: x37 :: x38 :: x39 :: x40 :: x41 :: x42 :: x43 :: x44 :: x45 :: x46 :: x47 :: x48 :: x49 :: x50 :: x51 :: x52 :: x53 :: x54 :: x55 :: x56 :: x57 :: x58 :: x59 :: x60 :: x61 :: x62 :: x63 :: x64 :: x65 :: x66 :: x67 :: x68 :: x69 :: x70 :: x71 :: x72 :: x73 :: x74 :: x75 :: x76 :: x77 :: x78 :: x79 :: x80 :: x81 :: x82 :: x83 :: x84 :: x85 :: x86 :: x87 :: x88 :: x89 :: x90 :: x91 :: x92 :: x93 :: x94 :: x95 :: x96 :: x97 :: x98 :: x99 :: x100 :: x101 :: x102 :: x103 :: x104 :: []), []⟩ w := by
  simp only [cC, bodyRo, Tryd.f4, Option.getD_some]
  have HM := Lib.hid hM
  have HRAW := Lib.hid hraw
  clear hM hraw
  go_wp2_with fail
  go_loopw [8] (fun vi wr => ∃ i : Nat, i ≤ n ∧ i ≤ 450 ∧ vi = .int .i64 (i : Int) ∧ ∃ es, es.length = i ∧ MB cl P n cp R AR cR w0 wr n0 N es) (fun vi _ => 450 - (intOf vi).toNat)
  case atStart => exact ⟨0, Nat.zero_le _, Nat.zero_le _, rfl, [], rfl, HM.out⟩
  case round =>
    obtain ⟨i, hi, hi2, rfl, es, hes, hm⟩ := hrel
    have hc1 := cell_of_heap (i := 1) hm.hp (v := .slice P n cp) rfl
    have HMR := Lib.hid hm
    by_cases hlt : i < n
    · have hlt' : (i : Int) < (n : Int) := by omega
      by_cases h450 : i < 450
      · have h450' : (i : Int) < 450 := by omega
        obtain ⟨sv, hq, hE⟩ := hm.hq
        obtain ⟨b, o, R0, A0, k0, rfl, hR0, hb0, hb1, hb2, hbl, hra⟩ : ∃ b o R0 A0 k0, P = some ⟨b, o, none⟩ ∧ RawE.Ok R0 ∧ R0.bs.length ≤ k0 ∧ (A0 = none → k0 = 0) ∧ BytesRd w0 A0 R0.bs ∧ b < w0.heap.size ∧ w0.rangeAt b (o + i * 8) (rawArr R0 A0 k0).toList := by
          rcases HRAW.out with h | ⟨b, o, h1, h2, h3⟩
          · omega
          · obtain ⟨R0, A0, k0, a1, a2, a3, a4, a5⟩ := h3 i hlt
            exact ⟨b, o, R0, A0, k0, h1, a1, a2, a3, a4, h2, a5⟩
        go_wp2_with fail
        clear hc1
        have hsz := hm.size
        have hbR : Below wr.heap.size wr wr.drew := (Below.refl _ _).drew
        obtain ⟨AQ, cq, rfl⟩ := hE.form
        have hle : es.length ≤ 449 := by omega
        have HES := Lib.hid hes
        clear hes
        have HQ := Lib.hid hq
        have HE := Lib.hid hE
        have hP1 : ∀ w', Below (n0 + 2) wr w' → w'.cell? ⟨n0, 1, none⟩ = some (.slice (some ⟨b, o, none⟩) n cp) := fun w' h => cell_of_heap ((h.block n0 (by omega)).trans HMR.out.hp) rfl
        have hR1 : ∀ w', Below (n0 + 2) wr w' → w'.rangeAt b (o + i * 8) (rawArr R0 A0 k0).toList := fun w' h j v hv => by
          have e1 := hra j v hv
          rw [World.cell?_of_block (w := wr) (h.block b (by omega))]
          rw [World.cell?_of_block (w := w0) (HMR.out.abv.block b (by omega))]
          exact e1
        have hent : Calls Tryd.prog 13 #[.agg (rawArr R0 A0 k0)] wr.drew fun e w' => ∃ E, Meant E ∧ ∃ A4 c4, e = .returned (.agg (entArr E A4 c4)) ∧ w'.ownsRow (n0 + 3) 5 1 (.slice A4 E.by_.length c4) E.by_.length (u8s E.by_) ∧ Below wr.heap.size wr w' := by
          have hby : BytesRd wr.drew A0 R0.bs := by
            rcases hb2 with h | ⟨ad, h1, h3⟩
            · exact .inl h
            · refine .inr ⟨ad, h1, fun j hj => ?_⟩
              show wr.cell? _ = _
              rw [World.cell?_of_block (w := w0) (HMR.out.abv.block _ (by rw [← hn0]; exact World.block_lt_of_cell? w0 _ (h3 j hj)))]
              exact h3 j hj
          refine (law_entry R0 hR0 A0 k0 wr.drew hb0 hb1 hby).mono ?_
          rintro e w' ⟨E, hE1, h⟩
          obtain ⟨A4, c4, h1, h2, h3⟩ := h.lay
          exact ⟨E, hE1, A4, c4, h1, own_mono h2 hsz, ⟨h3.os, h3.tape, h3.output, h3.size, h3.block⟩⟩
        have HENT := Lib.hid hent
        have HP1 := Lib.hid hP1
        have HR1 := Lib.hid hR1
        have hq1 : wr.drew.cell? ⟨n0 + 2, 1, none⟩ = some (.slice AQ es.length cq) := cell_of_heap (w := wr.drew) hq rfl
        have HQ1 := Lib.hid hq1
        clear hent hP1 hR1 hra hq hE hm hq1 hb2
        refine wp_region_held_drew (S := fun w' => Below (n0 + 2) wr w') (by kernel_rfl) ((Below.refl _ _).drew) (fun hHeld => ?_)
        · skip
          refine wpAnyH_take (i := 0) (v := .pointer (some ⟨n0 + 2, 1, none⟩)) rfl (by kernel_rfl) (by kernel_rfl) (by kernel_rfl) (fun _ _ _ h => h) (Or.inl ⟨by rfl, fun w' hw' => ?_⟩) (by assumption) ?_
          · go_simp
          change wpAnyH _ _ _ _ _ _ _ ⟨List.toArray (_ :: _ :: _ :: _ :: _ :: _ :: _ :: _ :: _ :: _ :: _ :: _ :: _ :: _ :: _ :: _ :: _ :: _ :: _ :: _ :: _ :: _ :: _ :: _ :: _ :: _ :: _ :: _ :: _ :: _ :: _ :: .pointer (some ⟨n0 + 2, 1, none⟩) :: _ :: _ :: _ :: _ :: _ :: _ :: _ :: _ :: _ :: _ :: _ :: _ :: _ :: _ :: _ :: _ :: _ :: _ :: _ :: _ :: _ :: _ :: _ :: _ :: _ :: _ :: _ :: _ :: _ :: _ :: _ :: _ :: _ :: _ :: _ :: _ :: _ :: _ :: _ :: _ :: _ :: _ :: _ :: _ :: _ :: _ :: _ :: _ :: _ :: _ :: _ :: _ :: _ :: _ :: _ :: _ :: _ :: _ :: _ :: _ :: _ :: _ :: _ :: _ :: _ :: _ :: _ :: _ :: _ :: _ :: _ :: _ :: _ :: []), []⟩ _
          refine wpAnyH_take (i := 2) (v := .pointer (some ⟨n0, 1, none⟩)) rfl (by kernel_rfl) (by kernel_rfl) (by kernel_rfl) (fun _ _ _ h => h) (Or.inl ⟨by rfl, fun w' hw' => ?_⟩) (by assumption) ?_
          · go_simp
          change wpAnyH _ _ _ _ _ _ _ ⟨List.toArray (_ :: _ :: _ :: _ :: _ :: _ :: _ :: _ :: _ :: _ :: _ :: _ :: _ :: _ :: _ :: _ :: _ :: _ :: _ :: _ :: _ :: _ :: _ :: _ :: _ :: _ :: _ :: _ :: _ :: _ :: _ :: .pointer (some ⟨n0 + 2, 1, none⟩) :: _ :: .pointer (some ⟨n0, 1, none⟩) :: _ :: _ :: _ :: _ :: _ :: _ :: _ :: _ :: _ :: _ :: _ :: _ :: _ :: _ :: _ :: _ :: _ :: _ :: _ :: _ :: _ :: _ :: _ :: _ :: _ :: _ :: _ :: _ :: _ :: _ :: _ :: _ :: _ :: _ :: _ :: _ :: _ :: _ :: _ :: _ :: _ :: _ :: _ :: _ :: _ :: _ :: _ :: _ :: _ :: _ :: _ :: _ :: _ :: _ :: _ :: _ :: _ :: _ :: _ :: _ :: _ :: _ :: _ :: _ :: _ :: _ :: _ :: _ :: _ :: _ :: _ :: []), []⟩ _
          refine wpAnyH_take (i := 4) (v := .int .i64 (i : Int)) rfl (by kernel_rfl) (by kernel_rfl) (by kernel_rfl) (fun _ _ _ h => h) (Or.inl ⟨by rfl, fun w' hw' => ?_⟩) (by assumption) ?_
          · go_simp
          change wpAnyH _ _ _ _ _ _ _ ⟨List.toArray (_ :: _ :: _ :: _ :: _ :: _ :: _ :: _ :: _ :: _ :: _ :: _ :: _ :: _ :: _ :: _ :: _ :: _ :: _ :: _ :: _ :: _ :: _ :: _ :: _ :: _ :: _ :: _ :: _ :: _ :: _ :: .pointer (some ⟨n0 + 2, 1, none⟩) :: _ :: .pointer (some ⟨n0, 1, none⟩) :: _ :: .int .i64 (i : Int) :: _ :: _ :: _ :: _ :: _ :: _ :: _ :: _ :: _ :: _ :: _ :: _ :: _ :: _ :: _ :: _ :: _ :: _ :: _ :: _ :: _ :: _ :: _ :: _ :: _ :: _ :: _ :: _ :: _ :: _ :: _ :: _ :: _ :: _ :: _ :: _ :: _ :: _ :: _ :: _ :: _ :: _ :: _ :: _ :: _ :: _ :: _ :: _ :: _ :: _ :: _ :: _ :: _ :: _ :: _ :: _ :: _ :: _ :: _ :: _ :: _ :: _ :: _ :: _ :: _ :: _ :: _ :: _ :: _ :: []), []⟩ _
          refine wpAnyH_take (i := 3) (v := .slice (some ⟨b, o, none⟩) n cp) rfl (by kernel_rfl) (by kernel_rfl) (by kernel_rfl) (fun _ _ _ h => h) (Or.inl ⟨by rfl, fun w' hw' => ?_⟩) (by assumption) ?_
          · have hx := HP1.out w' hw'; clear hHeld; go_simp
          change wpAnyH _ _ _ _ _ _ _ ⟨List.toArray (_ :: _ :: _ :: _ :: _ :: _ :: _ :: _ :: _ :: _ :: _ :: _ :: _ :: _ :: _ :: _ :: _ :: _ :: _ :: _ :: _ :: _ :: _ :: _ :: _ :: _ :: _ :: _ :: _ :: _ :: _ :: .pointer (some ⟨n0 + 2, 1, none⟩) :: _ :: .pointer (some ⟨n0, 1, none⟩) :: .slice (some ⟨b, o, none⟩) n cp :: .int .i64 (i : Int) :: _ :: _ :: _ :: _ :: _ :: _ :: _ :: _ :: _ :: _ :: _ :: _ :: _ :: _ :: _ :: _ :: _ :: _ :: _ :: _ :: _ :: _ :: _ :: _ :: _ :: _ :: _ :: _ :: _ :: _ :: _ :: _ :: _ :: _ :: _ :: _ :: _ :: _ :: _ :: _ :: _ :: _ :: _ :: _ :: _ :: _ :: _ :: _ :: _ :: _ :: _ :: _ :: _ :: _ :: _ :: _ :: _ :: _ :: _ :: _ :: _ :: _ :: _ :: _ :: _ :: _ :: _ :: _ :: _ :: []), []⟩ _
          refine wpAnyH_take (i := 5) (v := .pointer (some ⟨b, o + i * 8, none⟩)) rfl (by kernel_rfl) (by kernel_rfl) (by kernel_rfl) (fun _ _ _ h => h) (Or.inl ⟨by rfl, fun w' hw' => ?_⟩) (by assumption) ?_
          · go_simp
          change wpAnyH _ _ _ _ _ _ _ ⟨List.toArray (_ :: _ :: _ :: _ :: _ :: _ :: _ :: _ :: _ :: _ :: _ :: _ :: _ :: _ :: _ :: _ :: _ :: _ :: _ :: _ :: _ :: _ :: _ :: _ :: _ :: _ :: _ :: _ :: _ :: _ :: _ :: .pointer (some ⟨n0 + 2, 1, none⟩) :: _ :: .pointer (some ⟨n0, 1, none⟩) :: .slice (some ⟨b, o, none⟩) n cp :: .int .i64 (i : Int) :: .pointer (some ⟨b, o + i * 8, none⟩) :: _ :: _ :: _ :: _ :: _ :: _ :: _ :: _ :: _ :: _ :: _ :: _ :: _ :: _ :: _ :: _ :: _ :: _ :: _ :: _ :: _ :: _ :: _ :: _ :: _ :: _ :: _ :: _ :: _ :: _ :: _ :: _ :: _ :: _ :: _ :: _ :: _ :: _ :: _ :: _ :: _ :: _ :: _ :: _ :: _ :: _ :: _ :: _ :: _ :: _ :: _ :: _ :: _ :: _ :: _ :: _ :: _ :: _ :: _ :: _ :: _ :: _ :: _ :: _ :: _ :: _ :: _ :: _ :: []), []⟩ _
          refine wpAnyH_take (i := 6) (v := .agg (rawArr R0 A0 k0)) rfl (by kernel_rfl) (by kernel_rfl) (by kernel_rfl) (fun _ _ _ h => h) (Or.inl ⟨by rfl, fun w' hw' => ?_⟩) (by assumption) ?_
          · exact run_load_at rfl rfl (HR1.out w' hw') (by kernel_rfl) (by kernel_rfl)
          change wpAnyH _ _ _ _ _ _ _ ⟨List.toArray (_ :: _ :: _ :: _ :: _ :: _ :: _ :: _ :: _ :: _ :: _ :: _ :: _ :: _ :: _ :: _ :: _ :: _ :: _ :: _ :: _ :: _ :: _ :: _ :: _ :: _ :: _ :: _ :: _ :: _ :: _ :: .pointer (some ⟨n0 + 2, 1, none⟩) :: _ :: .pointer (some ⟨n0, 1, none⟩) :: .slice (some ⟨b, o, none⟩) n cp :: .int .i64 (i : Int) :: .pointer (some ⟨b, o + i * 8, none⟩) :: .agg (rawArr R0 A0 k0) :: _ :: _ :: _ :: _ :: _ :: _ :: _ :: _ :: _ :: _ :: _ :: _ :: _ :: _ :: _ :: _ :: _ :: _ :: _ :: _ :: _ :: _ :: _ :: _ :: _ :: _ :: _ :: _ :: _ :: _ :: _ :: _ :: _ :: _ :: _ :: _ :: _ :: _ :: _ :: _ :: _ :: _ :: _ :: _ :: _ :: _ :: _ :: _ :: _ :: _ :: _ :: _ :: _ :: _ :: _ :: _ :: _ :: _ :: _ :: _ :: _ :: _ :: _ :: _ :: _ :: _ :: _ :: []), []⟩ _
          refine wpAnyH_ready (rs := [1, 7]) (by kernel_rfl) (by simp) ?_
          refine AllReadyH.cons rfl (fun K hK => ?_) (AllReadyH.cons rfl (fun K hK => ?_) AllReadyH.nil)
          · have hx := HQ1.out
            clear hHeld
            go_simp
            refine hK.out _ _ (Below.refl _ _).drew (fun hHeld => ?_)
            clear hK K hx
            change wpAnyH _ _ _ _ _ _ _ ⟨List.toArray (_ :: _ :: _ :: _ :: _ :: _ :: _ :: _ :: _ :: _ :: _ :: _ :: _ :: _ :: _ :: _ :: _ :: _ :: _ :: _ :: _ :: _ :: _ :: _ :: _ :: _ :: _ :: _ :: _ :: _ :: _ :: .pointer (some ⟨n0 + 2, 1, none⟩) :: .slice AQ es.length cq :: .pointer (some ⟨n0, 1, none⟩) :: .slice (some ⟨b, o, none⟩) n cp :: .int .i64 (i : Int) :: .pointer (some ⟨b, o + i * 8, none⟩) :: .agg (rawArr R0 A0 k0) :: _ :: _ :: _ :: _ :: _ :: _ :: _ :: _ :: _ :: _ :: _ :: _ :: _ :: _ :: _ :: _ :: _ :: _ :: _ :: _ :: _ :: _ :: _ :: _ :: _ :: _ :: _ :: _ :: _ :: _ :: _ :: _ :: _ :: _ :: _ :: _ :: _ :: _ :: _ :: _ :: _ :: _ :: _ :: _ :: _ :: _ :: _ :: _ :: _ :: _ :: _ :: _ :: _ :: _ :: _ :: _ :: _ :: _ :: _ :: _ :: _ :: _ :: _ :: _ :: _ :: _ :: _ :: []), []⟩ _
            refine wpAnyH_ready (rs := [7]) (by kernel_rfl) (by simp) ?_
            refine AllReadyH.cons rfl (fun K hK => ?_) AllReadyH.nil
            clear hHeld
            go_simp
            refine HENT.out.mono ?_
            rintro e' w4 ⟨E, hE1, A4, c4, rfl, ho4, hb4⟩
            have hB4 : Below (n0 + 2) wr w4 := hb4.mono (by omega)
            have hq4 : w4.heap[n0 + 2]? = some (.cells #[.int .i64 (N : Int), .slice AQ es.length cq] 31 (0, 0)) := (hb4.block _ (by omega)).trans HQ.out
            have hqc4 := cell_of_heap (i := 1) hq4 (v := .slice AQ es.length cq) rfl
            refine hK.out _ _ hB4 (fun hHeld => ?_)
            clear hK K
            change wpAnyH _ _ _ _ _ _ _ ⟨List.toArray (_ :: _ :: _ :: _ :: _ :: _ :: _ :: _ :: _ :: _ :: _ :: _ :: _ :: _ :: _ :: _ :: _ :: _ :: _ :: _ :: _ :: _ :: _ :: _ :: _ :: _ :: _ :: _ :: _ :: _ :: _ :: .pointer (some ⟨n0 + 2, 1, none⟩) :: .slice AQ es.length cq :: .pointer (some ⟨n0, 1, none⟩) :: .slice (some ⟨b, o, none⟩) n cp :: .int .i64 (i : Int) :: .pointer (some ⟨b, o + i * 8, none⟩) :: .agg (rawArr R0 A0 k0) :: .agg (entArr E A4 c4) :: _ :: _ :: _ :: _ :: _ :: _ :: _ :: _ :: _ :: _ :: _ :: _ :: _ :: _ :: _ :: _ :: _ :: _ :: _ :: _ :: _ :: _ :: _ :: _ :: _ :: _ :: _ :: _ :: _ :: _ :: _ :: _ :: _ :: _ :: _ :: _ :: _ :: _ :: _ :: _ :: _ :: _ :: _ :: _ :: _ :: _ :: _ :: _ :: _ :: _ :: _ :: _ :: _ :: _ :: _ :: _ :: _ :: _ :: _ :: _ :: _ :: _ :: _ :: _ :: _ :: _ :: []), []⟩ _
            refine wpAnyH_ready (rs := [8]) (by kernel_rfl) (by simp) ?_
            refine AllReadyH.cons rfl (fun K hK => ?_) AllReadyH.nil
            clear hHeld
            go_simp
            simp only [fold_ent]
            refine hK.out _ (w4.alloc (.cells (entArr E A4 c4) 25)) (hB4.alloc (by have := hb4.size; omega) _) (fun hHeld => ?_)
            clear hK K
            change wpAnyH _ _ _ _ _ _ _ ⟨List.toArray (_ :: _ :: _ :: _ :: _ :: _ :: _ :: _ :: _ :: _ :: _ :: _ :: _ :: _ :: _ :: _ :: _ :: _ :: _ :: _ :: _ :: _ :: _ :: _ :: _ :: _ :: _ :: _ :: _ :: _ :: _ :: .pointer (some ⟨n0 + 2, 1, none⟩) :: .slice AQ es.length cq :: .pointer (some ⟨n0, 1, none⟩) :: .slice (some ⟨b, o, none⟩) n cp :: .int .i64 (i : Int) :: .pointer (some ⟨b, o + i * 8, none⟩) :: .agg (rawArr R0 A0 k0) :: .agg (entArr E A4 c4) :: .slice (some ⟨w4.heap.size, 0, none⟩) 1 1 :: _ :: _ :: _ :: _ :: _ :: _ :: _ :: _ :: _ :: _ :: _ :: _ :: _ :: _ :: _ :: _ :: _ :: _ :: _ :: _ :: _ :: _ :: _ :: _ :: _ :: _ :: _ :: _ :: _ :: _ :: _ :: _ :: _ :: _ :: _ :: _ :: _ :: _ :: _ :: _ :: _ :: _ :: _ :: _ :: _ :: _ :: _ :: _ :: _ :: _ :: _ :: _ :: _ :: _ :: _ :: _ :: _ :: _ :: _ :: _ :: _ :: _ :: _ :: _ :: _ :: []), []⟩ _
            refine wpAnyH_ready (rs := [9]) (by kernel_rfl) (by simp) ?_
            refine AllReadyH.cons rfl (fun K hK => ?_) AllReadyH.nil
            have hb5 : Below w4.heap.size w4 (w4.alloc (.cells (entArr E A4 c4) 25)) := (Below.refl _ _).alloc (Nat.le_refl _) _
            have hb45 := hb4.trans (hb5.mono hb4.size)
            refine step_append_entry (lo := n0 + 3) (es := es) (v := .slice AQ es.length cq) (E := E) rfl (.tmp 32) (.tmp 39) rfl rfl (HE.out.below hb45) (by have := hb45.size; omega) w4.heap.size 1 rfl (entArr E A4 c4) (EntC.of (own_below ho4 hb5)) (alloc_at rfl) (show es.length ≤ 1048576 by omega) fun g cap' w6 hes6 hgr hbl => ?_
            have hq6 : w6.heap[n0 + 2]? = some (.cells #[.int .i64 (N : Int), .slice AQ es.length cq] 31 (0, 0)) := (hgr.block _ (by have := hb45.size; omega) (fun e => by have := (hbl _ e.symm).1; omega)).trans ((hb5.block _ (by have := hb4.size; omega)).trans hq4)
            have hB6 : Below (n0 + 2) wr w6 := (hb45.mono (by omega)).trans ⟨hgr.os, hgr.tape, hgr.output, hgr.size, fun k hk => hgr.block k (by have := hb45.size; omega) (fun e => by have := (hbl _ e.symm).1; omega)⟩
            refine hK.out _ _ hB6 (fun hHeld => ?_)
            clear hK K
            change wpAnyH _ _ _ _ _ _ _ ⟨List.toArray (_ :: _ :: _ :: _ :: _ :: _ :: _ :: _ :: _ :: _ :: _ :: _ :: _ :: _ :: _ :: _ :: _ :: _ :: _ :: _ :: _ :: _ :: _ :: _ :: _ :: _ :: _ :: _ :: _ :: _ :: _ :: .pointer (some ⟨n0 + 2, 1, none⟩) :: .slice AQ es.length cq :: .pointer (some ⟨n0, 1, none⟩) :: .slice (some ⟨b, o, none⟩) n cp :: .int .i64 (i : Int) :: .pointer (some ⟨b, o + i * 8, none⟩) :: .agg (rawArr R0 A0 k0) :: .agg (entArr E A4 c4) :: .slice (some ⟨w4.heap.size, 0, none⟩) 1 1 :: .slice (some ⟨g, 0, none⟩) (es.length + 1) cap' :: _ :: _ :: _ :: _ :: _ :: _ :: _ :: _ :: _ :: _ :: _ :: _ :: _ :: _ :: _ :: _ :: _ :: _ :: _ :: _ :: _ :: _ :: _ :: _ :: _ :: _ :: _ :: _ :: _ :: _ :: _ :: _ :: _ :: _ :: _ :: _ :: _ :: _ :: _ :: _ :: _ :: _ :: _ :: _ :: _ :: _ :: _ :: _ :: _ :: _ :: _ :: _ :: _ :: _ :: _ :: _ :: _ :: _ :: _ :: _ :: _ :: _ :: _ :: _ :: []), []⟩ _
            refine wpAnyH_take (i := 10) (v := .pointer (some ⟨n0 + 2, 1, none⟩)) rfl (by kernel_rfl) (by kernel_rfl) (by kernel_rfl) (fun _ _ _ h => h) (Or.inl ⟨by rfl, fun w' hw' => ?_⟩) (by assumption) ?_
            · go_simp
            change wpAnyH _ _ _ _ _ _ _ ⟨List.toArray (_ :: _ :: _ :: _ :: _ :: _ :: _ :: _ :: _ :: _ :: _ :: _ :: _ :: _ :: _ :: _ :: _ :: _ :: _ :: _ :: _ :: _ :: _ :: _ :: _ :: _ :: _ :: _ :: _ :: _ :: _ :: .pointer (some ⟨n0 + 2, 1, none⟩) :: .slice AQ es.length cq :: .pointer (some ⟨n0, 1, none⟩) :: .slice (some ⟨b, o, none⟩) n cp :: .int .i64 (i : Int) :: .pointer (some ⟨b, o + i * 8, none⟩) :: .agg (rawArr R0 A0 k0) :: .agg (entArr E A4 c4) :: .slice (some ⟨w4.heap.size, 0, none⟩) 1 1 :: .slice (some ⟨g, 0, none⟩) (es.length + 1) cap' :: .pointer (some ⟨n0 + 2, 1, none⟩) :: _ :: _ :: _ :: _ :: _ :: _ :: _ :: _ :: _ :: _ :: _ :: _ :: _ :: _ :: _ :: _ :: _ :: _ :: _ :: _ :: _ :: _ :: _ :: _ :: _ :: _ :: _ :: _ :: _ :: _ :: _ :: _ :: _ :: _ :: _ :: _ :: _ :: _ :: _ :: _ :: _ :: _ :: _ :: _ :: _ :: _ :: _ :: _ :: _ :: _ :: _ :: _ :: _ :: _ :: _ :: _ :: _ :: _ :: _ :: _ :: _ :: _ :: _ :: []), []⟩ _
            refine wpAnyH_ready (rs := [11]) (by kernel_rfl) (by simp) ?_
            refine AllReadyH.cons rfl (fun K hK => ?_) AllReadyH.nil
            have hqc6 := cell_of_heap (i := 1) hq6 (v := .slice AQ es.length cq) rfl
            have hqf6 : w6.frozen? ⟨n0 + 2, 1, none⟩ = false := frozen_of_heap hq6
            clear hqc4 hHeld
            go_simp
            have hB7 := hB6.setCell (p := ⟨n0 + 2, 1, none⟩) (Nat.le_refl _) (.slice (some ⟨g, 0, none⟩) (es.length + 1) cap')
            refine hK.out _ _ hB7 (fun hHeld => ?_)
            clear hK K
            refine wpAnyH_done (by kernel_rfl) ?_ _
            show Exit.inBlock _ _ _ ⟨List.toArray (_ :: _ :: _ :: _ :: _ :: _ :: _ :: _ :: _ :: _ :: _ :: _ :: _ :: _ :: _ :: _ :: _ :: _ :: _ :: _ :: _ :: _ :: _ :: _ :: _ :: _ :: _ :: _ :: _ :: _ :: _ :: .pointer (some ⟨n0 + 2, 1, none⟩) :: .slice AQ es.length cq :: .pointer (some ⟨n0, 1, none⟩) :: .slice (some ⟨b, o, none⟩) n cp :: .int .i64 (i : Int) :: .pointer (some ⟨b, o + i * 8, none⟩) :: .agg (rawArr R0 A0 k0) :: .agg (entArr E A4 c4) :: .slice (some ⟨w4.heap.size, 0, none⟩) 1 1 :: .slice (some ⟨g, 0, none⟩) (es.length + 1) cap' :: .pointer (some ⟨n0 + 2, 1, none⟩) :: _ :: _ :: _ :: _ :: _ :: _ :: _ :: _ :: _ :: _ :: _ :: _ :: _ :: _ :: _ :: _ :: _ :: _ :: _ :: _ :: _ :: _ :: _ :: _ :: _ :: _ :: _ :: _ :: _ :: _ :: _ :: _ :: _ :: _ :: _ :: _ :: _ :: _ :: _ :: _ :: _ :: _ :: _ :: _ :: _ :: _ :: _ :: _ :: _ :: _ :: _ :: _ :: _ :: _ :: _ :: _ :: _ :: _ :: _ :: _ :: _ :: _ :: _ :: []), []⟩ _
            have hm7 : MB cl (some ⟨b, o, none⟩) n cp R AR cR w0 (w6.setCell ⟨n0 + 2, 1, none⟩ (.slice (some ⟨g, 0, none⟩) (es.length + 1) cap')) n0 N (es ++ [E]) := by
              refine ⟨(hB7.block _ (by omega)).trans HMR.out.he, (hB7.block _ (by omega)).trans HMR.out.hp, HMR.out.hN1, HMR.out.hN2, ?_, ?_, ⟨_, heap_set_same hq6, ?_⟩, ?_, ?_⟩
              · intro e he
                rcases List.mem_append.1 he with he | he
                · exact HMR.out.all e he
                · rw [List.mem_singleton.1 he]; exact hE1
              · simp only [List.length_append, List.length_cons, List.length_nil]; omega
              · exact hes6.keep fun k cur t hl hk ht => heap_set_other (by omega)
              · have := hB7.size; omega
              · exact HMR.out.abv.trans ((Abv.of_below hB7).mono (by omega))
            have HM7 := Lib.hid hm7
            clear hm7 hB7 hB6 hq6 hqc6 hqf6 hHeld hes6 hgr hbl hb5 hb45 hq4 ho4 hb4 hB4
            have hi64 : IntKind.i64.wrap ((i : Int) + 1) = (i : Int) + 1 := IntWalk.i64_in _ (by omega)
            go_wp2_with fail
            exact ⟨⟨i + 1, by omega, by omega, by push_cast; rfl, es ++ [E], by have := HES.out; simp; omega, HM7.out⟩, by simp [intOf]; omega⟩
          · clear hHeld
            go_simp
            refine HENT.out.mono ?_
            rintro e' w4 ⟨E, hE1, A4, c4, rfl, ho4, hb4⟩
            have hB4 : Below (n0 + 2) wr w4 := hb4.mono (by omega)
            have hq4 : w4.heap[n0 + 2]? = some (.cells #[.int .i64 (N : Int), .slice AQ es.length cq] 31 (0, 0)) := (hb4.block _ (by omega)).trans HQ.out
            have hqc4 := cell_of_heap (i := 1) hq4 (v := .slice AQ es.length cq) rfl
            refine hK.out _ _ hB4 (fun hHeld => ?_)
            clear hK K
            change wpAnyH _ _ _ _ _ _ _ ⟨List.toArray (_ :: _ :: _ :: _ :: _ :: _ :: _ :: _ :: _ :: _ :: _ :: _ :: _ :: _ :: _ :: _ :: _ :: _ :: _ :: _ :: _ :: _ :: _ :: _ :: _ :: _ :: _ :: _ :: _ :: _ :: _ :: .pointer (some ⟨n0 + 2, 1, none⟩) :: _ :: .pointer (some ⟨n0, 1, none⟩) :: .slice (some ⟨b, o, none⟩) n cp :: .int .i64 (i : Int) :: .pointer (some ⟨b, o + i * 8, none⟩) :: .agg (rawArr R0 A0 k0) :: .agg (entArr E A4 c4) :: _ :: _ :: _ :: _ :: _ :: _ :: _ :: _ :: _ :: _ :: _ :: _ :: _ :: _ :: _ :: _ :: _ :: _ :: _ :: _ :: _ :: _ :: _ :: _ :: _ :: _ :: _ :: _ :: _ :: _ :: _ :: _ :: _ :: _ :: _ :: _ :: _ :: _ :: _ :: _ :: _ :: _ :: _ :: _ :: _ :: _ :: _ :: _ :: _ :: _ :: _ :: _ :: _ :: _ :: _ :: _ :: _ :: _ :: _ :: _ :: _ :: _ :: _ :: _ :: _ :: _ :: []), []⟩ _
            refine wpAnyH_ready (rs := [1, 8]) (by kernel_rfl) (by simp) ?_
            refine AllReadyH.cons rfl (fun K hK => ?_) (AllReadyH.cons rfl (fun K hK => ?_) AllReadyH.nil)
            · clear hHeld
              go_simp
              refine hK.out _ _ hB4 (fun hHeld => ?_)
              clear hK K
              change wpAnyH _ _ _ _ _ _ _ ⟨List.toArray (_ :: _ :: _ :: _ :: _ :: _ :: _ :: _ :: _ :: _ :: _ :: _ :: _ :: _ :: _ :: _ :: _ :: _ :: _ :: _ :: _ :: _ :: _ :: _ :: _ :: _ :: _ :: _ :: _ :: _ :: _ :: .pointer (some ⟨n0 + 2, 1, none⟩) :: .slice AQ es.length cq :: .pointer (some ⟨n0, 1, none⟩) :: .slice (some ⟨b, o, none⟩) n cp :: .int .i64 (i : Int) :: .pointer (some ⟨b, o + i * 8, none⟩) :: .agg (rawArr R0 A0 k0) :: .agg (entArr E A4 c4) :: _ :: _ :: _ :: _ :: _ :: _ :: _ :: _ :: _ :: _ :: _ :: _ :: _ :: _ :: _ :: _ :: _ :: _ :: _ :: _ :: _ :: _ :: _ :: _ :: _ :: _ :: _ :: _ :: _ :: _ :: _ :: _ :: _ :: _ :: _ :: _ :: _ :: _ :: _ :: _ :: _ :: _ :: _ :: _ :: _ :: _ :: _ :: _ :: _ :: _ :: _ :: _ :: _ :: _ :: _ :: _ :: _ :: _ :: _ :: _ :: _ :: _ :: _ :: _ :: _ :: _ :: []), []⟩ _
              refine wpAnyH_ready (rs := [8]) (by kernel_rfl) (by simp) ?_
              refine AllReadyH.cons rfl (fun K hK => ?_) AllReadyH.nil
              clear hHeld
              go_simp
              simp only [fold_ent]
              refine hK.out _ (w4.alloc (.cells (entArr E A4 c4) 25)) (hB4.alloc (by have := hb4.size; omega) _) (fun hHeld => ?_)
              clear hK K
              change wpAnyH _ _ _ _ _ _ _ ⟨List.toArray (_ :: _ :: _ :: _ :: _ :: _ :: _ :: _ :: _ :: _ :: _ :: _ :: _ :: _ :: _ :: _ :: _ :: _ :: _ :: _ :: _ :: _ :: _ :: _ :: _ :: _ :: _ :: _ :: _ :: _ :: _ :: .pointer (some ⟨n0 + 2, 1, none⟩) :: .slice AQ es.length cq :: .pointer (some ⟨n0, 1, none⟩) :: .slice (some ⟨b, o, none⟩) n cp :: .int .i64 (i : Int) :: .pointer (some ⟨b, o + i * 8, none⟩) :: .agg (rawArr R0 A0 k0) :: .agg (entArr E A4 c4) :: .slice (some ⟨w4.heap.size, 0, none⟩) 1 1 :: _ :: _ :: _ :: _ :: _ :: _ :: _ :: _ :: _ :: _ :: _ :: _ :: _ :: _ :: _ :: _ :: _ :: _ :: _ :: _ :: _ :: _ :: _ :: _ :: _ :: _ :: _ :: _ :: _ :: _ :: _ :: _ :: _ :: _ :: _ :: _ :: _ :: _ :: _ :: _ :: _ :: _ :: _ :: _ :: _ :: _ :: _ :: _ :: _ :: _ :: _ :: _ :: _ :: _ :: _ :: _ :: _ :: _ :: _ :: _ :: _ :: _ :: _ :: _ :: _ :: []), []⟩ _
              refine wpAnyH_ready (rs := [9]) (by kernel_rfl) (by simp) ?_
              refine AllReadyH.cons rfl (fun K hK => ?_) AllReadyH.nil
              have hb5 : Below w4.heap.size w4 (w4.alloc (.cells (entArr E A4 c4) 25)) := (Below.refl _ _).alloc (Nat.le_refl _) _
              have hb45 := hb4.trans (hb5.mono hb4.size)
              refine step_append_entry (lo := n0 + 3) (es := es) (v := .slice AQ es.length cq) (E := E) rfl (.tmp 32) (.tmp 39) rfl rfl (HE.out.below hb45) (by have := hb45.size; omega) w4.heap.size 1 rfl (entArr E A4 c4) (EntC.of (own_below ho4 hb5)) (alloc_at rfl) (show es.length ≤ 1048576 by omega) fun g cap' w6 hes6 hgr hbl => ?_
              have hq6 : w6.heap[n0 + 2]? = some (.cells #[.int .i64 (N : Int), .slice AQ es.length cq] 31 (0, 0)) := (hgr.block _ (by have := hb45.size; omega) (fun e => by have := (hbl _ e.symm).1; omega)).trans ((hb5.block _ (by have := hb4.size; omega)).trans hq4)
              have hB6 : Below (n0 + 2) wr w6 := (hb45.mono (by omega)).trans ⟨hgr.os, hgr.tape, hgr.output, hgr.size, fun k hk => hgr.block k (by have := hb45.size; omega) (fun e => by have := (hbl _ e.symm).1; omega)⟩
              refine hK.out _ _ hB6 (fun hHeld => ?_)
              clear hK K
              change wpAnyH _ _ _ _ _ _ _ ⟨List.toArray (_ :: _ :: _ :: _ :: _ :: _ :: _ :: _ :: _ :: _ :: _ :: _ :: _ :: _ :: _ :: _ :: _ :: _ :: _ :: _ :: _ :: _ :: _ :: _ :: _ :: _ :: _ :: _ :: _ :: _ :: _ :: .pointer (some ⟨n0 + 2, 1, none⟩) :: .slice AQ es.length cq :: .pointer (some ⟨n0, 1, none⟩) :: .slice (some ⟨b, o, none⟩) n cp :: .int .i64 (i : Int) :: .pointer (some ⟨b, o + i * 8, none⟩) :: .agg (rawArr R0 A0 k0) :: .agg (entArr E A4 c4) :: .slice (some ⟨w4.heap.size, 0, none⟩) 1 1 :: .slice (some ⟨g, 0, none⟩) (es.length + 1) cap' :: _ :: _ :: _ :: _ :: _ :: _ :: _ :: _ :: _ :: _ :: _ :: _ :: _ :: _ :: _ :: _ :: _ :: _ :: _ :: _ :: _ :: _ :: _ :: _ :: _ :: _ :: _ :: _ :: _ :: _ :: _ :: _ :: _ :: _ :: _ :: _ :: _ :: _ :: _ :: _ :: _ :: _ :: _ :: _ :: _ :: _ :: _ :: _ :: _ :: _ :: _ :: _ :: _ :: _ :: _ :: _ :: _ :: _ :: _ :: _ :: _ :: _ :: _ :: _ :: []), []⟩ _
              refine wpAnyH_take (i := 10) (v := .pointer (some ⟨n0 + 2, 1, none⟩)) rfl (by kernel_rfl) (by kernel_rfl) (by kernel_rfl) (fun _ _ _ h => h) (Or.inl ⟨by rfl, fun w' hw' => ?_⟩) (by assumption) ?_
              · go_simp
              change wpAnyH _ _ _ _ _ _ _ ⟨List.toArray (_ :: _ :: _ :: _ :: _ :: _ :: _ :: _ :: _ :: _ :: _ :: _ :: _ :: _ :: _ :: _ :: _ :: _ :: _ :: _ :: _ :: _ :: _ :: _ :: _ :: _ :: _ :: _ :: _ :: _ :: _ :: .pointer (some ⟨n0 + 2, 1, none⟩) :: .slice AQ es.length cq :: .pointer (some ⟨n0, 1, none⟩) :: .slice (some ⟨b, o, none⟩) n cp :: .int .i64 (i : Int) :: .pointer (some ⟨b, o + i * 8, none⟩) :: .agg (rawArr R0 A0 k0) :: .agg (entArr E A4 c4) :: .slice (some ⟨w4.heap.size, 0, none⟩) 1 1 :: .slice (some ⟨g, 0, none⟩) (es.length + 1) cap' :: .pointer (some ⟨n0 + 2, 1, none⟩) :: _ :: _ :: _ :: _ :: _ :: _ :: _ :: _ :: _ :: _ :: _ :: _ :: _ :: _ :: _ :: _ :: _ :: _ :: _ :: _ :: _ :: _ :: _ :: _ :: _ :: _ :: _ :: _ :: _ :: _ :: _ :: _ :: _ :: _ :: _ :: _ :: _ :: _ :: _ :: _ :: _ :: _ :: _ :: _ :: _ :: _ :: _ :: _ :: _ :: _ :: _ :: _ :: _ :: _ :: _ :: _ :: _ :: _ :: _ :: _ :: _ :: _ :: _ :: []), []⟩ _
              refine wpAnyH_ready (rs := [11]) (by kernel_rfl) (by simp) ?_
              refine AllReadyH.cons rfl (fun K hK => ?_) AllReadyH.nil
              have hqc6 := cell_of_heap (i := 1) hq6 (v := .slice AQ es.length cq) rfl
              have hqf6 : w6.frozen? ⟨n0 + 2, 1, none⟩ = false := frozen_of_heap hq6
              clear hqc4 hHeld
              go_simp
              have hB7 := hB6.setCell (p := ⟨n0 + 2, 1, none⟩) (Nat.le_refl _) (.slice (some ⟨g, 0, none⟩) (es.length + 1) cap')
              refine hK.out _ _ hB7 (fun hHeld => ?_)
              clear hK K
              refine wpAnyH_done (by kernel_rfl) ?_ _
              show Exit.inBlock _ _ _ ⟨List.toArray (_ :: _ :: _ :: _ :: _ :: _ :: _ :: _ :: _ :: _ :: _ :: _ :: _ :: _ :: _ :: _ :: _ :: _ :: _ :: _ :: _ :: _ :: _ :: _ :: _ :: _ :: _ :: _ :: _ :: _ :: _ :: .pointer (some ⟨n0 + 2, 1, none⟩) :: .slice AQ es.length cq :: .pointer (some ⟨n0, 1, none⟩) :: .slice (some ⟨b, o, none⟩) n cp :: .int .i64 (i : Int) :: .pointer (some ⟨b, o + i * 8, none⟩) :: .agg (rawArr R0 A0 k0) :: .agg (entArr E A4 c4) :: .slice (some ⟨w4.heap.size, 0, none⟩) 1 1 :: .slice (some ⟨g, 0, none⟩) (es.length + 1) cap' :: .pointer (some ⟨n0 + 2, 1, none⟩) :: _ :: _ :: _ :: _ :: _ :: _ :: _ :: _ :: _ :: _ :: _ :: _ :: _ :: _ :: _ :: _ :: _ :: _ :: _ :: _ :: _ :: _ :: _ :: _ :: _ :: _ :: _ :: _ :: _ :: _ :: _ :: _ :: _ :: _ :: _ :: _ :: _ :: _ :: _ :: _ :: _ :: _ :: _ :: _ :: _ :: _ :: _ :: _ :: _ :: _ :: _ :: _ :: _ :: _ :: _ :: _ :: _ :: _ :: _ :: _ :: _ :: _ :: _ :: []), []⟩ _
              have hm7 : MB cl (some ⟨b, o, none⟩) n cp R AR cR w0 (w6.setCell ⟨n0 + 2, 1, none⟩ (.slice (some ⟨g, 0, none⟩) (es.length + 1) cap')) n0 N (es ++ [E]) := by
                refine ⟨(hB7.block _ (by omega)).trans HMR.out.he, (hB7.block _ (by omega)).trans HMR.out.hp, HMR.out.hN1, HMR.out.hN2, ?_, ?_, ⟨_, heap_set_same hq6, ?_⟩, ?_, ?_⟩
                · intro e he
                  rcases List.mem_append.1 he with he | he
                  · exact HMR.out.all e he
                  · rw [List.mem_singleton.1 he]; exact hE1
                · simp only [List.length_append, List.length_cons, List.length_nil]; omega
                · exact hes6.keep fun k cur t hl hk ht => heap_set_other (by omega)
                · have := hB7.size; omega
                · exact HMR.out.abv.trans ((Abv.of_below hB7).mono (by omega))
              have HM7 := Lib.hid hm7
              clear hm7 hB7 hB6 hq6 hqc6 hqf6 hHeld hes6 hgr hbl hb5 hb45 hq4 ho4 hb4 hB4
              have hi64 : IntKind.i64.wrap ((i : Int) + 1) = (i : Int) + 1 := IntWalk.i64_in _ (by omega)
              go_wp2_with fail
              exact ⟨⟨i + 1, by omega, by omega, by push_cast; rfl, es ++ [E], by have := HES.out; simp; omega, HM7.out⟩, by simp [intOf]; omega⟩
            · clear hHeld
              go_simp
              simp only [fold_ent]
              refine hK.out _ (w4.alloc (.cells (entArr E A4 c4) 25)) (hB4.alloc (by have := hb4.size; omega) _) (fun hHeld => ?_)
              clear hK K
              change wpAnyH _ _ _ _ _ _ _ ⟨List.toArray (_ :: _ :: _ :: _ :: _ :: _ :: _ :: _ :: _ :: _ :: _ :: _ :: _ :: _ :: _ :: _ :: _ :: _ :: _ :: _ :: _ :: _ :: _ :: _ :: _ :: _ :: _ :: _ :: _ :: _ :: _ :: .pointer (some ⟨n0 + 2, 1, none⟩) :: _ :: .pointer (some ⟨n0, 1, none⟩) :: .slice (some ⟨b, o, none⟩) n cp :: .int .i64 (i : Int) :: .pointer (some ⟨b, o + i * 8, none⟩) :: .agg (rawArr R0 A0 k0) :: .agg (entArr E A4 c4) :: .slice (some ⟨w4.heap.size, 0, none⟩) 1 1 :: _ :: _ :: _ :: _ :: _ :: _ :: _ :: _ :: _ :: _ :: _ :: _ :: _ :: _ :: _ :: _ :: _ :: _ :: _ :: _ :: _ :: _ :: _ :: _ :: _ :: _ :: _ :: _ :: _ :: _ :: _ :: _ :: _ :: _ :: _ :: _ :: _ :: _ :: _ :: _ :: _ :: _ :: _ :: _ :: _ :: _ :: _ :: _ :: _ :: _ :: _ :: _ :: _ :: _ :: _ :: _ :: _ :: _ :: _ :: _ :: _ :: _ :: _ :: _ :: _ :: []), []⟩ _
              refine wpAnyH_ready (rs := [1]) (by kernel_rfl) (by simp) ?_
              refine AllReadyH.cons rfl (fun K hK => ?_) AllReadyH.nil
              have hx := cell_alloc hqc4 (.cells (entArr E A4 c4) 25)
              clear hHeld
              go_simp
              refine hK.out _ (w4.alloc (.cells (entArr E A4 c4) 25)) (hB4.alloc (by have := hb4.size; omega) _) (fun hHeld => ?_)
              clear hK K hx
              change wpAnyH _ _ _ _ _ _ _ ⟨List.toArray (_ :: _ :: _ :: _ :: _ :: _ :: _ :: _ :: _ :: _ :: _ :: _ :: _ :: _ :: _ :: _ :: _ :: _ :: _ :: _ :: _ :: _ :: _ :: _ :: _ :: _ :: _ :: _ :: _ :: _ :: _ :: .pointer (some ⟨n0 + 2, 1, none⟩) :: .slice AQ es.length cq :: .pointer (some ⟨n0, 1, none⟩) :: .slice (some ⟨b, o, none⟩) n cp :: .int .i64 (i : Int) :: .pointer (some ⟨b, o + i * 8, none⟩) :: .agg (rawArr R0 A0 k0) :: .agg (entArr E A4 c4) :: .slice (some ⟨w4.heap.size, 0, none⟩) 1 1 :: _ :: _ :: _ :: _ :: _ :: _ :: _ :: _ :: _ :: _ :: _ :: _ :: _ :: _ :: _ :: _ :: _ :: _ :: _ :: _ :: _ :: _ :: _ :: _ :: _ :: _ :: _ :: _ :: _ :: _ :: _ :: _ :: _ :: _ :: _ :: _ :: _ :: _ :: _ :: _ :: _ :: _ :: _ :: _ :: _ :: _ :: _ :: _ :: _ :: _ :: _ :: _ :: _ :: _ :: _ :: _ :: _ :: _ :: _ :: _ :: _ :: _ :: _ :: _ :: _ :: []), []⟩ _
              refine wpAnyH_ready (rs := [9]) (by kernel_rfl) (by simp) ?_
              refine AllReadyH.cons rfl (fun K hK => ?_) AllReadyH.nil
              have hb5 : Below w4.heap.size w4 (w4.alloc (.cells (entArr E A4 c4) 25)) := (Below.refl _ _).alloc (Nat.le_refl _) _
              have hb45 := hb4.trans (hb5.mono hb4.size)
              refine step_append_entry (lo := n0 + 3) (es := es) (v := .slice AQ es.length cq) (E := E) rfl (.tmp 32) (.tmp 39) rfl rfl (HE.out.below hb45) (by have := hb45.size; omega) w4.heap.size 1 rfl (entArr E A4 c4) (EntC.of (own_below ho4 hb5)) (alloc_at rfl) (show es.length ≤ 1048576 by omega) fun g cap' w6 hes6 hgr hbl => ?_
              have hq6 : w6.heap[n0 + 2]? = some (.cells #[.int .i64 (N : Int), .slice AQ es.length cq] 31 (0, 0)) := (hgr.block _ (by have := hb45.size; omega) (fun e => by have := (hbl _ e.symm).1; omega)).trans ((hb5.block _ (by have := hb4.size; omega)).trans hq4)
              have hB6 : Below (n0 + 2) wr w6 := (hb45.mono (by omega)).trans ⟨hgr.os, hgr.tape, hgr.output, hgr.size, fun k hk => hgr.block k (by have := hb45.size; omega) (fun e => by have := (hbl _ e.symm).1; omega)⟩
              refine hK.out _ _ hB6 (fun hHeld => ?_)
              clear hK K
              change wpAnyH _ _ _ _ _ _ _ ⟨List.toArray (_ :: _ :: _ :: _ :: _ :: _ :: _ :: _ :: _ :: _ :: _ :: _ :: _ :: _ :: _ :: _ :: _ :: _ :: _ :: _ :: _ :: _ :: _ :: _ :: _ :: _ :: _ :: _ :: _ :: _ :: _ :: .pointer (some ⟨n0 + 2, 1, none⟩) :: .slice AQ es.length cq :: .pointer (some ⟨n0, 1, none⟩) :: .slice (some ⟨b, o, none⟩) n cp :: .int .i64 (i : Int) :: .pointer (some ⟨b, o + i * 8, none⟩) :: .agg (rawArr R0 A0 k0) :: .agg (entArr E A4 c4) :: .slice (some ⟨w4.heap.size, 0, none⟩) 1 1 :: .slice (some ⟨g, 0, none⟩) (es.length + 1) cap' :: _ :: _ :: _ :: _ :: _ :: _ :: _ :: _ :: _ :: _ :: _ :: _ :: _ :: _ :: _ :: _ :: _ :: _ :: _ :: _ :: _ :: _ :: _ :: _ :: _ :: _ :: _ :: _ :: _ :: _ :: _ :: _ :: _ :: _ :: _ :: _ :: _ :: _ :: _ :: _ :: _ :: _ :: _ :: _ :: _ :: _ :: _ :: _ :: _ :: _ :: _ :: _ :: _ :: _ :: _ :: _ :: _ :: _ :: _ :: _ :: _ :: _ :: _ :: _ :: []), []⟩ _
              refine wpAnyH_take (i := 10) (v := .pointer (some ⟨n0 + 2, 1, none⟩)) rfl (by kernel_rfl) (by kernel_rfl) (by kernel_rfl) (fun _ _ _ h => h) (Or.inl ⟨by rfl, fun w' hw' => ?_⟩) (by assumption) ?_
              · go_simp
              change wpAnyH _ _ _ _ _ _ _ ⟨List.toArray (_ :: _ :: _ :: _ :: _ :: _ :: _ :: _ :: _ :: _ :: _ :: _ :: _ :: _ :: _ :: _ :: _ :: _ :: _ :: _ :: _ :: _ :: _ :: _ :: _ :: _ :: _ :: _ :: _ :: _ :: _ :: .pointer (some ⟨n0 + 2, 1, none⟩) :: .slice AQ es.length cq :: .pointer (some ⟨n0, 1, none⟩) :: .slice (some ⟨b, o, none⟩) n cp :: .int .i64 (i : Int) :: .pointer (some ⟨b, o + i * 8, none⟩) :: .agg (rawArr R0 A0 k0) :: .agg (entArr E A4 c4) :: .slice (some ⟨w4.heap.size, 0, none⟩) 1 1 :: .slice (some ⟨g, 0, none⟩) (es.length + 1) cap' :: .pointer (some ⟨n0 + 2, 1, none⟩) :: _ :: _ :: _ :: _ :: _ :: _ :: _ :: _ :: _ :: _ :: _ :: _ :: _ :: _ :: _ :: _ :: _ :: _ :: _ :: _ :: _ :: _ :: _ :: _ :: _ :: _ :: _ :: _ :: _ :: _ :: _ :: _ :: _ :: _ :: _ :: _ :: _ :: _ :: _ :: _ :: _ :: _ :: _ :: _ :: _ :: _ :: _ :: _ :: _ :: _ :: _ :: _ :: _ :: _ :: _ :: _ :: _ :: _ :: _ :: _ :: _ :: _ :: _ :: []), []⟩ _
              refine wpAnyH_ready (rs := [11]) (by kernel_rfl) (by simp) ?_
              refine AllReadyH.cons rfl (fun K hK => ?_) AllReadyH.nil
              have hqc6 := cell_of_heap (i := 1) hq6 (v := .slice AQ es.length cq) rfl
              have hqf6 : w6.frozen? ⟨n0 + 2, 1, none⟩ = false := frozen_of_heap hq6
              clear hqc4 hHeld
              go_simp
              have hB7 := hB6.setCell (p := ⟨n0 + 2, 1, none⟩) (Nat.le_refl _) (.slice (some ⟨g, 0, none⟩) (es.length + 1) cap')
              refine hK.out _ _ hB7 (fun hHeld => ?_)
              clear hK K
              refine wpAnyH_done (by kernel_rfl) ?_ _
              show Exit.inBlock _ _ _ ⟨List.toArray (_ :: _ :: _ :: _ :: _ :: _ :: _ :: _ :: _ :: _ :: _ :: _ :: _ :: _ :: _ :: _ :: _ :: _ :: _ :: _ :: _ :: _ :: _ :: _ :: _ :: _ :: _ :: _ :: _ :: _ :: _ :: .pointer (some ⟨n0 + 2, 1, none⟩) :: .slice AQ es.length cq :: .pointer (some ⟨n0, 1, none⟩) :: .slice (some ⟨b, o, none⟩) n cp :: .int .i64 (i : Int) :: .pointer (some ⟨b, o + i * 8, none⟩) :: .agg (rawArr R0 A0 k0) :: .agg (entArr E A4 c4) :: .slice (some ⟨w4.heap.size, 0, none⟩) 1 1 :: .slice (some ⟨g, 0, none⟩) (es.length + 1) cap' :: .pointer (some ⟨n0 + 2, 1, none⟩) :: _ :: _ :: _ :: _ :: _ :: _ :: _ :: _ :: _ :: _ :: _ :: _ :: _ :: _ :: _ :: _ :: _ :: _ :: _ :: _ :: _ :: _ :: _ :: _ :: _ :: _ :: _ :: _ :: _ :: _ :: _ :: _ :: _ :: _ :: _ :: _ :: _ :: _ :: _ :: _ :: _ :: _ :: _ :: _ :: _ :: _ :: _ :: _ :: _ :: _ :: _ :: _ :: _ :: _ :: _ :: _ :: _ :: _ :: _ :: _ :: _ :: _ :: _ :: []), []⟩ _
              have hm7 : MB cl (some ⟨b, o, none⟩) n cp R AR cR w0 (w6.setCell ⟨n0 + 2, 1, none⟩ (.slice (some ⟨g, 0, none⟩) (es.length + 1) cap')) n0 N (es ++ [E]) := by
                refine ⟨(hB7.block _ (by omega)).trans HMR.out.he, (hB7.block _ (by omega)).trans HMR.out.hp, HMR.out.hN1, HMR.out.hN2, ?_, ?_, ⟨_, heap_set_same hq6, ?_⟩, ?_, ?_⟩
                · intro e he
                  rcases List.mem_append.1 he with he | he
                  · exact HMR.out.all e he
                  · rw [List.mem_singleton.1 he]; exact hE1
                · simp only [List.length_append, List.length_cons, List.length_nil]; omega
                · exact hes6.keep fun k cur t hl hk ht => heap_set_other (by omega)
                · have := hB7.size; omega
                · exact HMR.out.abv.trans ((Abv.of_below hB7).mono (by omega))
              have HM7 := Lib.hid hm7
              clear hm7 hB7 hB6 hq6 hqc6 hqf6 hHeld hes6 hgr hbl hb5 hb45 hq4 ho4 hb4 hB4
              have hi64 : IntKind.i64.wrap ((i : Int) + 1) = (i : Int) + 1 := IntWalk.i64_in _ (by omega)
              go_wp2_with fail
              exact ⟨⟨i + 1, by omega, by omega, by push_cast; rfl, es ++ [E], by have := HES.out; simp; omega, HM7.out⟩, by simp [intOf]; omega⟩
      · have h450' : ¬ (i : Int) < 450 := by omega
        go_wp2_with fail
        exact ⟨⟨rfl, rfl, rfl, rfl, rfl⟩, es, HMR.out⟩
    · have hlt' : ¬ (i : Int) < (n : Int) := by omega
      go_wp2_with fail
      exact ⟨⟨rfl, rfl, rfl, rfl, rfl⟩, es, HMR.out⟩
end
end Go.Proofs.YtbjkljmhhpoooaaDoor

/-
  jotterlaw15.ScriptRound: Print of the plan; its text's length. AN ENTRY PUT INTO A ROW OF ITS OWN.
-/
namespace Go.Proofs.YtbjkljmhhpoooaaDoor
open Go.Conc Go.Co Go.Proofs Go.RowKit
set_option linter.unusedVariables false

theorem list_cons {α : Type} {l : List α} {n : Nat} (h : l.length = n + 1) : ∃ x r, l = x :: r ∧ r.length = n := by
  cases l with
  | nil => simp at h
  | cons x r => exact ⟨x, r, rfl, by simpa using h⟩
theorem getD_of {T : Array Value} {i : Nat} {v : Value} (h : T[i]? = some v) : T.getD i undef = v := by simp [Array.getD_eq_getD_getElem?, h]
set_option maxRecDepth 100000 in
theorem arr105 {T : Array Value} (h : T.size = 105) : T = List.toArray (T.getD 0 undef :: T.getD 1 undef :: T.getD 2 undef :: T.getD 3 undef :: T.getD 4 undef :: T.getD 5 undef :: T.getD 6 undef :: T.getD 7 undef :: T.getD 8 undef :: T.getD 9 undef :: T.getD 10 undef :: T.getD 11 undef :: T.getD 12 undef :: T.getD 13 undef :: T.getD 14 undef :: T.getD 15 undef :: T.getD 16 undef :: T.getD 17 undef :: T.getD 18 undef :: T.getD 19 undef :: T.getD 20 undef :: T.getD 21 undef :: T.getD 22 undef :: T.getD 23 undef :: T.getD 24 undef :: T.getD 25 undef :: T.getD 26 undef :: T.getD 27 undef :: T.getD 28 undef :: T.getD 29 undef :: T.getD 30 undef :: T.getD 31 undef :: T.getD 32 undef :: T.getD 33 undef :: T.getD 34 undef :: T.getD 35 undef :: T.getD 36 undef :: T.getD 37 undef :: T.getD 38 undef :: T.getD 39 undef :: T.getD 40 undef :: T.getD 41 undef :: T.getD 42 undef :: T.getD 43 undef :: T.getD 44 undef :: T.getD 45 undef :: T.getD 46 undef :: T.getD 47 undef :: T.getD 48 undef :: T.getD 49 undef :: T.getD 50 undef :: T.getD 51 undef :: T.getD 52 undef :: T.getD 53 undef :: T.getD 54 undef :: T.getD 55 undef :: T.getD 56 undef :: T.getD 57 undef :: T.getD 58 undef :: T.getD 59 undef :: T.getD 60 undef :: T.getD 61 undef :: T.getD 62 undef :: T.getD 63 undef :: T.getD 64 undef :: T.getD 65 undef :: T.getD 66 undef :: T.getD 67 undef :: T.getD 68 undef :: T.getD 69 undef :: T.getD 70 undef :: T.getD 71 undef :: T.getD 72 undef :: T.getD 73 undef :: T.getD 74 undef :: T.getD 75 undef :: T.getD 76 undef :: T.getD 77 undef :: T.getD 78 undef :: T.getD 79 undef :: T.getD 80 undef :: T.getD 81 undef :: T.getD 82 undef :: T.getD 83 undef :: T.getD 84 undef :: T.getD 85 undef :: T.getD 86 undef :: T.getD 87 undef :: T.getD 88 undef :: T.getD 89 undef :: T.getD 90 undef :: T.getD 91 undef :: T.getD 92 undef :: T.getD 93 undef :: T.getD 94 undef :: T.getD 95 undef :: T.getD 96 undef :: T.getD 97 undef :: T.getD 98 undef :: T.getD 99 undef :: T.getD 100 undef :: T.getD 101 undef :: T.getD 102 undef :: T.getD 103 undef :: T.getD 104 undef :: []) := by
  obtain ⟨l⟩ := T
  have h0 : l.length = 105 := h
  clear h
  obtain ⟨x0, l1, rfl, h1⟩ := list_cons h0
  obtain ⟨x1, l2, rfl, h2⟩ := list_cons h1
  obtain ⟨x2, l3, rfl, h3⟩ := list_cons h2
  obtain ⟨x3, l4, rfl, h4⟩ := list_cons h3
  obtain ⟨x4, l5, rfl, h5⟩ := list_cons h4
  obtain ⟨x5, l6, rfl, h6⟩ := list_cons h5
  obtain ⟨x6, l7, rfl, h7⟩ := list_cons h6
  obtain ⟨x7, l8, rfl, h8⟩ := list_cons h7
  obtain ⟨x8, l9, rfl, h9⟩ := list_cons h8
  obtain ⟨x9, l10, rfl, h10⟩ := list_cons h9
  obtain ⟨x10, l11, rfl, h11⟩ := list_cons h10
  obtain ⟨x11, l12, rfl, h12⟩ := list_cons h11
  obtain ⟨x12, l13, rfl, h13⟩ := list_cons h12
  obtain ⟨x13, l14, rfl, h14⟩ := list_cons h13
  obtain ⟨x14, l15, rfl, h15⟩ := list_cons h14
  obtain ⟨x15, l16, rfl, h16⟩ := list_cons h15
  obtain ⟨x16, l17, rfl, h17⟩ := list_cons h16
  obtain ⟨x17, l18, rfl, h18⟩ := list_cons h17
  obtain ⟨x18, l19, rfl, h19⟩ := list_cons h18
  obtain ⟨x19, l20, rfl, h20⟩ := list_cons h19
  obtain ⟨x20, l21, rfl, h21⟩ := list_cons h20
  obtain ⟨x21, l22, rfl, h22⟩ := list_cons h21
  obtain ⟨x22, l23, rfl, h23⟩ := list_cons h22
  obtain ⟨x23, l24, rfl, h24⟩ := list_cons h23
  obtain ⟨x24, l25, rfl, h25⟩ := list_cons h24
  obtain ⟨x25, l26, rfl, h26⟩ := list_cons h25
  obtain ⟨x26, l27, rfl, h27⟩ := list_cons h26
  obtain ⟨x27, l28, rfl, h28⟩ := list_cons h27
  obtain ⟨x28, l29, rfl, h29⟩ := list_cons h28
  obtain ⟨x29, l30, rfl, h30⟩ := list_cons h29
  obtain ⟨x30, l31, rfl, h31⟩ := list_cons h30
  obtain ⟨x31, l32, rfl, h32⟩ := list_cons h31
  obtain ⟨x32, l33, rfl, h33⟩ := list_cons h32
  obtain ⟨x33, l34, rfl, h34⟩ := list_cons h33
  obtain ⟨x34, l35, rfl, h35⟩ := list_cons h34
  obtain ⟨x35, l36, rfl, h36⟩ := list_cons h35
  obtain ⟨x36, l37, rfl, h37⟩ := list_cons h36
  obtain ⟨x37, l38, rfl, h38⟩ := list_cons h37
  obtain ⟨x38, l39, rfl, h39⟩ := list_cons h38
  obtain ⟨x39, l40, rfl, h40⟩ := list_cons h39
  obtain ⟨x40, l41, rfl, h41⟩ := list_cons h40
  obtain ⟨x41, l42, rfl, h42⟩ := list_cons h41
  obtain ⟨x42, l43, rfl, h43⟩ := list_cons h42
  obtain ⟨x43, l44, rfl, h44⟩ := list_cons h43
  obtain ⟨x44, l45, rfl, h45⟩ := list_cons h44
  obtain ⟨x45, l46, rfl, h46⟩ := list_cons h45
  obtain ⟨x46, l47, rfl, h47⟩ := list_cons h46
  obtain ⟨x47, l48, rfl, h48⟩ := list_cons h47
  obtain ⟨x48, l49, rfl, h49⟩ := list_cons h48
  obtain ⟨x49, l50, rfl, h50⟩ := list_cons h49
  obtain ⟨x50, l51, rfl, h51⟩ := list_cons h50
  obtain ⟨x51, l52, rfl, h52⟩ := list_cons h51
  obtain ⟨x52, l53, rfl, h53⟩ := list_cons h52
  obtain ⟨x53, l54, rfl, h54⟩ := list_cons h53
  obtain ⟨x54, l55, rfl, h55⟩ := list_cons h54
  obtain ⟨x55, l56, rfl, h56⟩ := list_cons h55
  obtain ⟨x56, l57, rfl, h57⟩ := list_cons h56
  obtain ⟨x57, l58, rfl, h58⟩ := list_cons h57
  obtain ⟨x58, l59, rfl, h59⟩ := list_cons h58
  obtain ⟨x59, l60, rfl, h60⟩ := list_cons h59
  obtain ⟨x60, l61, rfl, h61⟩ := list_cons h60
  obtain ⟨x61, l62, rfl, h62⟩ := list_cons h61
  obtain ⟨x62, l63, rfl, h63⟩ := list_cons h62
  obtain ⟨x63, l64, rfl, h64⟩ := list_cons h63
  obtain ⟨x64, l65, rfl, h65⟩ := list_cons h64
  obtain ⟨x65, l66, rfl, h66⟩ := list_cons h65
  obtain ⟨x66, l67, rfl, h67⟩ := list_cons h66
  obtain ⟨x67, l68, rfl, h68⟩ := list_cons h67
  obtain ⟨x68, l69, rfl, h69⟩ := list_cons h68
  obtain ⟨x69, l70, rfl, h70⟩ := list_cons h69
  obtain ⟨x70, l71, rfl, h71⟩ := list_cons h70
  obtain ⟨x71, l72, rfl, h72⟩ := list_cons h71
  obtain ⟨x72, l73, rfl, h73⟩ := list_cons h72
  obtain ⟨x73, l74, rfl, h74⟩ := list_cons h73
  obtain ⟨x74, l75, rfl, h75⟩ := list_cons h74
  obtain ⟨x75, l76, rfl, h76⟩ := list_cons h75
  obtain ⟨x76, l77, rfl, h77⟩ := list_cons h76
  obtain ⟨x77, l78, rfl, h78⟩ := list_cons h77
  obtain ⟨x78, l79, rfl, h79⟩ := list_cons h78
  obtain ⟨x79, l80, rfl, h80⟩ := list_cons h79
  obtain ⟨x80, l81, rfl, h81⟩ := list_cons h80
  obtain ⟨x81, l82, rfl, h82⟩ := list_cons h81
  obtain ⟨x82, l83, rfl, h83⟩ := list_cons h82
  obtain ⟨x83, l84, rfl, h84⟩ := list_cons h83
  obtain ⟨x84, l85, rfl, h85⟩ := list_cons h84
  obtain ⟨x85, l86, rfl, h86⟩ := list_cons h85
  obtain ⟨x86, l87, rfl, h87⟩ := list_cons h86
  obtain ⟨x87, l88, rfl, h88⟩ := list_cons h87
  obtain ⟨x88, l89, rfl, h89⟩ := list_cons h88
  obtain ⟨x89, l90, rfl, h90⟩ := list_cons h89
  obtain ⟨x90, l91, rfl, h91⟩ := list_cons h90
  obtain ⟨x91, l92, rfl, h92⟩ := list_cons h91
  obtain ⟨x92, l93, rfl, h93⟩ := list_cons h92
  obtain ⟨x93, l94, rfl, h94⟩ := list_cons h93
  obtain ⟨x94, l95, rfl, h95⟩ := list_cons h94
  obtain ⟨x95, l96, rfl, h96⟩ := list_cons h95
  obtain ⟨x96, l97, rfl, h97⟩ := list_cons h96
  obtain ⟨x97, l98, rfl, h98⟩ := list_cons h97
  obtain ⟨x98, l99, rfl, h99⟩ := list_cons h98
  obtain ⟨x99, l100, rfl, h100⟩ := list_cons h99
  obtain ⟨x100, l101, rfl, h101⟩ := list_cons h100
  obtain ⟨x101, l102, rfl, h102⟩ := list_cons h101
  obtain ⟨x102, l103, rfl, h103⟩ := list_cons h102
  obtain ⟨x103, l104, rfl, h104⟩ := list_cons h103
  obtain ⟨x104, l105, rfl, h105⟩ := list_cons h104
  obtain rfl := List.eq_nil_of_length_eq_zero h105
  rfl

theorem MB.keep {cl : Int} {P : Option Addr} {n cp : Nat} {R : RawE} {AR : Option Addr} {cR : Nat} {w0 w w' : World} {n0 N : Nat} {es : List Ent} (h : MB cl P n cp R AR cR w0 w n0 N es) (ha : Abv w.heap.size w w') : MB cl P n cp R AR cR w0 w' n0 N es := by
  have hs := h.size
  obtain ⟨sv, hq, hE⟩ := h.hq
  refine ⟨(ha.block _ (by omega)).trans h.he, (ha.block _ (by omega)).trans h.hp, h.hN1, h.hN2, h.all, h.len, ⟨sv, (ha.block _ (by omega)).trans hq, hE.keep fun k cur t _ hk _ => ha.block k (Array.getElem?_eq_some_iff.1 hk).1⟩, Nat.le_trans hs ha.size, h.abv.trans (ha.mono (by have := h.abv.size; omega))⟩

set_option maxHeartbeats 1000000 in
/-- An entry put into a row of its own. -/
theorem ents_set {w : World} {lo g c : Nat} {es : List Ent} (h : EntsAt w lo (.slice (some ⟨g, 0, none⟩) es.length c) es) {i : Nat} (hi : i < es.length) {X : Ent} {A : Option Addr} {cX lo2 : Nat}
    (hX : w.ownsRow lo2 5 1 (.slice A X.by_.length cX) X.by_.length (u8s X.by_)) :
    lo ≤ g ∧ w.there g (i * 8) 8 ∧ ∃ w2, w.setCells g (i * 8) (entArr X A cX).toList = w2 ∧ EntsIn w2 (some ⟨g, 0, none⟩) (es.set i X) ∧ BytesKept 0 w w2 ∧ w2.os = w.os ∧ w2.tape = w.tape ∧ w2.output = w.output ∧ w2.heap.size = w.heap.size ∧ ∀ k, k ≠ g → w2.heap[k]? = w.heap[k]? := by
  obtain ⟨L, hL, hrow⟩ := h
  rcases hrow.2 with ⟨hv, h0⟩ | ⟨g', cap, cur, hv, hg, hh, hc, hm, hs, ht⟩
  · injection hv with h1; cases h1
  injection hv with h1 h2 h3
  injection h1 with h1
  injection h1 with h1
  subst h1 h3
  have hgl : g < w.heap.size := (Array.getElem?_eq_some_iff.1 hh).1
  have hsz : i * 8 + 8 ≤ cur.size := by
    have h5 := hrow.1
    have h6 : (cur.toList.take (es.length * 8)).length = L.length := by rw [ht]
    rw [List.length_take] at h6
    simp only [Array.length_toList] at h6
    omega
  obtain ⟨f1, f2, f3, f4, f5, f6⟩ := setCells_facts g (entArr X A cX).toList (i * 8) w
  obtain ⟨cs', e1, e2, e3⟩ := f6 cur _ hh
  have hlen8 : (entArr X A cX).toList.length = 8 := rfl
  have hk : BytesKept 0 w (w.setCells g (i * 8) (entArr X A cX).toList) := fun k cu _ hku => f5 k (by
    rintro rfl
    rw [hh] at hku
    injection hku with hku
    injection hku with _ e
    exact absurd e (by decide))
  refine ⟨hg, fun j hj => ⟨by rw [cell_of_heap hh (v := cur[i * 8 + j]'(by omega)) (Array.getElem?_eq_getElem _)]; rfl, frozen_of_heap hh⟩, _, rfl, ?_, hk, f1, f2, f3, f4, f5⟩
  refine .inr ⟨g, 0, rfl, by rw [f4]; exact hgl, fun j e he => ?_⟩
  by_cases hji : j = i
  · subst hji
    rw [List.getElem?_set_self hi] at he
    injection he with he
    subst he
    refine ⟨A, cX, own_in (own_kept (own_mono hX (Nat.zero_le _)) hk), fun m v hm => ?_⟩
    have hm8 : m < 8 := by have := (List.getElem?_eq_some_iff.1 hm).1; omega
    rw [Nat.zero_add]
    refine cell_of_heap e1 ?_
    rw [e3, if_neg (by omega), if_pos (by omega), Nat.add_sub_cancel_left, hm]
  · rw [List.getElem?_set_ne (by omega)] at he
    have hjl : j < es.length := (List.getElem?_eq_some_iff.1 he).1
    obtain ⟨V, ⟨bv, hV, ho⟩, hj⟩ := entsC_at hL j e he
    obtain ⟨A', c', rfl⟩ := own_form ho
    refine ⟨A', c', own_in (own_kept (own_mono ho (Nat.zero_le _)) hk), fun m v hm => ?_⟩
    have hm8 : m < 8 := by have := (List.getElem?_eq_some_iff.1 hm).1; simpa [entArr] using this
    rw [Nat.zero_add]
    refine cell_of_heap e1 ?_
    rw [e3, if_pos (by omega)]
    have h5 : L[j * 8 + m]? = some v := by rw [hj m hm8, hV]; exact hm
    rw [← ht, List.getElem?_take_of_lt (by omega)] at h5
    rw [← Array.getElem?_toList]
    exact h5

theorem text_same {N : Nat} {es : List Ent} {i : Nat} {Y : Ent} (h : es[i]? = some Y) : es.set i Y = es := by
  apply List.ext_getElem?
  intro j
  by_cases hj : j = i
  · subst hj
    rw [List.getElem?_set_self (List.getElem?_eq_some_iff.1 h).1, h]
  · rw [List.getElem?_set_ne (by omega)]
theorem text_unlike {N : Nat} {es : List Ent} {i : Nat} {X Y : Ent} (hY : es[i]? = some Y) (hx : Meant X) (hy : Meant Y) (hne : X ≠ Y) : strB (planW N (es.map writW)) ≠ strB (planW N ((es.set i X).map writW)) := by
  intro h
  have h1 : planW N (es.map writW) = planW N ((es.set i X).map writW) := by
    have := congrArg (fun b : ByteArray => b.data.toList) h
    simpa [strB] using this
  have hi : i < es.length := (List.getElem?_eq_some_iff.1 hY).1
  have e1 : es = es.take i ++ Y :: es.drop (i + 1) := by
    rw [← (List.getElem?_eq_some_iff.1 hY).2, List.getElem_cons_drop, List.take_append_drop]
  have e2 : es.set i X = es.take i ++ X :: es.drop (i + 1) := List.set_eq_take_append_cons_drop.trans (if_pos hi)
  rw [e2] at h1
  conv at h1 => lhs; rw [e1]
  rw [List.map_append, List.map_append, List.map_cons, List.map_cons] at h1
  exact hne (writW_inj hx hy (planW_inj h1).symm)

section
variable (cl n1 : Int) (P : Option Addr) (n cp : Nat) (R : RawE) (AR : Option Addr) (cR : Nat)

set_option maxRecDepth 100000 in
set_option maxHeartbeats 2000000 in
theorem pieceD (w0 w : World) (n0 N : Nat) (es : List Ent) (hM : MB cl P n cp R AR cR w0 w n0 N es) (m : Int) (V o cap : Nat) (F : Nat → Option Addr) (C : Nat → Nat)
    (hm : w.cell? ⟨4, 0, none⟩ = some (.int .i64 m)) (hv : VerbsAt V o cap F C w) (hp : PowAt w) (x0 x2 x4 x6 x8 x9 x10 x11 x12 x13 x14 x15 x16 x17 x18 x19 x20 x21 x22 x23 x24 x25 x26 x27 x28 x29 x30 x31 x32 x33 x34 x35 x36 x37 x38 x39 x40 x41 x42 x43 x44 x45 x46 x47 x48 x49 x50 x51 x52 x53 x54 x55 x56 x57 x58 x59 x60 x61 x62 x63 x64 x65 x66 x67 x68 x69 x70 x71 x72 x73 x74 x75 x76 x77 x78 x79 x80 x81 x82 x83 x84 x85 x86 x87 x88 x89 x90 x91 x92 x93 x94 x95 x96 x97 x98 x99 x100 x101 x102 x103 x104 : Value) :
    cD.wp Tryd.prog (fun e a' w' => match e with | .normal => ∃ T, a' = ⟨T, []⟩ ∧ TD T n1 n0 (strB (planW N (es.map writW))) ∧ MB cl P n cp R AR cR w0 w' n0 N es | _ => False) ⟨List.toArray (x0 :: .int .i64 n1 :: x2 :: .pointer (some ⟨n0, 0, none⟩) :: x4 :: .pointer (some ⟨n0 + 1, 0, none⟩) :: x6 :: .pointer (some ⟨n0 + 2, 0, none⟩) :: x8 :: x9 :: x10 :: x11 :: x12 :: x13 :: x14 :: x15 :: x16 :: x17 :: x18 :: x19 :: x20 :: x21 :: x22 :: x23 :: x24 :: x25 :: x26 :: x27 :: x28 :: x29 :: x30 :: x31 :: x32 :: x33 :: x34 :: x35 :: x36 :: x37 :: x38 :: x39 :: x40 :: x41 :: x42 :: x43 :: x44 :: x45 :: x46 :: x47 :: x48 :: x49 :: x50 :: x51 :: x52 :: x53 :: x54 :: x55 :: x56 :: x57 :: x58 :: x59 :: x60 :: x61 :: x62 :: x63 :: x64 :: x65 :: x66 :: x67 :: x68 :: x69 :: x70 :: x71 :: x72 :: x73 :: x74 :: x75 :: x76 :: x77 :: x78 :: x79 :: x80 :: x81 :: x82 :: x83 :: x84 :: x85 :: x86 :: x87 :: x88 :: x89 :: x90 :: x91 :: x92 :: x93 :: x94 :: x95 :: x96 :: x97 :: x98 :: x99 :: x100 :: x101 :: x102 :: x103 :: x104 :: []), []⟩ w := by
  simp only [cD, bodyRo, Tryd.f4, Option.getD_some]
  obtain ⟨sv, hq, hE⟩ := hM.hq
  obtain ⟨A, c, rfl, hin, _⟩ := ents_in hE
  have hlen := hM.len
  have hz := planW_len N hM.hN2 es hM.all
  have hpr := print_good N hM.hN1 hM.hN2 es hM.all (by omega) (by omega) A c w m V o cap F C hm hv hp hin
  have HM := Lib.hid hM
  have HPR := Lib.hid hpr
  have HQ := Lib.hid hq
  clear hM hpr hq hE hin hm hv hp
  go_wp2_with (refine wpList_load_block rfl 31 _ rfl (n0 + 2) _ _ rfl HQ.out (by kernel_rfl) (by kernel_rfl) ?_)
  refine HPR.out.mono ?_
  rintro e' w' ⟨rfl, hb⟩
  have HMB := Lib.hid (HM.out.keep (Abv.of_below hb))
  clear hb
  go_wp2_with fail
  exact ⟨⟨rfl, rfl, rfl, rfl, rfl, rfl⟩, HMB.out⟩

set_option maxRecDepth 100000 in
set_option maxHeartbeats 2000000 in
theorem pieceE (w : World) (n0 : Nat) (s : ByteArray) (hs : 10 ≤ s.size) (hs2 : s.size ≤ 65536) (x0 x2 x3 x4 x6 x8 x11 x12 x13 x14 x15 x16 x17 x18 x19 x20 x21 x22 x23 x24 x25 x26 x27 x28 x29 x30 x31 x32 x33 x34 x35 x36 x37 x38 x39 x40 x41 x42 x43 x44 x45 x46 x47 x48 x49 x50 x51 x52 x53 x54 x55 x56 x57 x58 x59 x60 x61 x62 x63 x64 x65 x66 x67 x68 x69 x70 x71 x72 x73 x74 x75 x76 x77 x78 x79 x80 x81 x82 x83 x84 x85 x86 x87 x88 x89 x90 x91 x92 x93 x94 x95 x96 x97 x98 x99 x100 x101 x102 x103 x104 : Value) :
    cE.wp Tryd.prog (fun e a' w' => match e with | .normal => ∃ T, a' = ⟨T, []⟩ ∧ TD T n1 n0 s ∧ w' = w | _ => False) ⟨List.toArray (x0 :: .int .i64 n1 :: x2 :: x3 :: x4 :: .pointer (some ⟨n0 + 1, 0, none⟩) :: x6 :: .pointer (some ⟨n0 + 2, 0, none⟩) :: x8 :: .string s :: .nilIface :: x11 :: x12 :: x13 :: x14 :: x15 :: x16 :: x17 :: x18 :: x19 :: x20 :: x21 :: x22 :: x23 :: x24 :: x25 :: x26 :: x27 :: x28 :: x29 :: x30 :: x31 :: x32 :: x33 :: x34 :: x35 :: x36 :: x37 :: x38 :: x39 :: x40 :: x41 :: x42 :: x43 :: x44 :: x45 :: x46 :: x47 :: x48 :: x49 :: x50 :: x51 :: x52 :: x53 :: x54 :: x55 :: x56 :: x57 :: x58 :: x59 :: x60 :: x61 :: x62 :: x63 :: x64 :: x65 :: x66 :: x67 :: x68 :: x69 :: x70 :: x71 :: x72 :: x73 :: x74 :: x75 :: x76 :: x77 :: x78 :: x79 :: x80 :: x81 :: x82 :: x83 :: x84 :: x85 :: x86 :: x87 :: x88 :: x89 :: x90 :: x91 :: x92 :: x93 :: x94 :: x95 :: x96 :: x97 :: x98 :: x99 :: x100 :: x101 :: x102 :: x103 :: x104 :: []), []⟩ w := by
  simp only [cE, bodyRo, Tryd.f4, Option.getD_some]
  have h1 : ¬ (s.size : Int) < 10 := by omega
  go_wp2_with fail
  exact ⟨rfl, rfl, rfl, rfl, rfl, rfl⟩
end
end Go.Proofs.YtbjkljmhhpoooaaDoor

/-
  jotterlaw15.ScriptRound: from Parse's return to its own.
-/
namespace Go.Proofs.YtbjkljmhhpoooaaDoor
open Go.Conc Go.Co Go.Proofs Go.RowKit
set_option linter.unusedVariables false

theorem bytes_abv {w0 w : World} {A : Option Addr} {bs : List Nat} (h : BytesRd w0 A bs) (ha : Abv w0.heap.size w0 w) : BytesRd w A bs := by
  rcases h with h | ⟨ad, h1, h3⟩
  · exact .inl h
  · refine .inr ⟨ad, h1, fun j hj => ?_⟩
    rw [World.cell?_of_block (w := w0) (ha.block _ (World.block_lt_of_cell? w0 _ (h3 j hj)))]
    exact h3 j hj

theorem ent_own_at {w : World} {lo g i c : Nat} {es : List Ent} {Y : Ent} (h : EntsAt w lo (.slice (some ⟨g, 0, none⟩) es.length c) es) (hY : es[i]? = some Y) :
    g < w.heap.size ∧ ∃ AY cY, w.ownsRow lo 5 1 (.slice AY Y.by_.length cY) Y.by_.length (u8s Y.by_) ∧ w.rangeAt g (i * 8) (entArr Y AY cY).toList := by
  obtain ⟨L, hL, hrow⟩ := h
  rcases hrow.2 with ⟨hv, h0⟩ | ⟨g', cap, cur, hv, hg, hh, hc, hm, hs, ht⟩
  · injection hv with h1; cases h1
  injection hv with h1 h2 h3
  injection h1 with h1
  injection h1 with h1
  subst h1 h3
  have hi : i < es.length := (List.getElem?_eq_some_iff.1 hY).1
  obtain ⟨V, ⟨bv, hV, ho⟩, hj⟩ := entsC_at hL i Y hY
  obtain ⟨A', c', rfl⟩ := own_form ho
  refine ⟨(Array.getElem?_eq_some_iff.1 hh).1, A', c', ho, fun j v hv => ?_⟩
  have hj8 : j < 8 := by
    have := (List.getElem?_eq_some_iff.1 hv).1
    simpa [entArr] using this
  have h5 : L[i * 8 + j]? = some v := by rw [hj j hj8, hV]; exact hv
  refine cell_of_heap hh ?_
  rw [← ht, List.getElem?_take_of_lt (by omega)] at h5
  rw [← Array.getElem?_toList]
  exact h5

section
variable (cl n1 : Int) (P : Option Addr) (n cp : Nat) (R : RawE) (AR : Option Addr) (cR : Nat)
set_option maxRecDepth 100000 in
set_option maxHeartbeats 4000000 in
theorem pieceF (w0 w : World) (n0 N : Nat) (es : List Ent) (hn0 : w0.heap.size = n0) (hn1 : i64 n1) (hR : RawE.Ok R) (hRl : R.bs.length ≤ cR) (hRn : AR = none → cR = 0) (hRb : BytesRd w0 AR R.bs)
    (hM : MB cl P n cp R AR cR w0 w n0 N es) (pr lo2 : Nat) (svr : Value) (hpr : w.heap[pr]? = some (.cells #[.int .i64 (N : Int), svr] 31 (0, 0))) (hE2 : EntsAt w lo2 svr es) (m : Int) (V o cap : Nat) (F : Nat → Option Addr) (C : Nat → Nat)
    (hm : w0.cell? ⟨4, 0, none⟩ = some (.int .i64 m)) (hv : VerbsAt V o cap F C w0) (hp : PowAt w0) (x0 x2 x3 x4 x6 x8 x12 x13 x14 x15 x16 x17 x18 x19 x20 x21 x22 x23 x24 x25 x26 x27 x28 x29 x30 x31 x32 x33 x34 x35 x36 x37 x38 x39 x40 x41 x42 x43 x44 x45 x46 x47 x48 x49 x50 x51 x52 x53 x54 x55 x56 x57 x58 x59 x60 x61 x62 x63 x64 x65 x66 x67 x68 x69 x70 x71 x72 x73 x74 x75 x76 x77 x78 x79 x80 x81 x82 x83 x84 x85 x86 x87 x88 x89 x90 x91 x92 x93 x94 x95 x96 x97 x98 x99 x100 x101 x102 x103 x104 : Value) :
    cF.wp Tryd.prog (fun e a' w' => match e with | .ret => ∃ T, a' = ⟨T, []⟩ ∧ T[6]? = some (.bool true) ∧ Below n0 w w' | _ => False) ⟨List.toArray (x0 :: .int .i64 n1 :: x2 :: x3 :: x4 :: .pointer (some ⟨n0 + 1, 0, none⟩) :: x6 :: .pointer (some ⟨n0 + 2, 0, none⟩) :: x8 :: .string (strB (planW N (es.map writW))) :: .nilIface :: .pointer (some ⟨pr, 0, none⟩) :: x12 :: x13 :: x14 :: x15 :: x16 :: x17 :: x18 :: x19 :: x20 :: x21 :: x22 :: x23 :: x24 :: x25 :: x26 :: x27 :: x28 :: x29 :: x30 :: x31 :: x32 :: x33 :: x34 :: x35 :: x36 :: x37 :: x38 :: x39 :: x40 :: x41 :: x42 :: x43 :: x44 :: x45 :: x46 :: x47 :: x48 :: x49 :: x50 :: x51 :: x52 :: x53 :: x54 :: x55 :: x56 :: x57 :: x58 :: x59 :: x60 :: x61 :: x62 :: x63 :: x64 :: x65 :: x66 :: x67 :: x68 :: x69 :: x70 :: x71 :: x72 :: x73 :: x74 :: x75 :: x76 :: x77 :: x78 :: x79 :: x80 :: x81 :: x82 :: x83 :: x84 :: x85 :: x86 :: x87 :: x88 :: x89 :: x90 :: x91 :: x92 :: x93 :: x94 :: x95 :: x96 :: x97 :: x98 :: x99 :: x100 :: x101 :: x102 :: x103 :: x104 :: []), []⟩ w := by
  simp only [cF, bodyRo, Tryd.f4, Option.getD_some]
  obtain ⟨svq, hq, hE⟩ := hM.hq
  obtain ⟨A, c, rfl, hin, hgA⟩ := ents_in hE
  obtain ⟨B, c2, rfl, hin2, _⟩ := ents_in hE2
  have hlen := hM.len
  have hsize := hM.size
  have hal := alike_plans N es (fun e he => by have := (hM.all e he).facts.2; omega) (by omega) B A c2 c w hin2 hin
  have ha0 := cell_of_heap (i := 0) hpr (v := .int .i64 (N : Int)) rfl
  have ha1 := cell_of_heap (i := 1) hpr (v := .slice B es.length c2) rfl
  have hb0 := cell_of_heap (i := 0) hq (v := .int .i64 (N : Int)) rfl
  have hb1 := cell_of_heap (i := 1) hq (v := .slice A es.length c) rfl
  have HM := Lib.hid hM
  have HAL := Lib.hid hal
  have HE := Lib.hid hE
  have HQ := Lib.hid hq
  have HMX := Lib.hid hm
  have HV := Lib.hid hv
  have HP := Lib.hid hp
  have HBY := Lib.hid (bytes_abv hRb (by rw [hn0]; exact hM.abv))
  have HGA := Lib.hid hgA
  have HR := Lib.hid hR
  have HRN := Lib.hid hRn
  clear hM hal hE hq hm hv hp hRb hgA hin hin2 hpr hE2 hR hRn
  go_wp2_with fail
  refine HAL.out.mono ?_
  rintro e' w1 ⟨rfl, hbl1⟩
  have HB1 := Lib.hid hbl1
  have HM1 := Lib.hid (HM.out.keep (Abv.of_below hbl1))
  have hq1 := (hbl1.block (n0 + 2) (by omega)).trans HQ.out
  have HQ1 := Lib.hid hq1
  have HE1 := Lib.hid (HE.out.below hbl1)
  have hs1 := hbl1.size
  have hc1 := cell_of_heap (i := 1) hq1 (v := .slice A es.length c) rfl
  clear hbl1 hq1 ha0 ha1 hb0 hb1
  by_cases hes : es = []
  · have h0 : ((es.length : Int) == 0) = true := by rw [hes]; rfl
    clear hes
    go_wp2_with fail
    exact HB1.out.mono (by omega)
  · have hpos : 0 < es.length := List.length_pos_iff.2 hes
    have h0 : ((es.length : Int) == 0) = false := by simp; omega
    obtain ⟨g, rfl, hlog⟩ := HGA.out hes
    have hw64 : IntKind.i64.wrap ((es.length : Int) - 1) = ((es.length - 1 : Nat) : Int) := by rw [IntWalk.i64_in _ (by omega)]; omega
    have HES := Lib.hid hes
    clear hes
    go_wp2_with fail
    refine (within_nat n1 0 (es.length - 1) hn1 (Nat.zero_le _) (by omega) _).mono ?_
    rintro e' w2 ⟨i, rfl, hi1, hi2, rfl⟩
    obtain ⟨Y, hY⟩ : ∃ Y, es[i]? = some Y := ⟨_, List.getElem?_eq_getElem (by omega)⟩
    have hiL : i < es.length := by omega
    have HYI := Lib.hid hY
    have HI := Lib.hid hi2
    clear hi1 hi2 hY hc1
    go_wp2_with (refine wpList_load_block rfl 25 _ rfl (n0 + 1) (rawArr R AR cR) _ rfl HM1.out.he (by kernel_rfl) (by kernel_rfl) ?_)
    refine (law_entry R HR.out AR cR w2 hRl HRN.out (bytesRd_below HBY.out HB1.out)).mono ?_
    rintro e' w4 ⟨X, hX, hent⟩
    obtain ⟨A4, c4, rfl, ho4, hbl4⟩ := hent.lay
    have hs4 := hbl4.size
    obtain ⟨hgl, AY, cY, hYb, hYr⟩ := ent_own_at HE1.out HYI.out
    have hone : (entArr X A4 c4).toList.all (·.oneCell') = true := rfl
    have HONE := Lib.hid (show (entArr X A4 c4).all (·.oneCell') = true by rw [← Array.all_toList]; exact hone)
    have HB4 := Lib.hid hbl4
    clear hone
    have HO4 := Lib.hid ho4
    have HYB := Lib.hid hYb
    have HYR := Lib.hid hYr
    have HX := Lib.hid hX
    clear hbl4 ho4 hYb hYr hX hent
    have hi64 : (i : Int) < (es.length : Int) := by omega
    go_wp2_with (first
      | (refine wpList_store_block rfl 25 _ _ rfl w4.heap.size (entArr X A4 c4) zeroCells8 _ rfl rfl (alloc_at rfl) rfl (by kernel_rfl) rfl ?_; intro w5 hw5; have hb5 : Below w4.heap.size w4 w5 := ((Below.refl _ w4).alloc (Nat.le_refl _) _).trans (hw5.below (Nat.le_refl _)); have hb25 : Below w2.heap.size w2 w5 := HB4.out.trans (hb5.mono HB4.out.size); have hc5 := cell_of_heap (i := 1) ((hb25.block (n0 + 2) (by omega)).trans HQ1.out) (v := .slice (some ⟨g, 0, none⟩) es.length c) rfl; have HX5 := Lib.hid hw5.at_; have hlt5 : w4.heap.size < w5.heap.size := (Array.getElem?_eq_some_iff.1 hw5.at_).1; have HB45 := Lib.hid hb5; have HB25 := Lib.hid hb25; clear hw5 hb5 hb25)
      | (refine wpList_load_at rfl 25 _ rfl g (i * 8) (entArr Y AY cY) rfl (range_below HYR.out hgl HB25.out) (by kernel_rfl) (by kernel_rfl) ?_)
      | (refine wpList_store_block rfl 25 _ _ rfl w5.heap.size (entArr Y AY cY) zeroCells8 _ rfl rfl (alloc_at rfl) rfl (by kernel_rfl) rfl ?_; intro w6 hw6; have hb6 : Below w5.heap.size w5 w6 := ((Below.refl _ w5).alloc (Nat.le_refl _) _).trans (hw6.below (Nat.le_refl _)); have hb26 : Below w2.heap.size w2 w6 := HB25.out.trans (hb6.mono HB25.out.size); have hc6 := cell_of_heap (i := 1) ((hb26.block (n0 + 2) (by omega)).trans HQ1.out) (v := .slice (some ⟨g, 0, none⟩) es.length c) rfl; have HX6 := Lib.hid ((hb6.block w4.heap.size hlt5).trans HX5.out); have HY6 := Lib.hid hw6.at_; have hlt6 : w5.heap.size < w6.heap.size := (Array.getElem?_eq_some_iff.1 hw6.at_).1; have HB56 := Lib.hid hb6; have HB26 := Lib.hid hb26; obtain ⟨_, hth, w7, hw7, hin7, hbk7, ho7, ht7, hp7, hs7, hk7⟩ := ents_set (HE1.out.below hb26) hiL (own_below HO4.out (HB45.out.trans (hb6.mono HB45.out.size))); have HTH := Lib.hid hth; have HW7 := Lib.hid hw7; have hb67 : Below (n0 + 3) w6 w7 := ⟨ho7, ht7, hp7, by rw [hs7]; exact Nat.le_refl _, fun k hk => hk7 k (by omega)⟩; have HB67 := Lib.hid hb67; have hq7 := (hb67.block (n0 + 2) (by omega)).trans ((hb26.block (n0 + 2) (by omega)).trans HQ1.out); have HQ7 := Lib.hid hq7; have HX7 := Lib.hid ((hk7 w4.heap.size (by omega)).trans HX6.out); have HY7 := Lib.hid ((hk7 w5.heap.size (by omega)).trans HY6.out); have HIN7 := Lib.hid hin7; have HBK7 := Lib.hid hbk7; have HS7 := Lib.hid hs7; clear hw6 hb6 hb26 hth hw7 hin7 hbk7 ho7 ht7 hp7 hs7 hk7 hb67 hq7)
      | (refine wpList_load_block rfl 25 _ rfl w4.heap.size (entArr X A4 c4) _ rfl HX6.out (by kernel_rfl) (by kernel_rfl) ?_)
      | (refine wpList_store_mid rfl 25 _ _ rfl g (i * 8) (entArr X A4 c4) rfl rfl HTH.out (by kernel_rfl) HONE.out ?_; rw [HW7.out])
      | (refine wpList_load_block rfl 31 _ rfl (n0 + 2) _ _ rfl HQ7.out (by kernel_rfl) (by kernel_rfl) ?_))
    have hall7 : ∀ e ∈ es.set i X, Meant e := fun e he => (List.mem_or_eq_of_mem_set he).elim (HM.out.all e) (fun h => h ▸ HX.out)
    have hlen7 : (es.set i X).length = es.length := List.length_set
    have hz := planW_len N HM.out.hN2 (es.set i X) hall7
    have hb07 : Below n0 w w7 := (HB1.out.mono (by omega)).trans ((HB26.out.mono (by omega)).trans (HB67.out.mono (by omega)))
    have hA7 : Abv w0.heap.size w0 w7 := by rw [hn0]; exact HM.out.abv.trans (Abv.of_below hb07)
    have hpr := print_good N HM.out.hN1 HM.out.hN2 (es.set i X) hall7 (by omega) (by omega) (some ⟨g, 0, none⟩) c w7 m V o cap F C (cell_abv HMX.out hA7) (verbs_abv HV.out hA7) (pow_abv w0 HP.out hA7) HIN7.out
    rw [hlen7] at hpr
    refine hpr.mono ?_
    rintro e' w8 ⟨rfl, hb8⟩
    have hs7 := HS7.out
    have hX8 := (hb8.block w4.heap.size (by omega)).trans HX7.out
    have hY8 := (hb8.block w5.heap.size (by omega)).trans HY7.out
    have hb67 : Below w6.heap.size w6 w6 := Below.refl _ _
    have hb46 : Below w4.heap.size w4 w6 := HB45.out.trans (HB56.out.mono HB45.out.size)
    have hXb : BytesIn w8 A4 X.by_ := (own_in (own_kept (own_mono (own_below HO4.out hb46) (Nat.zero_le _)) HBK7.out)).below hb8
    have hYb : BytesIn w8 AY Y.by_ := (own_in (own_kept (own_mono (own_below HYB.out HB26.out) (Nat.zero_le _)) HBK7.out)).below hb8
    have hYm : Meant Y := HM.out.all Y (List.mem_of_getElem? HYI.out)
    have hXl : X.by_.length ≤ 1099511627776 := by have := HX.out.facts.2; omega
    obtain ⟨a0, a1, a2, a3, a4, a5, a6, a7⟩ := ent_cells hX8
    obtain ⟨b0, b1, b2, b3, b4, b5, b6, b7⟩ := ent_cells hY8
    have HB08 := Lib.hid (hb07.trans (hb8.mono (by have := hb07.size; omega)))
    have hs8 := HB08.out.size
    by_cases hxy : X = Y
    · subst hxy
      rw [text_same (N := N) HYI.out]
      have hal8 := alike_yes X A4 AY c4 cY w8 hXb hYb hXl
      have HAL8 := Lib.hid hal8
      clear hal8 hall7 hlen7 hz hb07 hA7 hpr hb8 hX8 hY8 hb67 hb46 hXb hYb hYm hXl
      generalize strB (planW N (es.map writW)) = tx
      go_wp2_with fail
      refine HAL8.out.mono ?_
      rintro e' w9 ⟨rfl, hb9⟩
      have HB9 := Lib.hid (HB08.out.trans (hb9.mono (by omega)))
      clear hb9
      go_wp2_with fail
      exact HB9.out
    · have hst := text_unlike (N := N) HYI.out HX.out hYm hxy
      have hal8 := alike_no X Y hxy A4 AY c4 cY w8 hXb hYb hXl
      have HAL8 := Lib.hid hal8
      clear hal8 hall7 hlen7 hz hb07 hA7 hpr hb8 hX8 hY8 hb67 hb46 hXb hYb hYm hXl
      generalize strB (planW N (es.map writW)) = tx at hst ⊢
      generalize strB (planW N ((es.set i X).map writW)) = ty at hst ⊢
      have hst2 : ¬ tx.toList = ty.toList := fun h => hst (by rw [Lib.toList_data, Lib.toList_data] at h; exact ByteArray.ext (Array.toList_inj.1 h))
      go_wp2_with fail
      refine HAL8.out.mono ?_
      rintro e' w9 ⟨rfl, hb9⟩
      have HB9 := Lib.hid (HB08.out.trans (hb9.mono (by omega)))
      clear hb9
      go_wp2_with fail
      exact HB9.out
end
end Go.Proofs.YtbjkljmhhpoooaaDoor

/-
  jotterlaw15.ScriptRound: the whole run.
-/
namespace Go.Proofs.YtbjkljmhhpoooaaDoor
open Go.Conc Go.Co Go.Proofs Go.RowKit
set_option linter.unusedVariables false

theorem planW_ge (n : Nat) (ls : List (List UInt8)) : 10 ≤ (strB (planW n ls)).size := by
  have h1 : 0 < (Lib.decDigits n).length := List.length_pos_iff.2 (dd_ne n)
  have h2 : (strB (planW n ls)).size = (planW n ls).length := rfl
  have h3 : clB.data.toList.length = 8 := rfl
  rw [h2]
  unfold planW
  rw [List.flatMap_cons, List.length_append, List.length_append, List.length_append, h3]
  simp only [List.length_cons, List.length_nil]
  omega

theorem abv_on {n : Nat} {w0 w : World} (h : Abv n w0 w) (t : Tape) (d : Nat) : Abv n w0 (w.on t d) := ⟨h.os, h.output, h.size, h.block⟩
theorem abv_under {n : Nat} {w w' : World} {t : Tape} {d : Nat} (h : Abv n (w.on t d) w') : Abv n w w' := ⟨h.os, h.output, h.size, h.block⟩
theorem MA.on {cl : Int} {P : Option Addr} {n cp : Nat} {R : RawE} {AR : Option Addr} {cR : Nat} {w0 w : World} {n0 : Nat} (h : MA cl P n cp R AR cR w0 w n0) (t : Tape) (d : Nat) : MA cl P n cp R AR cR w0 (w.on t d) n0 := ⟨h.hp, h.he, h.size, abv_on h.abv t d⟩
theorem MB.on {cl : Int} {P : Option Addr} {n cp : Nat} {R : RawE} {AR : Option Addr} {cR : Nat} {w0 w : World} {n0 N : Nat} {es : List Ent} (h : MB cl P n cp R AR cR w0 w n0 N es) (t : Tape) (d : Nat) : MB cl P n cp R AR cR w0 (w.on t d) n0 N es := by
  obtain ⟨sv, hq, hE⟩ := h.hq
  exact ⟨h.he, h.hp, h.hN1, h.hN2, h.all, h.len, ⟨sv, hq, hE.keep fun _ _ _ _ _ _ => rfl⟩, h.size, abv_on h.abv t d⟩

set_option maxRecDepth 100000 in
theorem bodyRo_eq : bodyRo = .seq cA (.seq cB (.seq cC (.seq cD (.seq cE (.seq (.region 9 ops9Ro false) cF))))) := rfl
noncomputable def frRo (T : Array Value) (s : ByteArray) : Frame := (base 4).at ⟨T.setIfInBounds 55 (.string s), []⟩ [.inRegion ops9Ro [1, 2, 3, 4, 5, 6, 7], .code cF]
noncomputable def storeRo : Oper := ops9Ro.getD 6 (default : Oper)
theorem funcRo : Tryd.prog.inits.idxOf? 4 = none := by kernel_rfl

set_option maxRecDepth 100000 in
set_option maxHeartbeats 2000000 in
theorem frame_lit (s : ByteArray) (v : Value) {T : Array Value} (x0 x1 x2 x3 x4 x5 x6 x7 x8 x9 x10 x11 x12 x13 x14 x15 x16 x17 x18 x19 x20 x21 x22 x23 x24 x25 x26 x27 x28 x29 x30 x31 x32 x33 x34 x35 x36 x37 x38 x39 x40 x41 x42 x43 x44 x45 x46 x47 x48 x49 x50 x51 x52 x53 x54 x55 x56 x57 x58 x59 x60 x61 x62 x63 x64 x65 x66 x67 x68 x69 x70 x71 x72 x73 x74 x75 x76 x77 x78 x79 x80 x81 x82 x83 x84 x85 x86 x87 x88 x89 x90 x91 x92 x93 x94 x95 x96 x97 x98 x99 x100 x101 x102 x103 x104 : Value) (h : T = List.toArray (x0 :: x1 :: x2 :: x3 :: x4 :: x5 :: x6 :: x7 :: x8 :: x9 :: x10 :: x11 :: x12 :: x13 :: x14 :: x15 :: x16 :: x17 :: x18 :: x19 :: x20 :: x21 :: x22 :: x23 :: x24 :: x25 :: x26 :: x27 :: x28 :: x29 :: x30 :: x31 :: x32 :: x33 :: x34 :: x35 :: x36 :: x37 :: x38 :: x39 :: x40 :: x41 :: x42 :: x43 :: x44 :: x45 :: x46 :: x47 :: x48 :: x49 :: x50 :: x51 :: x52 :: x53 :: x54 :: x55 :: x56 :: x57 :: x58 :: x59 :: x60 :: x61 :: x62 :: x63 :: x64 :: x65 :: x66 :: x67 :: x68 :: x69 :: x70 :: x71 :: x72 :: x73 :: x74 :: x75 :: x76 :: x77 :: x78 :: x79 :: x80 :: x81 :: x82 :: x83 :: x84 :: x85 :: x86 :: x87 :: x88 :: x89 :: x90 :: x91 :: x92 :: x93 :: x94 :: x95 :: x96 :: x97 :: x98 :: x99 :: x100 :: x101 :: x102 :: x103 :: x104 :: [])) : (frRo T s).finish v = (base 4).at ⟨List.toArray (x0 :: x1 :: x2 :: x3 :: x4 :: x5 :: x6 :: x7 :: x8 :: x9 :: x10 :: x11 :: x12 :: x13 :: x14 :: x15 :: x16 :: x17 :: x18 :: x19 :: x20 :: x21 :: x22 :: x23 :: x24 :: x25 :: x26 :: x27 :: x28 :: x29 :: x30 :: x31 :: x32 :: x33 :: x34 :: x35 :: x36 :: x37 :: x38 :: x39 :: x40 :: x41 :: x42 :: x43 :: x44 :: x45 :: x46 :: x47 :: x48 :: x49 :: x50 :: x51 :: x52 :: x53 :: x54 :: .string s :: v :: x57 :: x58 :: x59 :: x60 :: x61 :: x62 :: x63 :: x64 :: x65 :: x66 :: x67 :: x68 :: x69 :: x70 :: x71 :: x72 :: x73 :: x74 :: x75 :: x76 :: x77 :: x78 :: x79 :: x80 :: x81 :: x82 :: x83 :: x84 :: x85 :: x86 :: x87 :: x88 :: x89 :: x90 :: x91 :: x92 :: x93 :: x94 :: x95 :: x96 :: x97 :: x98 :: x99 :: x100 :: x101 :: x102 :: x103 :: x104 :: []), []⟩ [.inRegion ops9Ro [2, 3, 4, 5, 6, 7], .code cF] := by
  subst h
  rfl
set_option maxRecDepth 100000 in
set_option maxHeartbeats 2000000 in
theorem enter_lit (s : ByteArray) (w : World) (x0 x1 x2 x3 x4 x5 x6 x7 x8 x10 x11 x12 x13 x14 x15 x16 x17 x18 x19 x20 x21 x22 x23 x24 x25 x26 x27 x28 x29 x30 x31 x32 x33 x34 x35 x36 x37 x38 x39 x40 x41 x42 x43 x44 x45 x46 x47 x48 x49 x50 x51 x52 x53 x54 x55 x56 x57 x58 x59 x60 x61 x62 x63 x64 x65 x66 x67 x68 x69 x70 x71 x72 x73 x74 x75 x76 x77 x78 x79 x80 x81 x82 x83 x84 x85 x86 x87 x88 x89 x90 x91 x92 x93 x94 x95 x96 x97 x98 x99 x100 x101 x102 x103 x104 : Value) : Co.Way Tryd.prog true (Rely None') (Guar None') (fun a w1 => a = GP (T0P s) [.code bodyP] [frRo (List.toArray (x0 :: x1 :: x2 :: x3 :: x4 :: x5 :: x6 :: x7 :: x8 :: .string s :: x10 :: x11 :: x12 :: x13 :: x14 :: x15 :: x16 :: x17 :: x18 :: x19 :: x20 :: x21 :: x22 :: x23 :: x24 :: x25 :: x26 :: x27 :: x28 :: x29 :: x30 :: x31 :: x32 :: x33 :: x34 :: x35 :: x36 :: x37 :: x38 :: x39 :: x40 :: x41 :: x42 :: x43 :: x44 :: x45 :: x46 :: x47 :: x48 :: x49 :: x50 :: x51 :: x52 :: x53 :: x54 :: x55 :: x56 :: x57 :: x58 :: x59 :: x60 :: x61 :: x62 :: x63 :: x64 :: x65 :: x66 :: x67 :: x68 :: x69 :: x70 :: x71 :: x72 :: x73 :: x74 :: x75 :: x76 :: x77 :: x78 :: x79 :: x80 :: x81 :: x82 :: x83 :: x84 :: x85 :: x86 :: x87 :: x88 :: x89 :: x90 :: x91 :: x92 :: x93 :: x94 :: x95 :: x96 :: x97 :: x98 :: x99 :: x100 :: x101 :: x102 :: x103 :: x104 :: [])) s] ∧ Rely None' w w1) (G ((base 4).at ⟨List.toArray (x0 :: x1 :: x2 :: x3 :: x4 :: x5 :: x6 :: x7 :: x8 :: .string s :: x10 :: x11 :: x12 :: x13 :: x14 :: x15 :: x16 :: x17 :: x18 :: x19 :: x20 :: x21 :: x22 :: x23 :: x24 :: x25 :: x26 :: x27 :: x28 :: x29 :: x30 :: x31 :: x32 :: x33 :: x34 :: x35 :: x36 :: x37 :: x38 :: x39 :: x40 :: x41 :: x42 :: x43 :: x44 :: x45 :: x46 :: x47 :: x48 :: x49 :: x50 :: x51 :: x52 :: x53 :: x54 :: x55 :: x56 :: x57 :: x58 :: x59 :: x60 :: x61 :: x62 :: x63 :: x64 :: x65 :: x66 :: x67 :: x68 :: x69 :: x70 :: x71 :: x72 :: x73 :: x74 :: x75 :: x76 :: x77 :: x78 :: x79 :: x80 :: x81 :: x82 :: x83 :: x84 :: x85 :: x86 :: x87 :: x88 :: x89 :: x90 :: x91 :: x92 :: x93 :: x94 :: x95 :: x96 :: x97 :: x98 :: x99 :: x100 :: x101 :: x102 :: x103 :: x104 :: []), []⟩ [.inRegion ops9Ro [0, 1, 2, 3, 4, 5, 6, 7], .code cF]) []) w := by
  refine way_pure' (mildR _) ⟨(List.toArray (x0 :: x1 :: x2 :: x3 :: x4 :: x5 :: x6 :: x7 :: x8 :: .string s :: x10 :: x11 :: x12 :: x13 :: x14 :: x15 :: x16 :: x17 :: x18 :: x19 :: x20 :: x21 :: x22 :: x23 :: x24 :: x25 :: x26 :: x27 :: x28 :: x29 :: x30 :: x31 :: x32 :: x33 :: x34 :: x35 :: x36 :: x37 :: x38 :: x39 :: x40 :: x41 :: x42 :: x43 :: x44 :: x45 :: x46 :: x47 :: x48 :: x49 :: x50 :: x51 :: x52 :: x53 :: x54 :: x55 :: x56 :: x57 :: x58 :: x59 :: x60 :: x61 :: x62 :: x63 :: x64 :: x65 :: x66 :: x67 :: x68 :: x69 :: x70 :: x71 :: x72 :: x73 :: x74 :: x75 :: x76 :: x77 :: x78 :: x79 :: x80 :: x81 :: x82 :: x83 :: x84 :: x85 :: x86 :: x87 :: x88 :: x89 :: x90 :: x91 :: x92 :: x93 :: x94 :: x95 :: x96 :: x97 :: x98 :: x99 :: x100 :: x101 :: x102 :: x103 :: x104 :: [])).setIfInBounds 55 (.string s), []⟩ rfl rfl (by decide) (fun _ _ => rfl) rfl ?_
  have hev : Act.eval ⟨(List.toArray (x0 :: x1 :: x2 :: x3 :: x4 :: x5 :: x6 :: x7 :: x8 :: .string s :: x10 :: x11 :: x12 :: x13 :: x14 :: x15 :: x16 :: x17 :: x18 :: x19 :: x20 :: x21 :: x22 :: x23 :: x24 :: x25 :: x26 :: x27 :: x28 :: x29 :: x30 :: x31 :: x32 :: x33 :: x34 :: x35 :: x36 :: x37 :: x38 :: x39 :: x40 :: x41 :: x42 :: x43 :: x44 :: x45 :: x46 :: x47 :: x48 :: x49 :: x50 :: x51 :: x52 :: x53 :: x54 :: x55 :: x56 :: x57 :: x58 :: x59 :: x60 :: x61 :: x62 :: x63 :: x64 :: x65 :: x66 :: x67 :: x68 :: x69 :: x70 :: x71 :: x72 :: x73 :: x74 :: x75 :: x76 :: x77 :: x78 :: x79 :: x80 :: x81 :: x82 :: x83 :: x84 :: x85 :: x86 :: x87 :: x88 :: x89 :: x90 :: x91 :: x92 :: x93 :: x94 :: x95 :: x96 :: x97 :: x98 :: x99 :: x100 :: x101 :: x102 :: x103 :: x104 :: [])).setIfInBounds 55 (.string s), []⟩ (.tmp 55) = .string s := rfl
  generalize List.toArray (x0 :: x1 :: x2 :: x3 :: x4 :: x5 :: x6 :: x7 :: x8 :: .string s :: x10 :: x11 :: x12 :: x13 :: x14 :: x15 :: x16 :: x17 :: x18 :: x19 :: x20 :: x21 :: x22 :: x23 :: x24 :: x25 :: x26 :: x27 :: x28 :: x29 :: x30 :: x31 :: x32 :: x33 :: x34 :: x35 :: x36 :: x37 :: x38 :: x39 :: x40 :: x41 :: x42 :: x43 :: x44 :: x45 :: x46 :: x47 :: x48 :: x49 :: x50 :: x51 :: x52 :: x53 :: x54 :: x55 :: x56 :: x57 :: x58 :: x59 :: x60 :: x61 :: x62 :: x63 :: x64 :: x65 :: x66 :: x67 :: x68 :: x69 :: x70 :: x71 :: x72 :: x73 :: x74 :: x75 :: x76 :: x77 :: x78 :: x79 :: x80 :: x81 :: x82 :: x83 :: x84 :: x85 :: x86 :: x87 :: x88 :: x89 :: x90 :: x91 :: x92 :: x93 :: x94 :: x95 :: x96 :: x97 :: x98 :: x99 :: x100 :: x101 :: x102 :: x103 :: x104 :: []) = T at hev ⊢
  refine way_enter (mildR _) #[.string s] rfl rfl (by decide) rfl Tryd.func15 rfl (by kernel_rfl) (by simp only [List.map_toArray, List.map_cons, List.map_nil, hev]) ?_
  have ht : (#[.string s] : Array Value) ++ Array.replicate (Tryd.f15.ntmps - (#[.string s] : Array Value).size) undef = T0P s := by kernel_rfl
  rw [ht]
  exact Co.Way.stop fun w1 h1 => ⟨rfl, h1⟩

section
variable (cl n1 : Int) (P : Option Addr) (n cp : Nat) (R : RawE) (AR : Option Addr) (cR : Nat)
noncomputable def T0Ro : Array Value := List.toArray (.agg #[.int .i64 cl, .slice P n cp] :: .int .i64 n1 :: .agg (rawArr R AR cR) :: undef :: undef :: undef :: undef :: undef :: undef :: undef :: undef :: undef :: undef :: undef :: undef :: undef :: undef :: undef :: undef :: undef :: undef :: undef :: undef :: undef :: undef :: undef :: undef :: undef :: undef :: undef :: undef :: undef :: undef :: undef :: undef :: undef :: undef :: undef :: undef :: undef :: undef :: undef :: undef :: undef :: undef :: undef :: undef :: undef :: undef :: undef :: undef :: undef :: undef :: undef :: undef :: undef :: undef :: undef :: undef :: undef :: undef :: undef :: undef :: undef :: undef :: undef :: undef :: undef :: undef :: undef :: undef :: undef :: undef :: undef :: undef :: undef :: undef :: undef :: undef :: undef :: undef :: undef :: undef :: undef :: undef :: undef :: undef :: undef :: undef :: undef :: undef :: undef :: undef :: undef :: undef :: undef :: undef :: undef :: undef :: undef :: undef :: undef :: undef :: undef :: undef :: [])
noncomputable def startRo : Goroutine := G ((base 4).at ⟨T0Ro cl n1 P n cp R AR cR, []⟩ [.code bodyRo]) []
set_option maxRecDepth 100000 in
theorem startRo_eq : G (Frame.enter Tryd.prog 4 #[.agg #[.int .i64 cl, .slice P n cp], .int .i64 n1, .agg (rawArr R AR cR)] .normal) [] = startRo cl n1 P n cp R AR cR := by
  have hb : Tryd.f4.body = some bodyRo := rfl
  have ht : (#[.agg #[.int .i64 cl, .slice P n cp], .int .i64 n1, .agg (rawArr R AR cR)] : Array Value) ++ Array.replicate (105 - (#[.agg #[.int .i64 cl, .slice P n cp], .int .i64 n1, .agg (rawArr R AR cR)] : Array Value).size) undef = T0Ro cl n1 P n cp R AR cR := by kernel_rfl
  rw [enter_at (c := bodyRo) _ Tryd.func4 hb, Tryd.ntmps4, ht]
  rfl

variable (w0 : World) (hcl : i64 cl) (hn1 : i64 n1) (hraw : RawsIn w0 P n) (hR : RawE.Ok R) (hRl : R.bs.length ≤ cR) (hRn : AR = none → cR = 0) (hRb : BytesRd w0 AR R.bs)
  (m : Int) (V o cap : Nat) (F : Nat → Option Addr) (C : Nat → Nat)
  (hm : w0.cell? ⟨4, 0, none⟩ = some (.int .i64 m)) (hv : VerbsAt V o cap F C w0) (hp : PowAt w0) (hgs : Tryd.prog.globals.size ≤ w0.heap.size)
include hcl hraw hm hv hp
set_option maxRecDepth 100000 in
set_option maxHeartbeats 2000000 in
theorem round_entry : Co.Way Tryd.prog true (Rely None') (Guar None') (fun a w => ∃ T N es, a = GP (T0P (strB (planW N (es.map writW)))) [.code bodyP] [frRo T (strB (planW N (es.map writW)))] ∧ TD T n1 w0.heap.size (strB (planW N (es.map writW))) ∧ MB cl P n cp R AR cR w0 w w0.heap.size N es) (startRo cl n1 P n cp R AR cR) w0 := by
  unfold startRo
  rw [bodyRo_eq]
  refine way_silent (mildR _) rfl (fun _ => stepG_seq) ?_
  refine piece cs_ok.1 broughtRo (fun T w => TA T n1 w0.heap.size ∧ MA cl P n cp R AR cR w0 w w0.heap.size) (fun _ _ t d h => ⟨h.1, h.2.on t d⟩) (fun t d => pieceA cl n1 P n cp R AR cR w0 (w0.on t d) w0.heap.size rfl (abv_on (Abv.refl _ w0) t d)) fun T w ⟨hT, hM⟩ => ?_
  refine way_silent (mildR _) rfl (fun _ => stepG_seq) ?_
  refine piece cs_ok.2.1 broughtRo (fun T w => TB T n1 w0.heap.size ∧ ∃ N, MB cl P n cp R AR cR w0 w w0.heap.size N []) (fun _ _ t d h => ⟨h.1, h.2.imp fun N h => h.on t d⟩) (fun t d => ?_) fun T w ⟨hT, N, hM⟩ => ?_
  · have e1 : T.getD 1 undef = .int .i64 n1 := getD_of hT.t1
    have e3 : T.getD 3 undef = .pointer (some ⟨w0.heap.size, 0, none⟩) := getD_of hT.t3
    have e5 : T.getD 5 undef = .pointer (some ⟨w0.heap.size + 1, 0, none⟩) := getD_of hT.t5
    rw [arr105 hT.size, e1, e3, e5]
    exact pieceB cl n1 P n cp R AR cR w0 (w.on t d) w0.heap.size hcl (hM.on t d) (T.getD 0 undef) (T.getD 2 undef) (T.getD 4 undef) (T.getD 6 undef) (T.getD 7 undef) (T.getD 8 undef) (T.getD 9 undef) (T.getD 10 undef) (T.getD 11 undef) (T.getD 12 undef) (T.getD 13 undef) (T.getD 14 undef) (T.getD 15 undef) (T.getD 16 undef) (T.getD 17 undef) (T.getD 18 undef) (T.getD 19 undef) (T.getD 20 undef) (T.getD 21 undef) (T.getD 22 undef) (T.getD 23 undef) (T.getD 24 undef) (T.getD 25 undef) (T.getD 26 undef) (T.getD 27 undef) (T.getD 28 undef) (T.getD 29 undef) (T.getD 30 undef) (T.getD 31 undef) (T.getD 32 undef) (T.getD 33 undef) (T.getD 34 undef) (T.getD 35 undef) (T.getD 36 undef) (T.getD 37 undef) (T.getD 38 undef) (T.getD 39 undef) (T.getD 40 undef) (T.getD 41 undef) (T.getD 42 undef) (T.getD 43 undef) (T.getD 44 undef) (T.getD 45 undef) (T.getD 46 undef) (T.getD 47 undef) (T.getD 48 undef) (T.getD 49 undef) (T.getD 50 undef) (T.getD 51 undef) (T.getD 52 undef) (T.getD 53 undef) (T.getD 54 undef) (T.getD 55 undef) (T.getD 56 undef) (T.getD 57 undef) (T.getD 58 undef) (T.getD 59 undef) (T.getD 60 undef) (T.getD 61 undef) (T.getD 62 undef) (T.getD 63 undef) (T.getD 64 undef) (T.getD 65 undef) (T.getD 66 undef) (T.getD 67 undef) (T.getD 68 undef) (T.getD 69 undef) (T.getD 70 undef) (T.getD 71 undef) (T.getD 72 undef) (T.getD 73 undef) (T.getD 74 undef) (T.getD 75 undef) (T.getD 76 undef) (T.getD 77 undef) (T.getD 78 undef) (T.getD 79 undef) (T.getD 80 undef) (T.getD 81 undef) (T.getD 82 undef) (T.getD 83 undef) (T.getD 84 undef) (T.getD 85 undef) (T.getD 86 undef) (T.getD 87 undef) (T.getD 88 undef) (T.getD 89 undef) (T.getD 90 undef) (T.getD 91 undef) (T.getD 92 undef) (T.getD 93 undef) (T.getD 94 undef) (T.getD 95 undef) (T.getD 96 undef) (T.getD 97 undef) (T.getD 98 undef) (T.getD 99 undef) (T.getD 100 undef) (T.getD 101 undef) (T.getD 102 undef) (T.getD 103 undef) (T.getD 104 undef)
  refine way_silent (mildR _) rfl (fun _ => stepG_seq) ?_
  refine piece cs_ok.2.2.1 broughtRo (fun T w => TB T n1 w0.heap.size ∧ ∃ es, MB cl P n cp R AR cR w0 w w0.heap.size N es) (fun _ _ t d h => ⟨h.1, h.2.imp fun N h => h.on t d⟩) (fun t d => ?_) fun T w ⟨hT, es, hM⟩ => ?_
  · have e1 : T.getD 1 undef = .int .i64 n1 := getD_of hT.t1
    have e3 : T.getD 3 undef = .pointer (some ⟨w0.heap.size, 0, none⟩) := getD_of hT.t3
    have e5 : T.getD 5 undef = .pointer (some ⟨w0.heap.size + 1, 0, none⟩) := getD_of hT.t5
    have e7 : T.getD 7 undef = .pointer (some ⟨w0.heap.size + 2, 0, none⟩) := getD_of hT.t7
    rw [arr105 hT.size, e1, e3, e5, e7]
    exact pieceC cl n1 P n cp R AR cR w0 (w.on t d) w0.heap.size N rfl hraw (hM.on t d) (T.getD 0 undef) (T.getD 2 undef) (T.getD 4 undef) (T.getD 6 undef) (T.getD 8 undef) (T.getD 9 undef) (T.getD 10 undef) (T.getD 11 undef) (T.getD 12 undef) (T.getD 13 undef) (T.getD 14 undef) (T.getD 15 undef) (T.getD 16 undef) (T.getD 17 undef) (T.getD 18 undef) (T.getD 19 undef) (T.getD 20 undef) (T.getD 21 undef) (T.getD 22 undef) (T.getD 23 undef) (T.getD 24 undef) (T.getD 25 undef) (T.getD 26 undef) (T.getD 27 undef) (T.getD 28 undef) (T.getD 29 undef) (T.getD 30 undef) (T.getD 31 undef) (T.getD 32 undef) (T.getD 33 undef) (T.getD 34 undef) (T.getD 35 undef) (T.getD 36 undef) (T.getD 37 undef) (T.getD 38 undef) (T.getD 39 undef) (T.getD 40 undef) (T.getD 41 undef) (T.getD 42 undef) (T.getD 43 undef) (T.getD 44 undef) (T.getD 45 undef) (T.getD 46 undef) (T.getD 47 undef) (T.getD 48 undef) (T.getD 49 undef) (T.getD 50 undef) (T.getD 51 undef) (T.getD 52 undef) (T.getD 53 undef) (T.getD 54 undef) (T.getD 55 undef) (T.getD 56 undef) (T.getD 57 undef) (T.getD 58 undef) (T.getD 59 undef) (T.getD 60 undef) (T.getD 61 undef) (T.getD 62 undef) (T.getD 63 undef) (T.getD 64 undef) (T.getD 65 undef) (T.getD 66 undef) (T.getD 67 undef) (T.getD 68 undef) (T.getD 69 undef) (T.getD 70 undef) (T.getD 71 undef) (T.getD 72 undef) (T.getD 73 undef) (T.getD 74 undef) (T.getD 75 undef) (T.getD 76 undef) (T.getD 77 undef) (T.getD 78 undef) (T.getD 79 undef) (T.getD 80 undef) (T.getD 81 undef) (T.getD 82 undef) (T.getD 83 undef) (T.getD 84 undef) (T.getD 85 undef) (T.getD 86 undef) (T.getD 87 undef) (T.getD 88 undef) (T.getD 89 undef) (T.getD 90 undef) (T.getD 91 undef) (T.getD 92 undef) (T.getD 93 undef) (T.getD 94 undef) (T.getD 95 undef) (T.getD 96 undef) (T.getD 97 undef) (T.getD 98 undef) (T.getD 99 undef) (T.getD 100 undef) (T.getD 101 undef) (T.getD 102 undef) (T.getD 103 undef) (T.getD 104 undef)
  refine way_silent (mildR _) rfl (fun _ => stepG_seq) ?_
  refine piece cs_ok.2.2.2.1 broughtRo (fun T w => TD T n1 w0.heap.size (strB (planW N (es.map writW))) ∧ MB cl P n cp R AR cR w0 w w0.heap.size N es) (fun _ _ t d h => ⟨h.1, h.2.on t d⟩) (fun t d => ?_) fun T w ⟨hT, hM⟩ => ?_
  · have e1 : T.getD 1 undef = .int .i64 n1 := getD_of hT.t1
    have e3 : T.getD 3 undef = .pointer (some ⟨w0.heap.size, 0, none⟩) := getD_of hT.t3
    have e5 : T.getD 5 undef = .pointer (some ⟨w0.heap.size + 1, 0, none⟩) := getD_of hT.t5
    have e7 : T.getD 7 undef = .pointer (some ⟨w0.heap.size + 2, 0, none⟩) := getD_of hT.t7
    rw [arr105 hT.size, e1, e3, e5, e7]
    have hA := abv_on hM.abv t d
    exact pieceD cl n1 P n cp R AR cR w0 (w.on t d) w0.heap.size N es (hM.on t d) m V o cap F C (cell_abv hm hA) (verbs_abv hv hA) (pow_abv w0 hp hA) (T.getD 0 undef) (T.getD 2 undef) (T.getD 4 undef) (T.getD 6 undef) (T.getD 8 undef) (T.getD 9 undef) (T.getD 10 undef) (T.getD 11 undef) (T.getD 12 undef) (T.getD 13 undef) (T.getD 14 undef) (T.getD 15 undef) (T.getD 16 undef) (T.getD 17 undef) (T.getD 18 undef) (T.getD 19 undef) (T.getD 20 undef) (T.getD 21 undef) (T.getD 22 undef) (T.getD 23 undef) (T.getD 24 undef) (T.getD 25 undef) (T.getD 26 undef) (T.getD 27 undef) (T.getD 28 undef) (T.getD 29 undef) (T.getD 30 undef) (T.getD 31 undef) (T.getD 32 undef) (T.getD 33 undef) (T.getD 34 undef) (T.getD 35 undef) (T.getD 36 undef) (T.getD 37 undef) (T.getD 38 undef) (T.getD 39 undef) (T.getD 40 undef) (T.getD 41 undef) (T.getD 42 undef) (T.getD 43 undef) (T.getD 44 undef) (T.getD 45 undef) (T.getD 46 undef) (T.getD 47 undef) (T.getD 48 undef) (T.getD 49 undef) (T.getD 50 undef) (T.getD 51 undef) (T.getD 52 undef) (T.getD 53 undef) (T.getD 54 undef) (T.getD 55 undef) (T.getD 56 undef) (T.getD 57 undef) (T.getD 58 undef) (T.getD 59 undef) (T.getD 60 undef) (T.getD 61 undef) (T.getD 62 undef) (T.getD 63 undef) (T.getD 64 undef) (T.getD 65 undef) (T.getD 66 undef) (T.getD 67 undef) (T.getD 68 undef) (T.getD 69 undef) (T.getD 70 undef) (T.getD 71 undef) (T.getD 72 undef) (T.getD 73 undef) (T.getD 74 undef) (T.getD 75 undef) (T.getD 76 undef) (T.getD 77 undef) (T.getD 78 undef) (T.getD 79 undef) (T.getD 80 undef) (T.getD 81 undef) (T.getD 82 undef) (T.getD 83 undef) (T.getD 84 undef) (T.getD 85 undef) (T.getD 86 undef) (T.getD 87 undef) (T.getD 88 undef) (T.getD 89 undef) (T.getD 90 undef) (T.getD 91 undef) (T.getD 92 undef) (T.getD 93 undef) (T.getD 94 undef) (T.getD 95 undef) (T.getD 96 undef) (T.getD 97 undef) (T.getD 98 undef) (T.getD 99 undef) (T.getD 100 undef) (T.getD 101 undef) (T.getD 102 undef) (T.getD 103 undef) (T.getD 104 undef)
  refine way_silent (mildR _) rfl (fun _ => stepG_seq) ?_
  refine piece cs_ok.2.2.2.2.1 broughtRo (fun T w => TD T n1 w0.heap.size (strB (planW N (es.map writW))) ∧ MB cl P n cp R AR cR w0 w w0.heap.size N es) (fun _ _ t d h => ⟨h.1, h.2.on t d⟩) (fun t d => ?_) fun T w ⟨hT, hM⟩ => ?_
  · have e1 : T.getD 1 undef = .int .i64 n1 := getD_of hT.t1
    have e5 : T.getD 5 undef = .pointer (some ⟨w0.heap.size + 1, 0, none⟩) := getD_of hT.t5
    have e7 : T.getD 7 undef = .pointer (some ⟨w0.heap.size + 2, 0, none⟩) := getD_of hT.t7
    have e9 : T.getD 9 undef = .string (strB (planW N (es.map writW))) := getD_of hT.t9
    have e10 : T.getD 10 undef = .nilIface := getD_of hT.t10
    rw [arr105 hT.size, e1, e5, e7, e9, e10]
    have hz := planW_len N hM.hN2 es hM.all
    have hl := hM.len
    refine Code.wp_mono ?_ (pieceE n1 (w.on t d) w0.heap.size (strB (planW N (es.map writW))) (planW_ge N _) (by show (planW N (es.map writW)).length ≤ 65536; omega) (T.getD 0 undef) (T.getD 2 undef) (T.getD 3 undef) (T.getD 4 undef) (T.getD 6 undef) (T.getD 8 undef) (T.getD 11 undef) (T.getD 12 undef) (T.getD 13 undef) (T.getD 14 undef) (T.getD 15 undef) (T.getD 16 undef) (T.getD 17 undef) (T.getD 18 undef) (T.getD 19 undef) (T.getD 20 undef) (T.getD 21 undef) (T.getD 22 undef) (T.getD 23 undef) (T.getD 24 undef) (T.getD 25 undef) (T.getD 26 undef) (T.getD 27 undef) (T.getD 28 undef) (T.getD 29 undef) (T.getD 30 undef) (T.getD 31 undef) (T.getD 32 undef) (T.getD 33 undef) (T.getD 34 undef) (T.getD 35 undef) (T.getD 36 undef) (T.getD 37 undef) (T.getD 38 undef) (T.getD 39 undef) (T.getD 40 undef) (T.getD 41 undef) (T.getD 42 undef) (T.getD 43 undef) (T.getD 44 undef) (T.getD 45 undef) (T.getD 46 undef) (T.getD 47 undef) (T.getD 48 undef) (T.getD 49 undef) (T.getD 50 undef) (T.getD 51 undef) (T.getD 52 undef) (T.getD 53 undef) (T.getD 54 undef) (T.getD 55 undef) (T.getD 56 undef) (T.getD 57 undef) (T.getD 58 undef) (T.getD 59 undef) (T.getD 60 undef) (T.getD 61 undef) (T.getD 62 undef) (T.getD 63 undef) (T.getD 64 undef) (T.getD 65 undef) (T.getD 66 undef) (T.getD 67 undef) (T.getD 68 undef) (T.getD 69 undef) (T.getD 70 undef) (T.getD 71 undef) (T.getD 72 undef) (T.getD 73 undef) (T.getD 74 undef) (T.getD 75 undef) (T.getD 76 undef) (T.getD 77 undef) (T.getD 78 undef) (T.getD 79 undef) (T.getD 80 undef) (T.getD 81 undef) (T.getD 82 undef) (T.getD 83 undef) (T.getD 84 undef) (T.getD 85 undef) (T.getD 86 undef) (T.getD 87 undef) (T.getD 88 undef) (T.getD 89 undef) (T.getD 90 undef) (T.getD 91 undef) (T.getD 92 undef) (T.getD 93 undef) (T.getD 94 undef) (T.getD 95 undef) (T.getD 96 undef) (T.getD 97 undef) (T.getD 98 undef) (T.getD 99 undef) (T.getD 100 undef) (T.getD 101 undef) (T.getD 102 undef) (T.getD 103 undef) (T.getD 104 undef))
    intro e a' w' h
    cases e with
    | normal =>
      obtain ⟨T, h1, h2, rfl⟩ := h
      exact ⟨T, h1, h2, hM.on t d⟩
    | _ => exact h.elim
  refine way_silent (mildR _) rfl (fun _ => stepG_seq) ?_
  refine way_silent (mildR _) rfl (fun _ => stepG_region) ?_
  have e9 : T.getD 9 undef = .string (strB (planW N (es.map writW))) := getD_of hT.t9
  have eT := arr105 hT.size
  rw [e9] at eT
  generalize hs : strB (planW N (es.map writW)) = s at hT eT ⊢
  have hlit := enter_lit s w (T.getD 0 undef) (T.getD 1 undef) (T.getD 2 undef) (T.getD 3 undef) (T.getD 4 undef) (T.getD 5 undef) (T.getD 6 undef) (T.getD 7 undef) (T.getD 8 undef) (T.getD 10 undef) (T.getD 11 undef) (T.getD 12 undef) (T.getD 13 undef) (T.getD 14 undef) (T.getD 15 undef) (T.getD 16 undef) (T.getD 17 undef) (T.getD 18 undef) (T.getD 19 undef) (T.getD 20 undef) (T.getD 21 undef) (T.getD 22 undef) (T.getD 23 undef) (T.getD 24 undef) (T.getD 25 undef) (T.getD 26 undef) (T.getD 27 undef) (T.getD 28 undef) (T.getD 29 undef) (T.getD 30 undef) (T.getD 31 undef) (T.getD 32 undef) (T.getD 33 undef) (T.getD 34 undef) (T.getD 35 undef) (T.getD 36 undef) (T.getD 37 undef) (T.getD 38 undef) (T.getD 39 undef) (T.getD 40 undef) (T.getD 41 undef) (T.getD 42 undef) (T.getD 43 undef) (T.getD 44 undef) (T.getD 45 undef) (T.getD 46 undef) (T.getD 47 undef) (T.getD 48 undef) (T.getD 49 undef) (T.getD 50 undef) (T.getD 51 undef) (T.getD 52 undef) (T.getD 53 undef) (T.getD 54 undef) (T.getD 55 undef) (T.getD 56 undef) (T.getD 57 undef) (T.getD 58 undef) (T.getD 59 undef) (T.getD 60 undef) (T.getD 61 undef) (T.getD 62 undef) (T.getD 63 undef) (T.getD 64 undef) (T.getD 65 undef) (T.getD 66 undef) (T.getD 67 undef) (T.getD 68 undef) (T.getD 69 undef) (T.getD 70 undef) (T.getD 71 undef) (T.getD 72 undef) (T.getD 73 undef) (T.getD 74 undef) (T.getD 75 undef) (T.getD 76 undef) (T.getD 77 undef) (T.getD 78 undef) (T.getD 79 undef) (T.getD 80 undef) (T.getD 81 undef) (T.getD 82 undef) (T.getD 83 undef) (T.getD 84 undef) (T.getD 85 undef) (T.getD 86 undef) (T.getD 87 undef) (T.getD 88 undef) (T.getD 89 undef) (T.getD 90 undef) (T.getD 91 undef) (T.getD 92 undef) (T.getD 93 undef) (T.getD 94 undef) (T.getD 95 undef) (T.getD 96 undef) (T.getD 97 undef) (T.getD 98 undef) (T.getD 99 undef) (T.getD 100 undef) (T.getD 101 undef) (T.getD 102 undef) (T.getD 103 undef) (T.getD 104 undef)
  rw [← eT] at hlit
  refine hlit.then (Rely.refl _) ?_
  rintro g w' ⟨rfl, hr⟩
  subst hs
  refine Co.Way.stop fun w1 h1 => ⟨T, N, es, rfl, hT, hM.keep (((Abv.refl _ w).rely hr fun _ h => h.elim).rely h1 fun _ h => h.elim)⟩

omit hcl hraw in
include hn1 hR hRl hRn hRb in
set_option maxRecDepth 100000 in
set_option maxHeartbeats 2000000 in
theorem round_rest_lit {N : Nat} {es : List Ent} {w : World} (hM : MB cl P n cp R AR cR w0 w w0.heap.size N es) {lo2 : Nat} {sv : Value} (hE2 : EntsAt w lo2 sv es) (s : ByteArray) (hs : strB (planW N (es.map writW)) = s) (x0 x2 x3 x4 x6 x8 x11 x12 x13 x14 x15 x16 x17 x18 x19 x20 x21 x22 x23 x24 x25 x26 x27 x28 x29 x30 x31 x32 x33 x34 x35 x36 x37 x38 x39 x40 x41 x42 x43 x44 x45 x46 x47 x48 x49 x50 x51 x52 x53 x54 x57 x58 x59 x60 x61 x62 x63 x64 x65 x66 x67 x68 x69 x70 x71 x72 x73 x74 x75 x76 x77 x78 x79 x80 x81 x82 x83 x84 x85 x86 x87 x88 x89 x90 x91 x92 x93 x94 x95 x96 x97 x98 x99 x100 x101 x102 x103 x104 : Value) :
    Co.Way Tryd.prog true (Rely None') (Guar None') (AtEnd' Tryd.prog fun v w' => v = .bool true ∧ Abv w0.heap.size w0 w') (G ((base 4).at ⟨List.toArray (x0 :: .int .i64 n1 :: x2 :: x3 :: x4 :: .pointer (some ⟨w0.heap.size + 1, 0, none⟩) :: x6 :: .pointer (some ⟨w0.heap.size + 2, 0, none⟩) :: x8 :: .string s :: .nilIface :: x11 :: x12 :: x13 :: x14 :: x15 :: x16 :: x17 :: x18 :: x19 :: x20 :: x21 :: x22 :: x23 :: x24 :: x25 :: x26 :: x27 :: x28 :: x29 :: x30 :: x31 :: x32 :: x33 :: x34 :: x35 :: x36 :: x37 :: x38 :: x39 :: x40 :: x41 :: x42 :: x43 :: x44 :: x45 :: x46 :: x47 :: x48 :: x49 :: x50 :: x51 :: x52 :: x53 :: x54 :: .string s :: .tuple #[.agg #[.int .i64 (N : Int), sv], .nilIface] :: x57 :: x58 :: x59 :: x60 :: x61 :: x62 :: x63 :: x64 :: x65 :: x66 :: x67 :: x68 :: x69 :: x70 :: x71 :: x72 :: x73 :: x74 :: x75 :: x76 :: x77 :: x78 :: x79 :: x80 :: x81 :: x82 :: x83 :: x84 :: x85 :: x86 :: x87 :: x88 :: x89 :: x90 :: x91 :: x92 :: x93 :: x94 :: x95 :: x96 :: x97 :: x98 :: x99 :: x100 :: x101 :: x102 :: x103 :: x104 :: []), []⟩ [.inRegion ops9Ro [2, 3, 4, 5, 6, 7], .code cF]) []) w := by
  refine way_pure' (mildR _) ⟨List.toArray (x0 :: .int .i64 n1 :: x2 :: x3 :: x4 :: .pointer (some ⟨w0.heap.size + 1, 0, none⟩) :: x6 :: .pointer (some ⟨w0.heap.size + 2, 0, none⟩) :: x8 :: .string s :: .nilIface :: x11 :: x12 :: x13 :: x14 :: x15 :: x16 :: x17 :: x18 :: x19 :: x20 :: x21 :: x22 :: x23 :: x24 :: x25 :: x26 :: x27 :: x28 :: x29 :: x30 :: x31 :: x32 :: x33 :: x34 :: x35 :: x36 :: x37 :: x38 :: x39 :: x40 :: x41 :: x42 :: x43 :: x44 :: x45 :: x46 :: x47 :: x48 :: x49 :: x50 :: x51 :: x52 :: x53 :: .tuple #[.agg #[.int .i64 (N : Int), sv], .nilIface] :: .string s :: .tuple #[.agg #[.int .i64 (N : Int), sv], .nilIface] :: x57 :: x58 :: x59 :: x60 :: x61 :: x62 :: x63 :: x64 :: x65 :: x66 :: x67 :: x68 :: x69 :: x70 :: x71 :: x72 :: x73 :: x74 :: x75 :: x76 :: x77 :: x78 :: x79 :: x80 :: x81 :: x82 :: x83 :: x84 :: x85 :: x86 :: x87 :: x88 :: x89 :: x90 :: x91 :: x92 :: x93 :: x94 :: x95 :: x96 :: x97 :: x98 :: x99 :: x100 :: x101 :: x102 :: x103 :: x104 :: []), []⟩ rfl rfl (by decide) (fun _ _ => rfl) rfl ?_
  refine way_pure' (mildR _) ⟨List.toArray (x0 :: .int .i64 n1 :: x2 :: x3 :: x4 :: .pointer (some ⟨w0.heap.size + 1, 0, none⟩) :: x6 :: .pointer (some ⟨w0.heap.size + 2, 0, none⟩) :: x8 :: .string s :: .nilIface :: x11 :: x12 :: x13 :: x14 :: x15 :: x16 :: x17 :: x18 :: x19 :: x20 :: x21 :: x22 :: x23 :: x24 :: x25 :: x26 :: x27 :: x28 :: x29 :: x30 :: x31 :: x32 :: x33 :: x34 :: x35 :: x36 :: x37 :: x38 :: x39 :: x40 :: x41 :: x42 :: x43 :: x44 :: x45 :: x46 :: x47 :: x48 :: x49 :: x50 :: x51 :: x52 :: x53 :: .tuple #[.agg #[.int .i64 (N : Int), sv], .nilIface] :: .string s :: .tuple #[.agg #[.int .i64 (N : Int), sv], .nilIface] :: .agg #[.int .i64 (N : Int), sv] :: x58 :: x59 :: x60 :: x61 :: x62 :: x63 :: x64 :: x65 :: x66 :: x67 :: x68 :: x69 :: x70 :: x71 :: x72 :: x73 :: x74 :: x75 :: x76 :: x77 :: x78 :: x79 :: x80 :: x81 :: x82 :: x83 :: x84 :: x85 :: x86 :: x87 :: x88 :: x89 :: x90 :: x91 :: x92 :: x93 :: x94 :: x95 :: x96 :: x97 :: x98 :: x99 :: x100 :: x101 :: x102 :: x103 :: x104 :: []), []⟩ rfl rfl (by decide) (fun _ _ => rfl) rfl ?_
  refine way_pure' (mildR _) ⟨List.toArray (x0 :: .int .i64 n1 :: x2 :: x3 :: x4 :: .pointer (some ⟨w0.heap.size + 1, 0, none⟩) :: x6 :: .pointer (some ⟨w0.heap.size + 2, 0, none⟩) :: x8 :: .string s :: .nilIface :: x11 :: x12 :: x13 :: x14 :: x15 :: x16 :: x17 :: x18 :: x19 :: x20 :: x21 :: x22 :: x23 :: x24 :: x25 :: x26 :: x27 :: x28 :: x29 :: x30 :: x31 :: x32 :: x33 :: x34 :: x35 :: x36 :: x37 :: x38 :: x39 :: x40 :: x41 :: x42 :: x43 :: x44 :: x45 :: x46 :: x47 :: x48 :: x49 :: x50 :: x51 :: x52 :: x53 :: .tuple #[.agg #[.int .i64 (N : Int), sv], .nilIface] :: .string s :: .tuple #[.agg #[.int .i64 (N : Int), sv], .nilIface] :: .agg #[.int .i64 (N : Int), sv] :: .nilIface :: x59 :: x60 :: x61 :: x62 :: x63 :: x64 :: x65 :: x66 :: x67 :: x68 :: x69 :: x70 :: x71 :: x72 :: x73 :: x74 :: x75 :: x76 :: x77 :: x78 :: x79 :: x80 :: x81 :: x82 :: x83 :: x84 :: x85 :: x86 :: x87 :: x88 :: x89 :: x90 :: x91 :: x92 :: x93 :: x94 :: x95 :: x96 :: x97 :: x98 :: x99 :: x100 :: x101 :: x102 :: x103 :: x104 :: []), []⟩ rfl rfl (by decide) (fun _ _ => rfl) rfl ?_
  refine way_value' (.pointer (some ⟨w.heap.size, 0, none⟩)) ⟨List.toArray (x0 :: .int .i64 n1 :: x2 :: x3 :: x4 :: .pointer (some ⟨w0.heap.size + 1, 0, none⟩) :: x6 :: .pointer (some ⟨w0.heap.size + 2, 0, none⟩) :: x8 :: .string s :: .nilIface :: .pointer (some ⟨w.heap.size, 0, none⟩) :: x12 :: x13 :: x14 :: x15 :: x16 :: x17 :: x18 :: x19 :: x20 :: x21 :: x22 :: x23 :: x24 :: x25 :: x26 :: x27 :: x28 :: x29 :: x30 :: x31 :: x32 :: x33 :: x34 :: x35 :: x36 :: x37 :: x38 :: x39 :: x40 :: x41 :: x42 :: x43 :: x44 :: x45 :: x46 :: x47 :: x48 :: x49 :: x50 :: x51 :: x52 :: x53 :: .tuple #[.agg #[.int .i64 (N : Int), sv], .nilIface] :: .string s :: .tuple #[.agg #[.int .i64 (N : Int), sv], .nilIface] :: .agg #[.int .i64 (N : Int), sv] :: .nilIface :: x59 :: x60 :: x61 :: x62 :: x63 :: x64 :: x65 :: x66 :: x67 :: x68 :: x69 :: x70 :: x71 :: x72 :: x73 :: x74 :: x75 :: x76 :: x77 :: x78 :: x79 :: x80 :: x81 :: x82 :: x83 :: x84 :: x85 :: x86 :: x87 :: x88 :: x89 :: x90 :: x91 :: x92 :: x93 :: x94 :: x95 :: x96 :: x97 :: x98 :: x99 :: x100 :: x101 :: x102 :: x103 :: x104 :: []), []⟩ rfl rfl (by decide) rfl fun w1 h1 => ⟨w1.alloc (.cells #[.int .i64 0, .slice none 0 0] 31), #[], by rw [← h1.size]; exact exec_alloc planZ rfl w1 #[], ⟨fun _ h => h.elim, rfl, by simp, fun e he => by simp [Go.seen] at he⟩, ?_⟩
  have hA2 : Abv w.heap.size w (w1.alloc (.cells #[.int .i64 0, .slice none 0 0] 31)) := ((Abv.refl _ w).rely h1 fun _ h => h.elim).push (by rw [h1.size]; exact Nat.le_refl _) _
  have hpl2 : (w1.alloc (.cells #[.int .i64 0, .slice none 0 0] 31)).heap[w.heap.size]? = some (.cells #[.int .i64 0, .slice none 0 0] 31 (0, 0)) := by rw [← h1.size]; exact alloc_at rfl
  have hlt2 : w.heap.size < (w1.alloc (.cells #[.int .i64 0, .slice none 0 0] 31)).heap.size := (Array.getElem?_eq_some_iff.1 hpl2).1
  generalize w1.alloc (.cells #[.int .i64 0, .slice none 0 0] 31) = w2 at hA2 hpl2 hlt2 ⊢
  refine way_skip ready2 rfl rfl (by decide) rfl broughtRo ⟨List.toArray (x0 :: .int .i64 n1 :: x2 :: x3 :: x4 :: .pointer (some ⟨w0.heap.size + 1, 0, none⟩) :: x6 :: .pointer (some ⟨w0.heap.size + 2, 0, none⟩) :: x8 :: .string s :: .nilIface :: .pointer (some ⟨w.heap.size, 0, none⟩) :: x12 :: x13 :: x14 :: x15 :: x16 :: x17 :: x18 :: x19 :: x20 :: x21 :: x22 :: x23 :: x24 :: x25 :: x26 :: x27 :: x28 :: x29 :: x30 :: x31 :: x32 :: x33 :: x34 :: x35 :: x36 :: x37 :: x38 :: x39 :: x40 :: x41 :: x42 :: x43 :: x44 :: x45 :: x46 :: x47 :: x48 :: x49 :: x50 :: x51 :: x52 :: x53 :: .tuple #[.agg #[.int .i64 (N : Int), sv], .nilIface] :: .string s :: .tuple #[.agg #[.int .i64 (N : Int), sv], .nilIface] :: .agg #[.int .i64 (N : Int), sv] :: .nilIface :: x59 :: x60 :: x61 :: x62 :: x63 :: x64 :: x65 :: x66 :: x67 :: x68 :: x69 :: x70 :: x71 :: x72 :: x73 :: x74 :: x75 :: x76 :: x77 :: x78 :: x79 :: x80 :: x81 :: x82 :: x83 :: x84 :: x85 :: x86 :: x87 :: x88 :: x89 :: x90 :: x91 :: x92 :: x93 :: x94 :: x95 :: x96 :: x97 :: x98 :: x99 :: x100 :: x101 :: x102 :: x103 :: x104 :: []), []⟩ rfl fun w3 h3 => ?_
  obtain ⟨w4, hr4, hs4⟩ := run_store_block (P := Tryd.prog) (ρ := Act.eval ⟨List.toArray (x0 :: .int .i64 n1 :: x2 :: x3 :: x4 :: .pointer (some ⟨w0.heap.size + 1, 0, none⟩) :: x6 :: .pointer (some ⟨w0.heap.size + 2, 0, none⟩) :: x8 :: .string s :: .nilIface :: .pointer (some ⟨w.heap.size, 0, none⟩) :: x12 :: x13 :: x14 :: x15 :: x16 :: x17 :: x18 :: x19 :: x20 :: x21 :: x22 :: x23 :: x24 :: x25 :: x26 :: x27 :: x28 :: x29 :: x30 :: x31 :: x32 :: x33 :: x34 :: x35 :: x36 :: x37 :: x38 :: x39 :: x40 :: x41 :: x42 :: x43 :: x44 :: x45 :: x46 :: x47 :: x48 :: x49 :: x50 :: x51 :: x52 :: x53 :: .tuple #[.agg #[.int .i64 (N : Int), sv], .nilIface] :: .string s :: .tuple #[.agg #[.int .i64 (N : Int), sv], .nilIface] :: .agg #[.int .i64 (N : Int), sv] :: .nilIface :: x59 :: x60 :: x61 :: x62 :: x63 :: x64 :: x65 :: x66 :: x67 :: x68 :: x69 :: x70 :: x71 :: x72 :: x73 :: x74 :: x75 :: x76 :: x77 :: x78 :: x79 :: x80 :: x81 :: x82 :: x83 :: x84 :: x85 :: x86 :: x87 :: x88 :: x89 :: x90 :: x91 :: x92 :: x93 :: x94 :: x95 :: x96 :: x97 :: x98 :: x99 :: x100 :: x101 :: x102 :: x103 :: x104 :: []), []⟩) (o := storeRo) rfl (w := w3) (b := w.heap.size) (cells := #[.int .i64 (N : Int), sv]) (old := #[.int .i64 0, .slice none 0 0]) (t := 31) rfl rfl ((rely_get h3 _).trans hpl2) rfl (by kernel_rfl) (by obtain ⟨A, c, rfl, _⟩ := ents_in hE2; rfl)
  refine ⟨w4, hr4, ?_⟩
  have hA4 : Abv w.heap.size w w4 := (hA2.rely h3 fun _ h => h.elim).trans (.of_below (hs4.below (Nat.le_refl _)))
  have hM4 := hM.keep hA4
  have hE4 : EntsAt w4 lo2 sv es := hE2.keep fun k cur t _ hk _ => hA4.block k (Array.getElem?_eq_some_iff.1 hk).1
  have hpl4 := hs4.at_
  refine way_pure' (mildR _) ⟨List.toArray (x0 :: .int .i64 n1 :: x2 :: x3 :: x4 :: .pointer (some ⟨w0.heap.size + 1, 0, none⟩) :: x6 :: .pointer (some ⟨w0.heap.size + 2, 0, none⟩) :: x8 :: .string s :: .nilIface :: .pointer (some ⟨w.heap.size, 0, none⟩) :: x12 :: x13 :: x14 :: x15 :: x16 :: x17 :: x18 :: x19 :: x20 :: x21 :: x22 :: x23 :: x24 :: x25 :: x26 :: x27 :: x28 :: x29 :: x30 :: x31 :: x32 :: x33 :: x34 :: x35 :: x36 :: x37 :: x38 :: x39 :: x40 :: x41 :: x42 :: x43 :: x44 :: x45 :: x46 :: x47 :: x48 :: x49 :: x50 :: x51 :: x52 :: x53 :: .tuple #[.agg #[.int .i64 (N : Int), sv], .nilIface] :: .string s :: .tuple #[.agg #[.int .i64 (N : Int), sv], .nilIface] :: .agg #[.int .i64 (N : Int), sv] :: .nilIface :: x59 :: x60 :: x61 :: x62 :: x63 :: x64 :: x65 :: x66 :: x67 :: x68 :: x69 :: x70 :: x71 :: x72 :: x73 :: x74 :: x75 :: x76 :: x77 :: x78 :: x79 :: x80 :: x81 :: x82 :: x83 :: x84 :: x85 :: x86 :: x87 :: x88 :: x89 :: x90 :: x91 :: x92 :: x93 :: x94 :: x95 :: x96 :: x97 :: x98 :: x99 :: x100 :: x101 :: x102 :: x103 :: x104 :: []), []⟩ rfl rfl (by decide) (fun _ _ => rfl) rfl ?_
  refine way_silent (mildR _) rfl (fun _ => stepG_region_end) ?_
  subst hs
  refine piece_end (.bool true) cs_ok.2.2.2.2.2 broughtRo Tryd.func4 funcRo (fun w t d h => ⟨h.1, abv_on h.2 t d⟩) fun t d => ?_
  refine Code.wp_mono ?_ (pieceF cl n1 P n cp R AR cR w0 (w4.on t d) w0.heap.size N es rfl hn1 hR hRl hRn hRb (hM4.on t d) w.heap.size lo2 sv hpl4 (hE4.keep fun _ _ _ _ _ _ => rfl) m V o cap F C hm hv hp _ _ _ _ _ _ _ _ _ _ _ _ _ _ _ _ _ _ _ _ _ _ _ _ _ _ _ _ _ _ _ _ _ _ _ _ _ _ _ _ _ _ _ _ _ _ _ _ _ _ _ _ _ _ _ _ _ _ _ _ _ _ _ _ _ _ _ _ _ _ _ _ _ _ _ _ _ _ _ _ _ _ _ _ _ _ _ _ _ _ _ _ _ _ _ _ _ _ _)
  intro e a' w' h
  cases e with
  | ret =>
    obtain ⟨T', h1, h2, h6⟩ := h
    exact ⟨T', h1, fun w1 => by simp [results, Tryd.results4, h2], rfl, hM4.abv.trans (abv_under (Abv.of_below h6))⟩
  | _ => exact h.elim

include hn1 hR hRl hRn hRb in
omit hcl hraw in
theorem round_rest {T : Array Value} {N : Nat} {es : List Ent} (hT : TD T n1 w0.heap.size (strB (planW N (es.map writW)))) {w : World} (hM : MB cl P n cp R AR cR w0 w w0.heap.size N es) {lo2 : Nat} {sv : Value} (hE2 : EntsAt w lo2 sv es) :
    Co.Way Tryd.prog true (Rely None') (Guar None') (AtEnd' Tryd.prog fun v w' => v = .bool true ∧ Abv w0.heap.size w0 w') (G ((frRo T (strB (planW N (es.map writW)))).finish (.tuple #[.agg #[.int .i64 (N : Int), sv], .nilIface])) []) w := by
  have e1 : T.getD 1 undef = .int .i64 n1 := getD_of hT.t1
  have e5 : T.getD 5 undef = .pointer (some ⟨w0.heap.size + 1, 0, none⟩) := getD_of hT.t5
  have e7 : T.getD 7 undef = .pointer (some ⟨w0.heap.size + 2, 0, none⟩) := getD_of hT.t7
  have e9 : T.getD 9 undef = .string (strB (planW N (es.map writW))) := getD_of hT.t9
  have e10 : T.getD 10 undef = .nilIface := getD_of hT.t10
  have eT := arr105 hT.size
  rw [e1, e5, e7, e9, e10] at eT
  generalize hs : strB (planW N (es.map writW)) = s at eT ⊢
  rw [frame_lit s _ _ _ _ _ _ _ _ _ _ _ _ _ _ _ _ _ _ _ _ _ _ _ _ _ _ _ _ _ _ _ _ _ _ _ _ _ _ _ _ _ _ _ _ _ _ _ _ _ _ _ _ _ _ _ _ _ _ _ _ _ _ _ _ _ _ _ _ _ _ _ _ _ _ _ _ _ _ _ _ _ _ _ _ _ _ _ _ _ _ _ _ _ _ _ _ _ _ _ _ _ _ _ _ _ _ eT]
  exact round_rest_lit cl n1 P n cp R AR cR w0 hn1 hR hRl hRn hRb m V o cap F C hm hv hp hM hE2 s hs (T.getD 0 undef) (T.getD 2 undef) (T.getD 3 undef) (T.getD 4 undef) (T.getD 6 undef) (T.getD 8 undef) (T.getD 11 undef) (T.getD 12 undef) (T.getD 13 undef) (T.getD 14 undef) (T.getD 15 undef) (T.getD 16 undef) (T.getD 17 undef) (T.getD 18 undef) (T.getD 19 undef) (T.getD 20 undef) (T.getD 21 undef) (T.getD 22 undef) (T.getD 23 undef) (T.getD 24 undef) (T.getD 25 undef) (T.getD 26 undef) (T.getD 27 undef) (T.getD 28 undef) (T.getD 29 undef) (T.getD 30 undef) (T.getD 31 undef) (T.getD 32 undef) (T.getD 33 undef) (T.getD 34 undef) (T.getD 35 undef) (T.getD 36 undef) (T.getD 37 undef) (T.getD 38 undef) (T.getD 39 undef) (T.getD 40 undef) (T.getD 41 undef) (T.getD 42 undef) (T.getD 43 undef) (T.getD 44 undef) (T.getD 45 undef) (T.getD 46 undef) (T.getD 47 undef) (T.getD 48 undef) (T.getD 49 undef) (T.getD 50 undef) (T.getD 51 undef) (T.getD 52 undef) (T.getD 53 undef) (T.getD 54 undef) (T.getD 57 undef) (T.getD 58 undef) (T.getD 59 undef) (T.getD 60 undef) (T.getD 61 undef) (T.getD 62 undef) (T.getD 63 undef) (T.getD 64 undef) (T.getD 65 undef) (T.getD 66 undef) (T.getD 67 undef) (T.getD 68 undef) (T.getD 69 undef) (T.getD 70 undef) (T.getD 71 undef) (T.getD 72 undef) (T.getD 73 undef) (T.getD 74 undef) (T.getD 75 undef) (T.getD 76 undef) (T.getD 77 undef) (T.getD 78 undef) (T.getD 79 undef) (T.getD 80 undef) (T.getD 81 undef) (T.getD 82 undef) (T.getD 83 undef) (T.getD 84 undef) (T.getD 85 undef) (T.getD 86 undef) (T.getD 87 undef) (T.getD 88 undef) (T.getD 89 undef) (T.getD 90 undef) (T.getD 91 undef) (T.getD 92 undef) (T.getD 93 undef) (T.getD 94 undef) (T.getD 95 undef) (T.getD 96 undef) (T.getD 97 undef) (T.getD 98 undef) (T.getD 99 undef) (T.getD 100 undef) (T.getD 101 undef) (T.getD 102 undef) (T.getD 103 undef) (T.getD 104 undef)

include hn1 hR hRl hRn hRb hgs in
/-- ████ THE RUN ████ -/
theorem round_run : EvEnd Tryd.prog (solo (G (Frame.enter Tryd.prog 4 #[.agg #[.int .i64 cl, .slice P n cp], .int .i64 n1, .agg (rawArr R AR cR)] .normal) []) w0) #[] (fun v w' => v = .bool true ∧ Abv w0.heap.size w0 w') := by
  rw [startRo_eq]
  have h0 : Done Tryd.prog (fun a w => a = startRo cl n1 P n cp R AR cR ∧ w = w0) 1 (solo (startRo cl n1 P n cp R AR cR) w0) #[] := done_first ⟨rfl, rfl⟩
  refine (beside (P := Tryd.prog) (Stop := fun a w => ∃ T N es, a = GP (T0P (strB (planW N (es.map writW)))) [.code bodyP] [frRo T (strB (planW N (es.map writW)))] ∧ TD T n1 w0.heap.size (strB (planW N (es.map writW))) ∧ MB cl P n cp R AR cR w0 w w0.heap.size N es) ?_ (h0.mono ?_)).ends fun m1 t1 h1 => ?_
  · rintro g w ⟨T, N, es, rfl, _⟩; rfl
  · rintro a w ⟨rfl, rfl⟩
    exact round_entry cl n1 P n cp R AR cR w hcl hraw m V o cap F C hm hv hp
  obtain ⟨a, w1, ⟨T, N, es, rfl, hT, hM⟩, h1⟩ := h1.fix
  have hz := planW_len N hM.hN2 es hM.all
  have hl := hM.len
  refine (parse_plan w1 m V o cap F C (cell_abv hm hM.abv) (verbs_abv hv hM.abv) (Nat.le_trans hgs hM.abv.size) hM.hN1 hM.hN2 (ls := es.map writW) ?_ (by simp; omega) (by omega) h1).ends fun m2 t2 h2 => ended (h2.mono ?_)
  · intro x hx
    obtain ⟨e, he, rfl⟩ := List.mem_map.1 hx
    exact writW_no10 (hM.all e he)
  · rintro a w ⟨sv, rfl, hE, hA⟩
    rw [read_writ hM.all] at hE
    exact round_rest cl n1 P n cp R AR cR w0 hn1 hR hRl hRn hRb m V o cap F C hm hv hp hT (hM.keep hA) hE
end
end Go.Proofs.YtbjkljmhhpoooaaDoor
