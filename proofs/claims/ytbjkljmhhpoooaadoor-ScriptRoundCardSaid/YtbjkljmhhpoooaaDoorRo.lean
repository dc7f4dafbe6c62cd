/-
  PIECES OF A LAW's BODY IN COMPANY, one behind the other; jotterlaw15.ScriptRound: its first pieces.
-/
import Derived.Test.YtbjkljmhhpoooaaDoorEntL
import Derived.Test.YtbjkljmhhpoooaaDoorFixD
namespace Go.Proofs.YtbjkljmhhpoooaaDoor
open Go.Conc Go.Co Go.Proofs Go.RowKit
set_option linter.unusedVariables false

theorem veil_on {w v : World} (h : Veil None' w v) : w = v.on w.tape w.drawn := by
  have hh : w.heap = v.heap := Array.ext_getElem? fun k => h.same k fun e => e
  have ho := h.os
  have hp := h.output
  cases w
  cases v
  simp only at hh ho hp
  subst hh ho hp
  rfl

/-- A PIECE: a lone walk of a piece of code, beside leavers. -/
theorem piece {f : FuncId} {c : Code} {k : List Item} {cs : List Frame} {T : Array Value} {w : World} {Stop : Goroutine → World → Prop} (hok : okCode Tryd.prog S2 f c = true) (hD : S2.D f = []) (Φ : Array Value → World → Prop)
    (hΦ : ∀ T w t d, Φ T w → Φ T (w.on t d)) (h : ∀ t d, c.wp Tryd.prog (fun e a' w' => match e with | .normal => ∃ T', a' = ⟨T', []⟩ ∧ Φ T' w' | _ => False) ⟨T, []⟩ (w.on t d))
    (hn : ∀ T' w', Φ T' w' → Co.Way Tryd.prog true (Rely None') (Guar None') Stop (G ((base f).at ⟨T', []⟩ k) cs) w') :
    Co.Way Tryd.prog true (Rely None') (Guar None') Stop (G ((base f).at ⟨T, []⟩ (.code c :: k)) cs) w := by
  refine (lift_code (b := base f) (a := ⟨T, []⟩) (c := c) ready2 codes2 true k cs hok hD rfl (veil_none w) (Q := fun a' v' => ∃ T', a' = ⟨T', []⟩ ∧ Φ T' v') ?_ ?_).then (Rely.refl _) ?_
  · rintro a v t d ⟨T', h1, h2⟩
    exact ⟨T', h1, hΦ _ _ _ _ h2⟩
  · intro t d
    refine Code.wp_mono ?_ (h t d)
    intro e a' w' h
    cases e with
    | normal => exact ⟨rfl, h⟩
    | _ => exact h.elim
  · rintro g w' ⟨a', v', ⟨T', rfl, h2⟩, _, rfl, hv'⟩
    refine hn T' w' ?_
    rw [veil_on hv']
    exact hΦ _ _ _ _ h2
/-- The last piece: to the return of the main goroutine. -/
theorem piece_end {f : FuncId} {fn : Func} {c : Code} {T : Array Value} {w : World} {Post : Value → World → Prop} (v : Value) (hok : okCode Tryd.prog S2 f c = true) (hD : S2.D f = []) (hf : Tryd.prog.funcs[f]? = some fn) (hi : Tryd.prog.inits.idxOf? f = none)
    (hP : ∀ w t d, Post v w → Post v (w.on t d)) (h : ∀ t d, c.wp Tryd.prog (fun e a' w' => match e with | .ret => ∃ T', a' = ⟨T', []⟩ ∧ (∀ w1, (results fn T').run Tryd.prog w1 = .ok v w1) ∧ Post v w' | _ => False) ⟨T, []⟩ (w.on t d)) :
    Co.Way Tryd.prog true (Rely None') (Guar None') (AtEnd' Tryd.prog Post) (G ((base f).at ⟨T, []⟩ [.code c]) []) w := by
  refine (lift_body (b := base f) (a := ⟨T, []⟩) (c := c) ready2 codes2 true [] hok hD rfl (veil_none w) (Q := fun a' v' => ∃ T', a' = ⟨T', []⟩ ∧ (∀ w1, (results fn T').run Tryd.prog w1 = .ok v w1) ∧ Post v v') ?_ ?_).then (Rely.refl _) ?_
  · rintro a v' t d ⟨T', h1, h2, h3⟩
    exact ⟨T', h1, h2, hP _ _ _ h3⟩
  · intro t d
    refine Code.wp_mono ?_ (h t d)
    intro e a' w' h
    cases e with
    | ret => exact ⟨rfl, h⟩
    | _ => exact h.elim
  · rintro g w' ⟨a', todo, v', ⟨T', rfl, h2, h3⟩, _, rfl, hv'⟩
    refine Co.Way.stop fun w1 h1 => at_end (b := base f) (a := ⟨T', []⟩) (todo := todo) (fn := fn) (v := v) rfl rfl hf hi (h2 w1) ?_
    have e1 : w1 = v'.on w1.tape w1.drawn := by
      refine veil_on ⟨h1.size.trans hv'.size, fun k hk => (rely_get h1 k).trans (hv'.same k hk), masked_none _, fun _ h => h.elim, h1.os.trans hv'.os, h1.output.trans hv'.output⟩
    rw [e1]
    exact hP _ _ _ h3

/-! ### ScriptRound -/
noncomputable def bodyRo : Code := Tryd.f4.body.getD .skip
noncomputable def cA : Code := match bodyRo with | .seq c _ => c | _ => .skip
noncomputable def cB : Code := match bodyRo with | .seq _ (.seq c _) => c | _ => .skip
noncomputable def cC : Code := match bodyRo with | .seq _ (.seq _ (.seq c _)) => c | _ => .skip
noncomputable def cD : Code := match bodyRo with | .seq _ (.seq _ (.seq _ (.seq c _))) => c | _ => .skip
noncomputable def cE : Code := match bodyRo with | .seq _ (.seq _ (.seq _ (.seq _ (.seq c _)))) => c | _ => .skip
noncomputable def ops9Ro : Array Oper := match bodyRo with | .seq _ (.seq _ (.seq _ (.seq _ (.seq _ (.seq (.region _ ops _) _))))) => ops | _ => #[]
noncomputable def cF : Code := match bodyRo with | .seq _ (.seq _ (.seq _ (.seq _ (.seq _ (.seq _ c))))) => c | _ => .skip
theorem cs_ok : okCode Tryd.prog S2 4 cA = true ∧ okCode Tryd.prog S2 4 cB = true ∧ okCode Tryd.prog S2 4 cC = true ∧ okCode Tryd.prog S2 4 cD = true ∧ okCode Tryd.prog S2 4 cE = true ∧ okCode Tryd.prog S2 4 cF = true := ⟨by kernel_rfl, by kernel_rfl, by kernel_rfl, by kernel_rfl, by kernel_rfl, by kernel_rfl⟩
theorem broughtRo : S2.D 4 = [] := by kernel_rfl

/-- any entries, as they are read -/
def RawsIn (w : World) (P : Option Addr) (n : Nat) : Prop := n = 0 ∨ ∃ b o, P = some ⟨b, o, none⟩ ∧ b < w.heap.size ∧ ∀ i, i < n → ∃ R A cap, RawE.Ok R ∧ R.bs.length ≤ cap ∧ (A = none → cap = 0) ∧ BytesRd w A R.bs ∧ w.rangeAt b (o + i * 8) (rawArr R A cap).toList
theorem RawsIn.below {w w' : World} {P : Option Addr} {n : Nat} (h : RawsIn w P n) (hb : Below w.heap.size w w') : RawsIn w' P n := by
  rcases h with h | ⟨b, o, h1, h2, h3⟩
  · exact .inl h
  · refine .inr ⟨b, o, h1, Nat.lt_of_lt_of_le h2 hb.size, fun i hi => ?_⟩
    obtain ⟨R, A, cap, k1, k2, k3, k4, k5⟩ := h3 i hi
    exact ⟨R, A, cap, k1, k2, k3, bytesRd_below k4 hb, range_below k5 h2 hb⟩

/-- the fold by which a row of one entry is laid -/
theorem fold_ent (E : Ent) (A : Option Addr) (c : Nat) (z0 z1 z2 z3 z4 z5 z6 z7 : Value) : Array.foldl (fun (cs : Array Value) (x : Value × Nat) => cs.setIfInBounds x.snd x.fst) #[z0, z1, z2, z3, z4, z5, z6, z7] (entArr E A c).zipIdx 0 (entArr E A c).size = entArr E A c := by
  unfold entArr
  simp

structure TA (T : Array Value) (n1 : Int) (n0 : Nat) : Prop where
  size : T.size = 105
  t1 : T[1]? = some (.int .i64 n1)
  t3 : T[3]? = some (.pointer (some ⟨n0, 0, none⟩))
  t5 : T[5]? = some (.pointer (some ⟨n0 + 1, 0, none⟩))
structure TB (T : Array Value) (n1 : Int) (n0 : Nat) : Prop where
  size : T.size = 105
  t1 : T[1]? = some (.int .i64 n1)
  t3 : T[3]? = some (.pointer (some ⟨n0, 0, none⟩))
  t5 : T[5]? = some (.pointer (some ⟨n0 + 1, 0, none⟩))
  t7 : T[7]? = some (.pointer (some ⟨n0 + 2, 0, none⟩))
structure TD (T : Array Value) (n1 : Int) (n0 : Nat) (s : ByteArray) : Prop where
  size : T.size = 105
  t1 : T[1]? = some (.int .i64 n1)
  t5 : T[5]? = some (.pointer (some ⟨n0 + 1, 0, none⟩))
  t7 : T[7]? = some (.pointer (some ⟨n0 + 2, 0, none⟩))
  t9 : T[9]? = some (.string s)
  t10 : T[10]? = some .nilIface
/-- the boxes of the arguments -/
structure MA (cl : Int) (P : Option Addr) (n cp : Nat) (R : RawE) (AR : Option Addr) (cR : Nat) (w0 w : World) (n0 : Nat) : Prop where
  hp : w.heap[n0]? = some (.cells #[.int .i64 cl, .slice P n cp] 31 (0, 0))
  he : w.heap[n0 + 1]? = some (.cells (rawArr R AR cR) 25 (0, 0))
  size : w.heap.size = n0 + 2
  abv : Abv n0 w0 w
/-- .. and the plan that is made -/
structure MB (cl : Int) (P : Option Addr) (n cp : Nat) (R : RawE) (AR : Option Addr) (cR : Nat) (w0 w : World) (n0 N : Nat) (es : List Ent) : Prop where
  he : w.heap[n0 + 1]? = some (.cells (rawArr R AR cR) 25 (0, 0))
  hp : w.heap[n0]? = some (.cells #[.int .i64 cl, .slice P n cp] 31 (0, 0))
  hN1 : 1 ≤ N
  hN2 : N ≤ 64
  all : ∀ e ∈ es, Meant e
  len : es.length ≤ 450
  hq : ∃ sv, w.heap[n0 + 2]? = some (.cells #[.int .i64 (N : Int), sv] 31 (0, 0)) ∧ EntsAt w (n0 + 3) sv es
  size : n0 + 3 ≤ w.heap.size
  abv : Abv n0 w0 w
section
variable (cl n1 : Int) (P : Option Addr) (n cp : Nat) (R : RawE) (AR : Option Addr) (cR : Nat)

set_option maxRecDepth 100000 in
set_option maxHeartbeats 2000000 in
theorem pieceA (w0 w : World) (n0 : Nat) (hn : w.heap.size = n0) (h0 : Abv n0 w0 w) : cA.wp Tryd.prog (fun e a' w' => match e with | .normal => ∃ T, a' = ⟨T, []⟩ ∧ TA T n1 n0 ∧ MA cl P n cp R AR cR w0 w' n0 | _ => False) ⟨List.toArray (.agg #[.int .i64 cl, .slice P n cp] :: .int .i64 n1 :: .agg (rawArr R AR cR) :: undef :: undef :: undef :: undef :: undef :: undef :: undef :: undef :: undef :: undef :: undef :: undef :: undef :: undef :: undef :: undef :: undef :: undef :: undef :: undef :: undef :: undef :: undef :: undef :: undef :: undef :: undef :: undef :: undef :: undef :: undef :: undef :: undef :: undef :: undef :: undef :: undef :: undef :: undef :: undef :: undef :: undef :: undef :: undef :: undef :: undef :: undef :: undef :: undef :: undef :: undef :: undef :: undef :: undef :: undef :: undef :: undef :: undef :: undef :: undef :: undef :: undef :: undef :: undef :: undef :: undef :: undef :: undef :: undef :: undef :: undef :: undef :: undef :: undef :: undef :: undef :: undef :: undef :: undef :: undef :: undef :: undef :: undef :: undef :: undef :: undef :: undef :: undef :: undef :: undef :: undef :: undef :: undef :: undef :: undef :: undef :: undef :: undef :: undef :: undef :: undef :: undef :: []), []⟩ w := by
  subst hn
  simp only [cA, bodyRo, Tryd.f4, Option.getD_some]
  unfold rawArr
  have H0 := Lib.hid h0
  clear h0
  go_wp2_with fail
  exact ⟨⟨rfl, rfl, rfl, rfl⟩, ⟨alloc_old (alloc_at rfl), alloc_at (by simp), by simp, (H0.out.push (Nat.le_refl _) _).push (by simp) _⟩⟩

set_option maxRecDepth 100000 in
set_option maxHeartbeats 2000000 in
theorem pieceB (w0 w : World) (n0 : Nat) (hcl : i64 cl) (hM : MA cl P n cp R AR cR w0 w n0) (x0 x2 x4 x6 x7 x8 x9 x10 x11 x12 x13 x14 x15 x16 x17 x18 x19 x20 x21 x22 x23 x24 x25 x26 x27 x28 x29 x30 x31 x32 x33 x34 x35 x36 x37 x38 x39 x40 x41 x42 x43 x44 x45 x46 x47 x48 x49 x50 x51 x52 x53 x54 x55 x56 x57 x58 x59 x60 x61 x62 x63 x64 x65 x66 x67 x68 x69 x70 x71 x72 x73 x74 x75 x76 x77 x78 x79 x80 x81 x82 x83 x84 x85 x86 x87 x88 x89 x90 x91 x92 x93 x94 x95 x96 x97 x98 x99 x100 x101 x102 x103 x104 : Value) :
    cB.wp Tryd.prog (fun e a' w' => match e with | .normal => ∃ T, a' = ⟨T, []⟩ ∧ TB T n1 n0 ∧ ∃ N, MB cl P n cp R AR cR w0 w' n0 N [] | _ => False) ⟨List.toArray (x0 :: .int .i64 n1 :: x2 :: .pointer (some ⟨n0, 0, none⟩) :: x4 :: .pointer (some ⟨n0 + 1, 0, none⟩) :: x6 :: x7 :: x8 :: x9 :: x10 :: x11 :: x12 :: x13 :: x14 :: x15 :: x16 :: x17 :: x18 :: x19 :: x20 :: x21 :: x22 :: x23 :: x24 :: x25 :: x26 :: x27 :: x28 :: x29 :: x30 :: x31 :: x32 :: x33 :: x34 :: x35 :: x36 :: x37 :: x38 :: x39 :: x40 :: x41 :: x42 :: x43 :: x44 :: x45 :: x46 :: x47 :: x48 :: x49 :: x50 :: x51 :: x52 :: x53 :: x54 :: x55 :: x56 :: x57 :: x58 :: x59 :: x60 :: x61 :: x62 :: x63 :: x64 :: x65 :: x66 :: x67 :: x68 :: x69 :: x70 :: x71 :: x72 :: x73 :: x74 :: x75 :: x76 :: x77 :: x78 :: x79 :: x80 :: x81 :: x82 :: x83 :: x84 :: x85 :: x86 :: x87 :: x88 :: x89 :: x90 :: x91 :: x92 :: x93 :: x94 :: x95 :: x96 :: x97 :: x98 :: x99 :: x100 :: x101 :: x102 :: x103 :: x104 :: []), []⟩ w := by
  simp only [cB, bodyRo, Tryd.f4, Option.getD_some]
  have hc0 := cell_of_heap (i := 0) hM.hp (v := .int .i64 cl) rfl
  have hsz := hM.size
  have HM := Lib.hid hM
  clear hM
  go_wp2_with fail
  refine (within_nat cl 1 64 hcl (by decide) (by decide) _).mono ?_
  rintro e' w' ⟨N, rfl, h1, h2, rfl⟩
  go_wp2_with fail
  have hz2 := HM.out.size
  refine ⟨⟨rfl, rfl, rfl, rfl, by rw [← hz2]; rfl⟩, N, alloc_old HM.out.he, alloc_old HM.out.hp, h1, h2, fun e he => (by cases he), Nat.zero_le _, ⟨_, by rw [← hz2]; exact alloc_at rfl, EntsAt.nil _ _⟩, by simp; omega, HM.out.abv.push (by rw [hz2]; omega) _⟩

set_option maxRecDepth 100000 in
set_option maxHeartbeats 4000000 in
theorem pieceC (w0 w : World) (n0 N : Nat) (hn0 : w0.heap.size = n0) (hraw : RawsIn w0 P n) (hM : MB cl P n cp R AR cR w0 w n0 N []) (x0 x2 x4 x6 x8 x9 x10 x11 x12 x13 x14 x15 x16 x17 x18 x19 x20 x21 x22 x23 x24 x25 x26 x27 x28 x29 x30 x31 x32 x33 x34 x35 x36 x37 x38 x39 x40 x41 x42 x43 x44 x45 x46 x47 x48 x49 x50 x51 x52 x53 x54 x55 x56 x57 x58 x59 x60 x61 x62 x63 x64 x65 x66 x67 x68 x69 x70 x71 x72 x73 x74 x75 x76 x77 x78 x79 x80 x81 x82 x83 x84 x85 x86 x87 x88 x89 x90 x91 x92 x93 x94 x95 x96 x97 x98 x99 x100 x101 x102 x103 x104 : Value) :
    cC.wp Tryd.prog (fun e a' w' => match e with | .normal => ∃ T, a' = ⟨T, []⟩ ∧ TB T n1 n0 ∧ ∃ es, MB cl P n cp R AR cR w0 w' n0 N es | _ => False) ⟨List.toArray (x0 :: .int .i64 n1 :: x2 :: .pointer (some ⟨n0, 0, none⟩) :: x4 :: .pointer (some ⟨n0 + 1, 0, none⟩) :: x6 :: .pointer (some ⟨n0 + 2, 0, none⟩) :: x8 :: x9 :: x10 :: x11 :: x12 :: x13 :: x14 :: x15 :: x16 :: x17 :: x18 :: x19 :: x20 :: x21 :: x22 :: x23 :: x24 :: x25 :: x26 :: x27 :: x28 :: x29 :: x30 :: x31 :: x32 :: x33 :: x34 :: x35 :: x36 :: x37 :: x38 :: x39 :: x40 :: x41 :: x42 :: x43 :: x44 :: x45 :: x46 :: x47 :: x48 :: x49 :: x50 :: x51 :: x52 :: x53 :: x54 :: x55 :: x56 :: x57 :: x58 :: x59 :: x60 :: x61 :: x62 :: x63 :: x64 :: x65 :: x66 :: x67 :: x68 :: x69 :: x70 :: x71 :: x72 :: x73 :: x74 :: x75 :: x76 :: x77 :: x78 :: x79 :: x80 :: x81 :: x82 :: x83 :: x84 :: x85 :: x86 :: x87 :: x88 :: x89 :: x90 :: x91 :: x92 :: x93 :: x94 :: x95 :: x96 :: x97 :: x98 :: x99 :: x100 :: x101 :: x102 :: x103 :: x104 :: []), []⟩ w := by
  simp only [cC, bodyRo, Tryd.f4, Option.getD_some]
  have HM := Lib.hid hM
  have HRAW := Lib.hid hraw
  clear hM hraw
  go_wp2_with fail
  go_loopw [8] (fun vi wr => ∃ i : Nat, i ≤ n ∧ i ≤ 450 ∧ vi = .int .i64 (i : Int) ∧ ∃ es, es.length = i ∧ MB cl P n cp R AR cR w0 wr n0 N es) (fun vi _ => 450 - (intOf vi).toNat)
  case atStart => exact ⟨0, Nat.zero_le _, Nat.zero_le _, rfl, [], rfl, HM.out⟩
  case round =>
    obtain ⟨i, hi, hi2, rfl, es, hes, hm⟩ := hrel
    have hc1 := cell_of_heap (i := 1) hm.hp (v := .slice P n cp) rfl
    have HMR := Lib.hid hm
    by_cases hlt : i < n
    · have hlt' : (i : Int) < (n : Int) := by omega
      by_cases h450 : i < 450
      · have h450' : (i : Int) < 450 := by omega
        obtain ⟨sv, hq, hE⟩ := hm.hq
        obtain ⟨b, o, R0, A0, k0, rfl, hR0, hb0, hb1, hb2, hbl, hra⟩ : ∃ b o R0 A0 k0, P = some ⟨b, o, none⟩ ∧ RawE.Ok R0 ∧ R0.bs.length ≤ k0 ∧ (A0 = none → k0 = 0) ∧ BytesRd w0 A0 R0.bs ∧ b < w0.heap.size ∧ w0.rangeAt b (o + i * 8) (rawArr R0 A0 k0).toList := by
          rcases HRAW.out with h | ⟨b, o, h1, h2, h3⟩
          · omega
          · obtain ⟨R0, A0, k0, a1, a2, a3, a4, a5⟩ := h3 i hlt
            exact ⟨b, o, R0, A0, k0, h1, a1, a2, a3, a4, h2, a5⟩
        go_wp2_with fail
        clear hc1
        have hsz := hm.size
        have hbR : Below wr.heap.size wr wr.drew := (Below.refl _ _).drew
        obtain ⟨AQ, cq, rfl⟩ := hE.form
        have hle : es.length ≤ 449 := by omega
        have HES := Lib.hid hes
        clear hes
        have HQ := Lib.hid hq
        have HE := Lib.hid hE
        have hP1 : ∀ w', Below (n0 + 2) wr w' → w'.cell? ⟨n0, 1, none⟩ = some (.slice (some ⟨b, o, none⟩) n cp) := fun w' h => cell_of_heap ((h.block n0 (by omega)).trans HMR.out.hp) rfl
        have hR1 : ∀ w', Below (n0 + 2) wr w' → w'.rangeAt b (o + i * 8) (rawArr R0 A0 k0).toList := fun w' h j v hv => by
          have e1 := hra j v hv
          rw [World.cell?_of_block (w := wr) (h.block b (by omega))]
          rw [World.cell?_of_block (w := w0) (HMR.out.abv.block b (by omega))]
          exact e1
        have hent : Calls Tryd.prog 13 #[.agg (rawArr R0 A0 k0)] wr.drew fun e w' => ∃ E, Meant E ∧ ∃ A4 c4, e = .returned (.agg (entArr E A4 c4)) ∧ w'.ownsRow (n0 + 3) 5 1 (.slice A4 E.by_.length c4) E.by_.length (u8s E.by_) ∧ Below wr.heap.size wr w' := by
          have hby : BytesRd wr.drew A0 R0.bs := by
            rcases hb2 with h | ⟨ad, h1, h3⟩
            · exact .inl h
            · refine .inr ⟨ad, h1, fun j hj => ?_⟩
              show wr.cell? _ = _
              rw [World.cell?_of_block (w := w0) (HMR.out.abv.block _ (by rw [← hn0]; exact World.block_lt_of_cell? w0 _ (h3 j hj)))]
              exact h3 j hj
          refine (law_entry R0 hR0 A0 k0 wr.drew hb0 hb1 hby).mono ?_
          rintro e w' ⟨E, hE1, h⟩
          obtain ⟨A4, c4, h1, h2, h3⟩ := h.lay
          exact ⟨E, hE1, A4, c4, h1, own_mono h2 hsz, ⟨h3.os, h3.tape, h3.output, h3.size, h3.block⟩⟩
        have HENT := Lib.hid hent
        have HP1 := Lib.hid hP1
        have HR1 := Lib.hid hR1
        have hq1 : wr.drew.cell? ⟨n0 + 2, 1, none⟩ = some (.slice AQ es.length cq) := cell_of_heap (w := wr.drew) hq rfl
        have HQ1 := Lib.hid hq1
        clear hent hP1 hR1 hra hq hE hm hq1 hb2
        refine wp_region_held_drew (S := fun w' => Below (n0 + 2) wr w') (by kernel_rfl) ((Below.refl _ _).drew) (fun hHeld => ?_)
        · skip
          refine wpAnyH_take (i := 0) (v := .pointer (some ⟨n0 + 2, 1, none⟩)) rfl (by kernel_rfl) (by kernel_rfl) (by kernel_rfl) (fun _ _ _ h => h) (Or.inl ⟨by rfl, fun w' hw' => ?_⟩) (by assumption) ?_
          · go_simp
          change wpAnyH _ _ _ _ _ _ _ ⟨List.toArray (_ :: _ :: _ :: _ :: _ :: _ :: _ :: _ :: _ :: _ :: _ :: _ :: _ :: _ :: _ :: _ :: _ :: _ :: _ :: _ :: _ :: _ :: _ :: _ :: _ :: _ :: _ :: _ :: _ :: _ :: _ :: .pointer (some ⟨n0 + 2, 1, none⟩) :: _ :: _ :: _ :: _ :: _ :: _ :: _ :: _ :: _ :: _ :: _ :: _ :: _ :: _ :: _ :: _ :: _ :: _ :: _ :: _ :: _ :: _ :: _ :: _ :: _ :: _ :: _ :: _ :: _ :: _ :: _ :: _ :: _ :: _ :: _ :: _ :: _ :: _ :: _ :: _ :: _ :: _ :: _ :: _ :: _ :: _ :: _ :: _ :: _ :: _ :: _ :: _ :: _ :: _ :: _ :: _ :: _ :: _ :: _ :: _ :: _ :: _ :: _ :: _ :: _ :: _ :: _ :: _ :: _ :: _ :: _ :: _ :: _ :: []), []⟩ _
          refine wpAnyH_take (i := 2) (v := .pointer (some ⟨n0, 1, none⟩)) rfl (by kernel_rfl) (by kernel_rfl) (by kernel_rfl) (fun _ _ _ h => h) (Or.inl ⟨by rfl, fun w' hw' => ?_⟩) (by assumption) ?_
          · go_simp
          change wpAnyH _ _ _ _ _ _ _ ⟨List.toArray (_ :: _ :: _ :: _ :: _ :: _ :: _ :: _ :: _ :: _ :: _ :: _ :: _ :: _ :: _ :: _ :: _ :: _ :: _ :: _ :: _ :: _ :: _ :: _ :: _ :: _ :: _ :: _ :: _ :: _ :: _ :: .pointer (some ⟨n0 + 2, 1, none⟩) :: _ :: .pointer (some ⟨n0, 1, none⟩) :: _ :: _ :: _ :: _ :: _ :: _ :: _ :: _ :: _ :: _ :: _ :: _ :: _ :: _ :: _ :: _ :: _ :: _ :: _ :: _ :: _ :: _ :: _ :: _ :: _ :: _ :: _ :: _ :: _ :: _ :: _ :: _ :: _ :: _ :: _ :: _ :: _ :: _ :: _ :: _ :: _ :: _ :: _ :: _ :: _ :: _ :: _ :: _ :: _ :: _ :: _ :: _ :: _ :: _ :: _ :: _ :: _ :: _ :: _ :: _ :: _ :: _ :: _ :: _ :: _ :: _ :: _ :: _ :: _ :: _ :: _ :: []), []⟩ _
          refine wpAnyH_take (i := 4) (v := .int .i64 (i : Int)) rfl (by kernel_rfl) (by kernel_rfl) (by kernel_rfl) (fun _ _ _ h => h) (Or.inl ⟨by rfl, fun w' hw' => ?_⟩) (by assumption) ?_
          · go_simp
          change wpAnyH _ _ _ _ _ _ _ ⟨List.toArray (_ :: _ :: _ :: _ :: _ :: _ :: _ :: _ :: _ :: _ :: _ :: _ :: _ :: _ :: _ :: _ :: _ :: _ :: _ :: _ :: _ :: _ :: _ :: _ :: _ :: _ :: _ :: _ :: _ :: _ :: _ :: .pointer (some ⟨n0 + 2, 1, none⟩) :: _ :: .pointer (some ⟨n0, 1, none⟩) :: _ :: .int .i64 (i : Int) :: _ :: _ :: _ :: _ :: _ :: _ :: _ :: _ :: _ :: _ :: _ :: _ :: _ :: _ :: _ :: _ :: _ :: _ :: _ :: _ :: _ :: _ :: _ :: _ :: _ :: _ :: _ :: _ :: _ :: _ :: _ :: _ :: _ :: _ :: _ :: _ :: _ :: _ :: _ :: _ :: _ :: _ :: _ :: _ :: _ :: _ :: _ :: _ :: _ :: _ :: _ :: _ :: _ :: _ :: _ :: _ :: _ :: _ :: _ :: _ :: _ :: _ :: _ :: _ :: _ :: _ :: _ :: _ :: _ :: []), []⟩ _
          refine wpAnyH_take (i := 3) (v := .slice (some ⟨b, o, none⟩) n cp) rfl (by kernel_rfl) (by kernel_rfl) (by kernel_rfl) (fun _ _ _ h => h) (Or.inl ⟨by rfl, fun w' hw' => ?_⟩) (by assumption) ?_
          · have hx := HP1.out w' hw'; clear hHeld; go_simp
          change wpAnyH _ _ _ _ _ _ _ ⟨List.toArray (_ :: _ :: _ :: _ :: _ :: _ :: _ :: _ :: _ :: _ :: _ :: _ :: _ :: _ :: _ :: _ :: _ :: _ :: _ :: _ :: _ :: _ :: _ :: _ :: _ :: _ :: _ :: _ :: _ :: _ :: _ :: .pointer (some ⟨n0 + 2, 1, none⟩) :: _ :: .pointer (some ⟨n0, 1, none⟩) :: .slice (some ⟨b, o, none⟩) n cp :: .int .i64 (i : Int) :: _ :: _ :: _ :: _ :: _ :: _ :: _ :: _ :: _ :: _ :: _ :: _ :: _ :: _ :: _ :: _ :: _ :: _ :: _ :: _ :: _ :: _ :: _ :: _ :: _ :: _ :: _ :: _ :: _ :: _ :: _ :: _ :: _ :: _ :: _ :: _ :: _ :: _ :: _ :: _ :: _ :: _ :: _ :: _ :: _ :: _ :: _ :: _ :: _ :: _ :: _ :: _ :: _ :: _ :: _ :: _ :: _ :: _ :: _ :: _ :: _ :: _ :: _ :: _ :: _ :: _ :: _ :: _ :: _ :: []), []⟩ _
          refine wpAnyH_take (i := 5) (v := .pointer (some ⟨b, o + i * 8, none⟩)) rfl (by kernel_rfl) (by kernel_rfl) (by kernel_rfl) (fun _ _ _ h => h) (Or.inl ⟨by rfl, fun w' hw' => ?_⟩) (by assumption) ?_
          · go_simp
          change wpAnyH _ _ _ _ _ _ _ ⟨List.toArray (_ :: _ :: _ :: _ :: _ :: _ :: _ :: _ :: _ :: _ :: _ :: _ :: _ :: _ :: _ :: _ :: _ :: _ :: _ :: _ :: _ :: _ :: _ :: _ :: _ :: _ :: _ :: _ :: _ :: _ :: _ :: .pointer (some ⟨n0 + 2, 1, none⟩) :: _ :: .pointer (some ⟨n0, 1, none⟩) :: .slice (some ⟨b, o, none⟩) n cp :: .int .i64 (i : Int) :: .pointer (some ⟨b, o + i * 8, none⟩) :: _ :: _ :: _ :: _ :: _ :: _ :: _ :: _ :: _ :: _ :: _ :: _ :: _ :: _ :: _ :: _ :: _ :: _ :: _ :: _ :: _ :: _ :: _ :: _ :: _ :: _ :: _ :: _ :: _ :: _ :: _ :: _ :: _ :: _ :: _ :: _ :: _ :: _ :: _ :: _ :: _ :: _ :: _ :: _ :: _ :: _ :: _ :: _ :: _ :: _ :: _ :: _ :: _ :: _ :: _ :: _ :: _ :: _ :: _ :: _ :: _ :: _ :: _ :: _ :: _ :: _ :: _ :: _ :: []), []⟩ _
          refine wpAnyH_take (i := 6) (v := .agg (rawArr R0 A0 k0)) rfl (by kernel_rfl) (by kernel_rfl) (by kernel_rfl) (fun _ _ _ h => h) (Or.inl ⟨by rfl, fun w' hw' => ?_⟩) (by assumption) ?_
          · exact run_load_at rfl rfl (HR1.out w' hw') (by kernel_rfl) (by kernel_rfl)
          change wpAnyH _ _ _ _ _ _ _ ⟨List.toArray (_ :: _ :: _ :: _ :: _ :: _ :: _ :: _ :: _ :: _ :: _ :: _ :: _ :: _ :: _ :: _ :: _ :: _ :: _ :: _ :: _ :: _ :: _ :: _ :: _ :: _ :: _ :: _ :: _ :: _ :: _ :: .pointer (some ⟨n0 + 2, 1, none⟩) :: _ :: .pointer (some ⟨n0, 1, none⟩) :: .slice (some ⟨b, o, none⟩) n cp :: .int .i64 (i : Int) :: .pointer (some ⟨b, o + i * 8, none⟩) :: .agg (rawArr R0 A0 k0) :: _ :: _ :: _ :: _ :: _ :: _ :: _ :: _ :: _ :: _ :: _ :: _ :: _ :: _ :: _ :: _ :: _ :: _ :: _ :: _ :: _ :: _ :: _ :: _ :: _ :: _ :: _ :: _ :: _ :: _ :: _ :: _ :: _ :: _ :: _ :: _ :: _ :: _ :: _ :: _ :: _ :: _ :: _ :: _ :: _ :: _ :: _ :: _ :: _ :: _ :: _ :: _ :: _ :: _ :: _ :: _ :: _ :: _ :: _ :: _ :: _ :: _ :: _ :: _ :: _ :: _ :: _ :: []), []⟩ _
          refine wpAnyH_ready (rs := [1, 7]) (by kernel_rfl) (by simp) ?_
          refine AllReadyH.cons rfl (fun K hK => ?_) (AllReadyH.cons rfl (fun K hK => ?_) AllReadyH.nil)
          · have hx := HQ1.out
            clear hHeld
            go_simp
            refine hK.out _ _ (Below.refl _ _).drew (fun hHeld => ?_)
            clear hK K hx
            change wpAnyH _ _ _ _ _ _ _ ⟨List.toArray (_ :: _ :: _ :: _ :: _ :: _ :: _ :: _ :: _ :: _ :: _ :: _ :: _ :: _ :: _ :: _ :: _ :: _ :: _ :: _ :: _ :: _ :: _ :: _ :: _ :: _ :: _ :: _ :: _ :: _ :: _ :: .pointer (some ⟨n0 + 2, 1, none⟩) :: .slice AQ es.length cq :: .pointer (some ⟨n0, 1, none⟩) :: .slice (some ⟨b, o, none⟩) n cp :: .int .i64 (i : Int) :: .pointer (some ⟨b, o + i * 8, none⟩) :: .agg (rawArr R0 A0 k0) :: _ :: _ :: _ :: _ :: _ :: _ :: _ :: _ :: _ :: _ :: _ :: _ :: _ :: _ :: _ :: _ :: _ :: _ :: _ :: _ :: _ :: _ :: _ :: _ :: _ :: _ :: _ :: _ :: _ :: _ :: _ :: _ :: _ :: _ :: _ :: _ :: _ :: _ :: _ :: _ :: _ :: _ :: _ :: _ :: _ :: _ :: _ :: _ :: _ :: _ :: _ :: _ :: _ :: _ :: _ :: _ :: _ :: _ :: _ :: _ :: _ :: _ :: _ :: _ :: _ :: _ :: _ :: []), []⟩ _
            refine wpAnyH_ready (rs := [7]) (by kernel_rfl) (by simp) ?_
            refine AllReadyH.cons rfl (fun K hK => ?_) AllReadyH.nil
            clear hHeld
            go_simp
            refine HENT.out.mono ?_
            rintro e' w4 ⟨E, hE1, A4, c4, rfl, ho4, hb4⟩
            have hB4 : Below (n0 + 2) wr w4 := hb4.mono (by omega)
            have hq4 : w4.heap[n0 + 2]? = some (.cells #[.int .i64 (N : Int), .slice AQ es.length cq] 31 (0, 0)) := (hb4.block _ (by omega)).trans HQ.out
            have hqc4 := cell_of_heap (i := 1) hq4 (v := .slice AQ es.length cq) rfl
            refine hK.out _ _ hB4 (fun hHeld => ?_)
            clear hK K
            change wpAnyH _ _ _ _ _ _ _ ⟨List.toArray (_ :: _ :: _ :: _ :: _ :: _ :: _ :: _ :: _ :: _ :: _ :: _ :: _ :: _ :: _ :: _ :: _ :: _ :: _ :: _ :: _ :: _ :: _ :: _ :: _ :: _ :: _ :: _ :: _ :: _ :: _ :: .pointer (some ⟨n0 + 2, 1, none⟩) :: .slice AQ es.length cq :: .pointer (some ⟨n0, 1, none⟩) :: .slice (some ⟨b, o, none⟩) n cp :: .int .i64 (i : Int) :: .pointer (some ⟨b, o + i * 8, none⟩) :: .agg (rawArr R0 A0 k0) :: .agg (entArr E A4 c4) :: _ :: _ :: _ :: _ :: _ :: _ :: _ :: _ :: _ :: _ :: _ :: _ :: _ :: _ :: _ :: _ :: _ :: _ :: _ :: _ :: _ :: _ :: _ :: _ :: _ :: _ :: _ :: _ :: _ :: _ :: _ :: _ :: _ :: _ :: _ :: _ :: _ :: _ :: _ :: _ :: _ :: _ :: _ :: _ :: _ :: _ :: _ :: _ :: _ :: _ :: _ :: _ :: _ :: _ :: _ :: _ :: _ :: _ :: _ :: _ :: _ :: _ :: _ :: _ :: _ :: _ :: []), []⟩ _
            refine wpAnyH_ready (rs := [8]) (by kernel_rfl) (by simp) ?_
            refine AllReadyH.cons rfl (fun K hK => ?_) AllReadyH.nil
            clear hHeld
            go_simp
            simp only [fold_ent]
            refine hK.out _ (w4.alloc (.cells (entArr E A4 c4) 25)) (hB4.alloc (by have := hb4.size; omega) _) (fun hHeld => ?_)
            clear hK K
            change wpAnyH _ _ _ _ _ _ _ ⟨List.toArray (_ :: _ :: _ :: _ :: _ :: _ :: _ :: _ :: _ :: _ :: _ :: _ :: _ :: _ :: _ :: _ :: _ :: _ :: _ :: _ :: _ :: _ :: _ :: _ :: _ :: _ :: _ :: _ :: _ :: _ :: _ :: .pointer (some ⟨n0 + 2, 1, none⟩) :: .slice AQ es.length cq :: .pointer (some ⟨n0, 1, none⟩) :: .slice (some ⟨b, o, none⟩) n cp :: .int .i64 (i : Int) :: .pointer (some ⟨b, o + i * 8, none⟩) :: .agg (rawArr R0 A0 k0) :: .agg (entArr E A4 c4) :: .slice (some ⟨w4.heap.size, 0, none⟩) 1 1 :: _ :: _ :: _ :: _ :: _ :: _ :: _ :: _ :: _ :: _ :: _ :: _ :: _ :: _ :: _ :: _ :: _ :: _ :: _ :: _ :: _ :: _ :: _ :: _ :: _ :: _ :: _ :: _ :: _ :: _ :: _ :: _ :: _ :: _ :: _ :: _ :: _ :: _ :: _ :: _ :: _ :: _ :: _ :: _ :: _ :: _ :: _ :: _ :: _ :: _ :: _ :: _ :: _ :: _ :: _ :: _ :: _ :: _ :: _ :: _ :: _ :: _ :: _ :: _ :: _ :: []), []⟩ _
            refine wpAnyH_ready (rs := [9]) (by kernel_rfl) (by simp) ?_
            refine AllReadyH.cons rfl (fun K hK => ?_) AllReadyH.nil
            have hb5 : Below w4.heap.size w4 (w4.alloc (.cells (entArr E A4 c4) 25)) := (Below.refl _ _).alloc (Nat.le_refl _) _
            have hb45 := hb4.trans (hb5.mono hb4.size)
            refine step_append_entry (lo := n0 + 3) (es := es) (v := .slice AQ es.length cq) (E := E) rfl (.tmp 32) (.tmp 39) rfl rfl (HE.out.below hb45) (by have := hb45.size; omega) w4.heap.size 1 rfl (entArr E A4 c4) (EntC.of (own_below ho4 hb5)) (alloc_at rfl) (show es.length ≤ 1048576 by omega) fun g cap' w6 hes6 hgr hbl => ?_
            have hq6 : w6.heap[n0 + 2]? = some (.cells #[.int .i64 (N : Int), .slice AQ es.length cq] 31 (0, 0)) := (hgr.block _ (by have := hb45.size; omega) (fun e => by have := (hbl _ e.symm).1; omega)).trans ((hb5.block _ (by have := hb4.size; omega)).trans hq4)
            have hB6 : Below (n0 + 2) wr w6 := (hb45.mono (by omega)).trans ⟨hgr.os, hgr.tape, hgr.output, hgr.size, fun k hk => hgr.block k (by have := hb45.size; omega) (fun e => by have := (hbl _ e.symm).1; omega)⟩
            refine hK.out _ _ hB6 (fun hHeld => ?_)
            clear hK K
            change wpAnyH _ _ _ _ _ _ _ ⟨List.toArray (_ :: _ :: _ :: _ :: _ :: _ :: _ :: _ :: _ :: _ :: _ :: _ :: _ :: _ :: _ :: _ :: _ :: _ :: _ :: _ :: _ :: _ :: _ :: _ :: _ :: _ :: _ :: _ :: _ :: _ :: _ :: .pointer (some ⟨n0 + 2, 1, none⟩) :: .slice AQ es.length cq :: .pointer (some ⟨n0, 1, none⟩) :: .slice (some ⟨b, o, none⟩) n cp :: .int .i64 (i : Int) :: .pointer (some ⟨b, o + i * 8, none⟩) :: .agg (rawArr R0 A0 k0) :: .agg (entArr E A4 c4) :: .slice (some ⟨w4.heap.size, 0, none⟩) 1 1 :: .slice (some ⟨g, 0, none⟩) (es.length + 1) cap' :: _ :: _ :: _ :: _ :: _ :: _ :: _ :: _ :: _ :: _ :: _ :: _ :: _ :: _ :: _ :: _ :: _ :: _ :: _ :: _ :: _ :: _ :: _ :: _ :: _ :: _ :: _ :: _ :: _ :: _ :: _ :: _ :: _ :: _ :: _ :: _ :: _ :: _ :: _ :: _ :: _ :: _ :: _ :: _ :: _ :: _ :: _ :: _ :: _ :: _ :: _ :: _ :: _ :: _ :: _ :: _ :: _ :: _ :: _ :: _ :: _ :: _ :: _ :: _ :: []), []⟩ _
            refine wpAnyH_take (i := 10) (v := .pointer (some ⟨n0 + 2, 1, none⟩)) rfl (by kernel_rfl) (by kernel_rfl) (by kernel_rfl) (fun _ _ _ h => h) (Or.inl ⟨by rfl, fun w' hw' => ?_⟩) (by assumption) ?_
            · go_simp
            change wpAnyH _ _ _ _ _ _ _ ⟨List.toArray (_ :: _ :: _ :: _ :: _ :: _ :: _ :: _ :: _ :: _ :: _ :: _ :: _ :: _ :: _ :: _ :: _ :: _ :: _ :: _ :: _ :: _ :: _ :: _ :: _ :: _ :: _ :: _ :: _ :: _ :: _ :: .pointer (some ⟨n0 + 2, 1, none⟩) :: .slice AQ es.length cq :: .pointer (some ⟨n0, 1, none⟩) :: .slice (some ⟨b, o, none⟩) n cp :: .int .i64 (i : Int) :: .pointer (some ⟨b, o + i * 8, none⟩) :: .agg (rawArr R0 A0 k0) :: .agg (entArr E A4 c4) :: .slice (some ⟨w4.heap.size, 0, none⟩) 1 1 :: .slice (some ⟨g, 0, none⟩) (es.length + 1) cap' :: .pointer (some ⟨n0 + 2, 1, none⟩) :: _ :: _ :: _ :: _ :: _ :: _ :: _ :: _ :: _ :: _ :: _ :: _ :: _ :: _ :: _ :: _ :: _ :: _ :: _ :: _ :: _ :: _ :: _ :: _ :: _ :: _ :: _ :: _ :: _ :: _ :: _ :: _ :: _ :: _ :: _ :: _ :: _ :: _ :: _ :: _ :: _ :: _ :: _ :: _ :: _ :: _ :: _ :: _ :: _ :: _ :: _ :: _ :: _ :: _ :: _ :: _ :: _ :: _ :: _ :: _ :: _ :: _ :: _ :: []), []⟩ _
            refine wpAnyH_ready (rs := [11]) (by kernel_rfl) (by simp) ?_
            refine AllReadyH.cons rfl (fun K hK => ?_) AllReadyH.nil
            have hqc6 := cell_of_heap (i := 1) hq6 (v := .slice AQ es.length cq) rfl
            have hqf6 : w6.frozen? ⟨n0 + 2, 1, none⟩ = false := frozen_of_heap hq6
            clear hqc4 hHeld
            go_simp
            have hB7 := hB6.setCell (p := ⟨n0 + 2, 1, none⟩) (Nat.le_refl _) (.slice (some ⟨g, 0, none⟩) (es.length + 1) cap')
            refine hK.out _ _ hB7 (fun hHeld => ?_)
            clear hK K
            refine wpAnyH_done (by kernel_rfl) ?_ _
            show Exit.inBlock _ _ _ ⟨List.toArray (_ :: _ :: _ :: _ :: _ :: _ :: _ :: _ :: _ :: _ :: _ :: _ :: _ :: _ :: _ :: _ :: _ :: _ :: _ :: _ :: _ :: _ :: _ :: _ :: _ :: _ :: _ :: _ :: _ :: _ :: _ :: .pointer (some ⟨n0 + 2, 1, none⟩) :: .slice AQ es.length cq :: .pointer (some ⟨n0, 1, none⟩) :: .slice (some ⟨b, o, none⟩) n cp :: .int .i64 (i : Int) :: .pointer (some ⟨b, o + i * 8, none⟩) :: .agg (rawArr R0 A0 k0) :: .agg (entArr E A4 c4) :: .slice (some ⟨w4.heap.size, 0, none⟩) 1 1 :: .slice (some ⟨g, 0, none⟩) (es.length + 1) cap' :: .pointer (some ⟨n0 + 2, 1, none⟩) :: _ :: _ :: _ :: _ :: _ :: _ :: _ :: _ :: _ :: _ :: _ :: _ :: _ :: _ :: _ :: _ :: _ :: _ :: _ :: _ :: _ :: _ :: _ :: _ :: _ :: _ :: _ :: _ :: _ :: _ :: _ :: _ :: _ :: _ :: _ :: _ :: _ :: _ :: _ :: _ :: _ :: _ :: _ :: _ :: _ :: _ :: _ :: _ :: _ :: _ :: _ :: _ :: _ :: _ :: _ :: _ :: _ :: _ :: _ :: _ :: _ :: _ :: _ :: []), []⟩ _
            have hm7 : MB cl (some ⟨b, o, none⟩) n cp R AR cR w0 (w6.setCell ⟨n0 + 2, 1, none⟩ (.slice (some ⟨g, 0, none⟩) (es.length + 1) cap')) n0 N (es ++ [E]) := by
              refine ⟨(hB7.block _ (by omega)).trans HMR.out.he, (hB7.block _ (by omega)).trans HMR.out.hp, HMR.out.hN1, HMR.out.hN2, ?_, ?_, ⟨_, heap_set_same hq6, ?_⟩, ?_, ?_⟩
              · intro e he
                rcases List.mem_append.1 he with he | he
                · exact HMR.out.all e he
                · rw [List.mem_singleton.1 he]; exact hE1
              · simp only [List.length_append, List.length_cons, List.length_nil]; omega
              · exact hes6.keep fun k cur t hl hk ht => heap_set_other (by omega)
              · have := hB7.size; omega
              · exact HMR.out.abv.trans ((Abv.of_below hB7).mono (by omega))
            have HM7 := Lib.hid hm7
            clear hm7 hB7 hB6 hq6 hqc6 hqf6 hHeld hes6 hgr hbl hb5 hb45 hq4 ho4 hb4 hB4
            have hi64 : IntKind.i64.wrap ((i : Int) + 1) = (i : Int) + 1 := IntWalk.i64_in _ (by omega)
            go_wp2_with fail
            exact ⟨⟨i + 1, by omega, by omega, by push_cast; rfl, es ++ [E], by have := HES.out; simp; omega, HM7.out⟩, by simp [intOf]; omega⟩
          · clear hHeld
            go_simp
            refine HENT.out.mono ?_
            rintro e' w4 ⟨E, hE1, A4, c4, rfl, ho4, hb4⟩
            have hB4 : Below (n0 + 2) wr w4 := hb4.mono (by omega)
            have hq4 : w4.heap[n0 + 2]? = some (.cells #[.int .i64 (N : Int), .slice AQ es.length cq] 31 (0, 0)) := (hb4.block _ (by omega)).trans HQ.out
            have hqc4 := cell_of_heap (i := 1) hq4 (v := .slice AQ es.length cq) rfl
            refine hK.out _ _ hB4 (fun hHeld => ?_)
            clear hK K
            change wpAnyH _ _ _ _ _ _ _ ⟨List.toArray (_ :: _ :: _ :: _ :: _ :: _ :: _ :: _ :: _ :: _ :: _ :: _ :: _ :: _ :: _ :: _ :: _ :: _ :: _ :: _ :: _ :: _ :: _ :: _ :: _ :: _ :: _ :: _ :: _ :: _ :: _ :: .pointer (some ⟨n0 + 2, 1, none⟩) :: _ :: .pointer (some ⟨n0, 1, none⟩) :: .slice (some ⟨b, o, none⟩) n cp :: .int .i64 (i : Int) :: .pointer (some ⟨b, o + i * 8, none⟩) :: .agg (rawArr R0 A0 k0) :: .agg (entArr E A4 c4) :: _ :: _ :: _ :: _ :: _ :: _ :: _ :: _ :: _ :: _ :: _ :: _ :: _ :: _ :: _ :: _ :: _ :: _ :: _ :: _ :: _ :: _ :: _ :: _ :: _ :: _ :: _ :: _ :: _ :: _ :: _ :: _ :: _ :: _ :: _ :: _ :: _ :: _ :: _ :: _ :: _ :: _ :: _ :: _ :: _ :: _ :: _ :: _ :: _ :: _ :: _ :: _ :: _ :: _ :: _ :: _ :: _ :: _ :: _ :: _ :: _ :: _ :: _ :: _ :: _ :: _ :: []), []⟩ _
            refine wpAnyH_ready (rs := [1, 8]) (by kernel_rfl) (by simp) ?_
            refine AllReadyH.cons rfl (fun K hK => ?_) (AllReadyH.cons rfl (fun K hK => ?_) AllReadyH.nil)
            · clear hHeld
              go_simp
              refine hK.out _ _ hB4 (fun hHeld => ?_)
              clear hK K
              change wpAnyH _ _ _ _ _ _ _ ⟨List.toArray (_ :: _ :: _ :: _ :: _ :: _ :: _ :: _ :: _ :: _ :: _ :: _ :: _ :: _ :: _ :: _ :: _ :: _ :: _ :: _ :: _ :: _ :: _ :: _ :: _ :: _ :: _ :: _ :: _ :: _ :: _ :: .pointer (some ⟨n0 + 2, 1, none⟩) :: .slice AQ es.length cq :: .pointer (some ⟨n0, 1, none⟩) :: .slice (some ⟨b, o, none⟩) n cp :: .int .i64 (i : Int) :: .pointer (some ⟨b, o + i * 8, none⟩) :: .agg (rawArr R0 A0 k0) :: .agg (entArr E A4 c4) :: _ :: _ :: _ :: _ :: _ :: _ :: _ :: _ :: _ :: _ :: _ :: _ :: _ :: _ :: _ :: _ :: _ :: _ :: _ :: _ :: _ :: _ :: _ :: _ :: _ :: _ :: _ :: _ :: _ :: _ :: _ :: _ :: _ :: _ :: _ :: _ :: _ :: _ :: _ :: _ :: _ :: _ :: _ :: _ :: _ :: _ :: _ :: _ :: _ :: _ :: _ :: _ :: _ :: _ :: _ :: _ :: _ :: _ :: _ :: _ :: _ :: _ :: _ :: _ :: _ :: _ :: []), []⟩ _
              refine wpAnyH_ready (rs := [8]) (by kernel_rfl) (by simp) ?_
              refine AllReadyH.cons rfl (fun K hK => ?_) AllReadyH.nil
              clear hHeld
              go_simp
              simp only [fold_ent]
              refine hK.out _ (w4.alloc (.cells (entArr E A4 c4) 25)) (hB4.alloc (by have := hb4.size; omega) _) (fun hHeld => ?_)
              clear hK K
              change wpAnyH _ _ _ _ _ _ _ ⟨List.toArray (_ :: _ :: _ :: _ :: _ :: _ :: _ :: _ :: _ :: _ :: _ :: _ :: _ :: _ :: _ :: _ :: _ :: _ :: _ :: _ :: _ :: _ :: _ :: _ :: _ :: _ :: _ :: _ :: _ :: _ :: _ :: .pointer (some ⟨n0 + 2, 1, none⟩) :: .slice AQ es.length cq :: .pointer (some ⟨n0, 1, none⟩) :: .slice (some ⟨b, o, none⟩) n cp :: .int .i64 (i : Int) :: .pointer (some ⟨b, o + i * 8, none⟩) :: .agg (rawArr R0 A0 k0) :: .agg (entArr E A4 c4) :: .slice (some ⟨w4.heap.size, 0, none⟩) 1 1 :: _ :: _ :: _ :: _ :: _ :: _ :: _ :: _ :: _ :: _ :: _ :: _ :: _ :: _ :: _ :: _ :: _ :: _ :: _ :: _ :: _ :: _ :: _ :: _ :: _ :: _ :: _ :: _ :: _ :: _ :: _ :: _ :: _ :: _ :: _ :: _ :: _ :: _ :: _ :: _ :: _ :: _ :: _ :: _ :: _ :: _ :: _ :: _ :: _ :: _ :: _ :: _ :: _ :: _ :: _ :: _ :: _ :: _ :: _ :: _ :: _ :: _ :: _ :: _ :: _ :: []), []⟩ _
              refine wpAnyH_ready (rs := [9]) (by kernel_rfl) (by simp) ?_
              refine AllReadyH.cons rfl (fun K hK => ?_) AllReadyH.nil
              have hb5 : Below w4.heap.size w4 (w4.alloc (.cells (entArr E A4 c4) 25)) := (Below.refl _ _).alloc (Nat.le_refl _) _
              have hb45 := hb4.trans (hb5.mono hb4.size)
              refine step_append_entry (lo := n0 + 3) (es := es) (v := .slice AQ es.length cq) (E := E) rfl (.tmp 32) (.tmp 39) rfl rfl (HE.out.below hb45) (by have := hb45.size; omega) w4.heap.size 1 rfl (entArr E A4 c4) (EntC.of (own_below ho4 hb5)) (alloc_at rfl) (show es.length ≤ 1048576 by omega) fun g cap' w6 hes6 hgr hbl => ?_
              have hq6 : w6.heap[n0 + 2]? = some (.cells #[.int .i64 (N : Int), .slice AQ es.length cq] 31 (0, 0)) := (hgr.block _ (by have := hb45.size; omega) (fun e => by have := (hbl _ e.symm).1; omega)).trans ((hb5.block _ (by have := hb4.size; omega)).trans hq4)
              have hB6 : Below (n0 + 2) wr w6 := (hb45.mono (by omega)).trans ⟨hgr.os, hgr.tape, hgr.output, hgr.size, fun k hk => hgr.block k (by have := hb45.size; omega) (fun e => by have := (hbl _ e.symm).1; omega)⟩
              refine hK.out _ _ hB6 (fun hHeld => ?_)
              clear hK K
              change wpAnyH _ _ _ _ _ _ _ ⟨List.toArray (_ :: _ :: _ :: _ :: _ :: _ :: _ :: _ :: _ :: _ :: _ :: _ :: _ :: _ :: _ :: _ :: _ :: _ :: _ :: _ :: _ :: _ :: _ :: _ :: _ :: _ :: _ :: _ :: _ :: _ :: _ :: .pointer (some ⟨n0 + 2, 1, none⟩) :: .slice AQ es.length cq :: .pointer (some ⟨n0, 1, none⟩) :: .slice (some ⟨b, o, none⟩) n cp :: .int .i64 (i : Int) :: .pointer (some ⟨b, o + i * 8, none⟩) :: .agg (rawArr R0 A0 k0) :: .agg (entArr E A4 c4) :: .slice (some ⟨w4.heap.size, 0, none⟩) 1 1 :: .slice (some ⟨g, 0, none⟩) (es.length + 1) cap' :: _ :: _ :: _ :: _ :: _ :: _ :: _ :: _ :: _ :: _ :: _ :: _ :: _ :: _ :: _ :: _ :: _ :: _ :: _ :: _ :: _ :: _ :: _ :: _ :: _ :: _ :: _ :: _ :: _ :: _ :: _ :: _ :: _ :: _ :: _ :: _ :: _ :: _ :: _ :: _ :: _ :: _ :: _ :: _ :: _ :: _ :: _ :: _ :: _ :: _ :: _ :: _ :: _ :: _ :: _ :: _ :: _ :: _ :: _ :: _ :: _ :: _ :: _ :: _ :: []), []⟩ _
              refine wpAnyH_take (i := 10) (v := .pointer (some ⟨n0 + 2, 1, none⟩)) rfl (by kernel_rfl) (by kernel_rfl) (by kernel_rfl) (fun _ _ _ h => h) (Or.inl ⟨by rfl, fun w' hw' => ?_⟩) (by assumption) ?_
              · go_simp
              change wpAnyH _ _ _ _ _ _ _ ⟨List.toArray (_ :: _ :: _ :: _ :: _ :: _ :: _ :: _ :: _ :: _ :: _ :: _ :: _ :: _ :: _ :: _ :: _ :: _ :: _ :: _ :: _ :: _ :: _ :: _ :: _ :: _ :: _ :: _ :: _ :: _ :: _ :: .pointer (some ⟨n0 + 2, 1, none⟩) :: .slice AQ es.length cq :: .pointer (some ⟨n0, 1, none⟩) :: .slice (some ⟨b, o, none⟩) n cp :: .int .i64 (i : Int) :: .pointer (some ⟨b, o + i * 8, none⟩) :: .agg (rawArr R0 A0 k0) :: .agg (entArr E A4 c4) :: .slice (some ⟨w4.heap.size, 0, none⟩) 1 1 :: .slice (some ⟨g, 0, none⟩) (es.length + 1) cap' :: .pointer (some ⟨n0 + 2, 1, none⟩) :: _ :: _ :: _ :: _ :: _ :: _ :: _ :: _ :: _ :: _ :: _ :: _ :: _ :: _ :: _ :: _ :: _ :: _ :: _ :: _ :: _ :: _ :: _ :: _ :: _ :: _ :: _ :: _ :: _ :: _ :: _ :: _ :: _ :: _ :: _ :: _ :: _ :: _ :: _ :: _ :: _ :: _ :: _ :: _ :: _ :: _ :: _ :: _ :: _ :: _ :: _ :: _ :: _ :: _ :: _ :: _ :: _ :: _ :: _ :: _ :: _ :: _ :: _ :: []), []⟩ _
              refine wpAnyH_ready (rs := [11]) (by kernel_rfl) (by simp) ?_
              refine AllReadyH.cons rfl (fun K hK => ?_) AllReadyH.nil
              have hqc6 := cell_of_heap (i := 1) hq6 (v := .slice AQ es.length cq) rfl
              have hqf6 : w6.frozen? ⟨n0 + 2, 1, none⟩ = false := frozen_of_heap hq6
              clear hqc4 hHeld
              go_simp
              have hB7 := hB6.setCell (p := ⟨n0 + 2, 1, none⟩) (Nat.le_refl _) (.slice (some ⟨g, 0, none⟩) (es.length + 1) cap')
              refine hK.out _ _ hB7 (fun hHeld => ?_)
              clear hK K
              refine wpAnyH_done (by kernel_rfl) ?_ _
              show Exit.inBlock _ _ _ ⟨List.toArray (_ :: _ :: _ :: _ :: _ :: _ :: _ :: _ :: _ :: _ :: _ :: _ :: _ :: _ :: _ :: _ :: _ :: _ :: _ :: _ :: _ :: _ :: _ :: _ :: _ :: _ :: _ :: _ :: _ :: _ :: _ :: .pointer (some ⟨n0 + 2, 1, none⟩) :: .slice AQ es.length cq :: .pointer (some ⟨n0, 1, none⟩) :: .slice (some ⟨b, o, none⟩) n cp :: .int .i64 (i : Int) :: .pointer (some ⟨b, o + i * 8, none⟩) :: .agg (rawArr R0 A0 k0) :: .agg (entArr E A4 c4) :: .slice (some ⟨w4.heap.size, 0, none⟩) 1 1 :: .slice (some ⟨g, 0, none⟩) (es.length + 1) cap' :: .pointer (some ⟨n0 + 2, 1, none⟩) :: _ :: _ :: _ :: _ :: _ :: _ :: _ :: _ :: _ :: _ :: _ :: _ :: _ :: _ :: _ :: _ :: _ :: _ :: _ :: _ :: _ :: _ :: _ :: _ :: _ :: _ :: _ :: _ :: _ :: _ :: _ :: _ :: _ :: _ :: _ :: _ :: _ :: _ :: _ :: _ :: _ :: _ :: _ :: _ :: _ :: _ :: _ :: _ :: _ :: _ :: _ :: _ :: _ :: _ :: _ :: _ :: _ :: _ :: _ :: _ :: _ :: _ :: _ :: []), []⟩ _
              have hm7 : MB cl (some ⟨b, o, none⟩) n cp R AR cR w0 (w6.setCell ⟨n0 + 2, 1, none⟩ (.slice (some ⟨g, 0, none⟩) (es.length + 1) cap')) n0 N (es ++ [E]) := by
                refine ⟨(hB7.block _ (by omega)).trans HMR.out.he, (hB7.block _ (by omega)).trans HMR.out.hp, HMR.out.hN1, HMR.out.hN2, ?_, ?_, ⟨_, heap_set_same hq6, ?_⟩, ?_, ?_⟩
                · intro e he
                  rcases List.mem_append.1 he with he | he
                  · exact HMR.out.all e he
                  · rw [List.mem_singleton.1 he]; exact hE1
                · simp only [List.length_append, List.length_cons, List.length_nil]; omega
                · exact hes6.keep fun k cur t hl hk ht => heap_set_other (by omega)
                · have := hB7.size; omega
                · exact HMR.out.abv.trans ((Abv.of_below hB7).mono (by omega))
              have HM7 := Lib.hid hm7
              clear hm7 hB7 hB6 hq6 hqc6 hqf6 hHeld hes6 hgr hbl hb5 hb45 hq4 ho4 hb4 hB4
              have hi64 : IntKind.i64.wrap ((i : Int) + 1) = (i : Int) + 1 := IntWalk.i64_in _ (by omega)
              go_wp2_with fail
              exact ⟨⟨i + 1, by omega, by omega, by push_cast; rfl, es ++ [E], by have := HES.out; simp; omega, HM7.out⟩, by simp [intOf]; omega⟩
            · clear hHeld
              go_simp
              simp only [fold_ent]
              refine hK.out _ (w4.alloc (.cells (entArr E A4 c4) 25)) (hB4.alloc (by have := hb4.size; omega) _) (fun hHeld => ?_)
              clear hK K
              change wpAnyH _ _ _ _ _ _ _ ⟨List.toArray (_ :: _ :: _ :: _ :: _ :: _ :: _ :: _ :: _ :: _ :: _ :: _ :: _ :: _ :: _ :: _ :: _ :: _ :: _ :: _ :: _ :: _ :: _ :: _ :: _ :: _ :: _ :: _ :: _ :: _ :: _ :: .pointer (some ⟨n0 + 2, 1, none⟩) :: _ :: .pointer (some ⟨n0, 1, none⟩) :: .slice (some ⟨b, o, none⟩) n cp :: .int .i64 (i : Int) :: .pointer (some ⟨b, o + i * 8, none⟩) :: .agg (rawArr R0 A0 k0) :: .agg (entArr E A4 c4) :: .slice (some ⟨w4.heap.size, 0, none⟩) 1 1 :: _ :: _ :: _ :: _ :: _ :: _ :: _ :: _ :: _ :: _ :: _ :: _ :: _ :: _ :: _ :: _ :: _ :: _ :: _ :: _ :: _ :: _ :: _ :: _ :: _ :: _ :: _ :: _ :: _ :: _ :: _ :: _ :: _ :: _ :: _ :: _ :: _ :: _ :: _ :: _ :: _ :: _ :: _ :: _ :: _ :: _ :: _ :: _ :: _ :: _ :: _ :: _ :: _ :: _ :: _ :: _ :: _ :: _ :: _ :: _ :: _ :: _ :: _ :: _ :: _ :: []), []⟩ _
              refine wpAnyH_ready (rs := [1]) (by kernel_rfl) (by simp) ?_
              refine AllReadyH.cons rfl (fun K hK => ?_) AllReadyH.nil
              have hx := cell_alloc hqc4 (.cells (entArr E A4 c4) 25)
              clear hHeld
              go_simp
              refine hK.out _ (w4.alloc (.cells (entArr E A4 c4) 25)) (hB4.alloc (by have := hb4.size; omega) _) (fun hHeld => ?_)
              clear hK K hx
              change wpAnyH _ _ _ _ _ _ _ ⟨List.toArray (_ :: _ :: _ :: _ :: _ :: _ :: _ :: _ :: _ :: _ :: _ :: _ :: _ :: _ :: _ :: _ :: _ :: _ :: _ :: _ :: _ :: _ :: _ :: _ :: _ :: _ :: _ :: _ :: _ :: _ :: _ :: .pointer (some ⟨n0 + 2, 1, none⟩) :: .slice AQ es.length cq :: .pointer (some ⟨n0, 1, none⟩) :: .slice (some ⟨b, o, none⟩) n cp :: .int .i64 (i : Int) :: .pointer (some ⟨b, o + i * 8, none⟩) :: .agg (rawArr R0 A0 k0) :: .agg (entArr E A4 c4) :: .slice (some ⟨w4.heap.size, 0, none⟩) 1 1 :: _ :: _ :: _ :: _ :: _ :: _ :: _ :: _ :: _ :: _ :: _ :: _ :: _ :: _ :: _ :: _ :: _ :: _ :: _ :: _ :: _ :: _ :: _ :: _ :: _ :: _ :: _ :: _ :: _ :: _ :: _ :: _ :: _ :: _ :: _ :: _ :: _ :: _ :: _ :: _ :: _ :: _ :: _ :: _ :: _ :: _ :: _ :: _ :: _ :: _ :: _ :: _ :: _ :: _ :: _ :: _ :: _ :: _ :: _ :: _ :: _ :: _ :: _ :: _ :: _ :: []), []⟩ _
              refine wpAnyH_ready (rs := [9]) (by kernel_rfl) (by simp) ?_
              refine AllReadyH.cons rfl (fun K hK => ?_) AllReadyH.nil
              have hb5 : Below w4.heap.size w4 (w4.alloc (.cells (entArr E A4 c4) 25)) := (Below.refl _ _).alloc (Nat.le_refl _) _
              have hb45 := hb4.trans (hb5.mono hb4.size)
              refine step_append_entry (lo := n0 + 3) (es := es) (v := .slice AQ es.length cq) (E := E) rfl (.tmp 32) (.tmp 39) rfl rfl (HE.out.below hb45) (by have := hb45.size; omega) w4.heap.size 1 rfl (entArr E A4 c4) (EntC.of (own_below ho4 hb5)) (alloc_at rfl) (show es.length ≤ 1048576 by omega) fun g cap' w6 hes6 hgr hbl => ?_
              have hq6 : w6.heap[n0 + 2]? = some (.cells #[.int .i64 (N : Int), .slice AQ es.length cq] 31 (0, 0)) := (hgr.block _ (by have := hb45.size; omega) (fun e => by have := (hbl _ e.symm).1; omega)).trans ((hb5.block _ (by have := hb4.size; omega)).trans hq4)
              have hB6 : Below (n0 + 2) wr w6 := (hb45.mono (by omega)).trans ⟨hgr.os, hgr.tape, hgr.output, hgr.size, fun k hk => hgr.block k (by have := hb45.size; omega) (fun e => by have := (hbl _ e.symm).1; omega)⟩
              refine hK.out _ _ hB6 (fun hHeld => ?_)
              clear hK K
              change wpAnyH _ _ _ _ _ _ _ ⟨List.toArray (_ :: _ :: _ :: _ :: _ :: _ :: _ :: _ :: _ :: _ :: _ :: _ :: _ :: _ :: _ :: _ :: _ :: _ :: _ :: _ :: _ :: _ :: _ :: _ :: _ :: _ :: _ :: _ :: _ :: _ :: _ :: .pointer (some ⟨n0 + 2, 1, none⟩) :: .slice AQ es.length cq :: .pointer (some ⟨n0, 1, none⟩) :: .slice (some ⟨b, o, none⟩) n cp :: .int .i64 (i : Int) :: .pointer (some ⟨b, o + i * 8, none⟩) :: .agg (rawArr R0 A0 k0) :: .agg (entArr E A4 c4) :: .slice (some ⟨w4.heap.size, 0, none⟩) 1 1 :: .slice (some ⟨g, 0, none⟩) (es.length + 1) cap' :: _ :: _ :: _ :: _ :: _ :: _ :: _ :: _ :: _ :: _ :: _ :: _ :: _ :: _ :: _ :: _ :: _ :: _ :: _ :: _ :: _ :: _ :: _ :: _ :: _ :: _ :: _ :: _ :: _ :: _ :: _ :: _ :: _ :: _ :: _ :: _ :: _ :: _ :: _ :: _ :: _ :: _ :: _ :: _ :: _ :: _ :: _ :: _ :: _ :: _ :: _ :: _ :: _ :: _ :: _ :: _ :: _ :: _ :: _ :: _ :: _ :: _ :: _ :: _ :: []), []⟩ _
              refine wpAnyH_take (i := 10) (v := .pointer (some ⟨n0 + 2, 1, none⟩)) rfl (by kernel_rfl) (by kernel_rfl) (by kernel_rfl) (fun _ _ _ h => h) (Or.inl ⟨by rfl, fun w' hw' => ?_⟩) (by assumption) ?_
              · go_simp
              change wpAnyH _ _ _ _ _ _ _ ⟨List.toArray (_ :: _ :: _ :: _ :: _ :: _ :: _ :: _ :: _ :: _ :: _ :: _ :: _ :: _ :: _ :: _ :: _ :: _ :: _ :: _ :: _ :: _ :: _ :: _ :: _ :: _ :: _ :: _ :: _ :: _ :: _ :: .pointer (some ⟨n0 + 2, 1, none⟩) :: .slice AQ es.length cq :: .pointer (some ⟨n0, 1, none⟩) :: .slice (some ⟨b, o, none⟩) n cp :: .int .i64 (i : Int) :: .pointer (some ⟨b, o + i * 8, none⟩) :: .agg (rawArr R0 A0 k0) :: .agg (entArr E A4 c4) :: .slice (some ⟨w4.heap.size, 0, none⟩) 1 1 :: .slice (some ⟨g, 0, none⟩) (es.length + 1) cap' :: .pointer (some ⟨n0 + 2, 1, none⟩) :: _ :: _ :: _ :: _ :: _ :: _ :: _ :: _ :: _ :: _ :: _ :: _ :: _ :: _ :: _ :: _ :: _ :: _ :: _ :: _ :: _ :: _ :: _ :: _ :: _ :: _ :: _ :: _ :: _ :: _ :: _ :: _ :: _ :: _ :: _ :: _ :: _ :: _ :: _ :: _ :: _ :: _ :: _ :: _ :: _ :: _ :: _ :: _ :: _ :: _ :: _ :: _ :: _ :: _ :: _ :: _ :: _ :: _ :: _ :: _ :: _ :: _ :: _ :: []), []⟩ _
              refine wpAnyH_ready (rs := [11]) (by kernel_rfl) (by simp) ?_
              refine AllReadyH.cons rfl (fun K hK => ?_) AllReadyH.nil
              have hqc6 := cell_of_heap (i := 1) hq6 (v := .slice AQ es.length cq) rfl
              have hqf6 : w6.frozen? ⟨n0 + 2, 1, none⟩ = false := frozen_of_heap hq6
              clear hqc4 hHeld
              go_simp
              have hB7 := hB6.setCell (p := ⟨n0 + 2, 1, none⟩) (Nat.le_refl _) (.slice (some ⟨g, 0, none⟩) (es.length + 1) cap')
              refine hK.out _ _ hB7 (fun hHeld => ?_)
              clear hK K
              refine wpAnyH_done (by kernel_rfl) ?_ _
              show Exit.inBlock _ _ _ ⟨List.toArray (_ :: _ :: _ :: _ :: _ :: _ :: _ :: _ :: _ :: _ :: _ :: _ :: _ :: _ :: _ :: _ :: _ :: _ :: _ :: _ :: _ :: _ :: _ :: _ :: _ :: _ :: _ :: _ :: _ :: _ :: _ :: .pointer (some ⟨n0 + 2, 1, none⟩) :: .slice AQ es.length cq :: .pointer (some ⟨n0, 1, none⟩) :: .slice (some ⟨b, o, none⟩) n cp :: .int .i64 (i : Int) :: .pointer (some ⟨b, o + i * 8, none⟩) :: .agg (rawArr R0 A0 k0) :: .agg (entArr E A4 c4) :: .slice (some ⟨w4.heap.size, 0, none⟩) 1 1 :: .slice (some ⟨g, 0, none⟩) (es.length + 1) cap' :: .pointer (some ⟨n0 + 2, 1, none⟩) :: _ :: _ :: _ :: _ :: _ :: _ :: _ :: _ :: _ :: _ :: _ :: _ :: _ :: _ :: _ :: _ :: _ :: _ :: _ :: _ :: _ :: _ :: _ :: _ :: _ :: _ :: _ :: _ :: _ :: _ :: _ :: _ :: _ :: _ :: _ :: _ :: _ :: _ :: _ :: _ :: _ :: _ :: _ :: _ :: _ :: _ :: _ :: _ :: _ :: _ :: _ :: _ :: _ :: _ :: _ :: _ :: _ :: _ :: _ :: _ :: _ :: _ :: _ :: []), []⟩ _
              have hm7 : MB cl (some ⟨b, o, none⟩) n cp R AR cR w0 (w6.setCell ⟨n0 + 2, 1, none⟩ (.slice (some ⟨g, 0, none⟩) (es.length + 1) cap')) n0 N (es ++ [E]) := by
                refine ⟨(hB7.block _ (by omega)).trans HMR.out.he, (hB7.block _ (by omega)).trans HMR.out.hp, HMR.out.hN1, HMR.out.hN2, ?_, ?_, ⟨_, heap_set_same hq6, ?_⟩, ?_, ?_⟩
                · intro e he
                  rcases List.mem_append.1 he with he | he
                  · exact HMR.out.all e he
                  · rw [List.mem_singleton.1 he]; exact hE1
                · simp only [List.length_append, List.length_cons, List.length_nil]; omega
                · exact hes6.keep fun k cur t hl hk ht => heap_set_other (by omega)
                · have := hB7.size; omega
                · exact HMR.out.abv.trans ((Abv.of_below hB7).mono (by omega))
              have HM7 := Lib.hid hm7
              clear hm7 hB7 hB6 hq6 hqc6 hqf6 hHeld hes6 hgr hbl hb5 hb45 hq4 ho4 hb4 hB4
              have hi64 : IntKind.i64.wrap ((i : Int) + 1) = (i : Int) + 1 := IntWalk.i64_in _ (by omega)
              go_wp2_with fail
              exact ⟨⟨i + 1, by omega, by omega, by push_cast; rfl, es ++ [E], by have := HES.out; simp; omega, HM7.out⟩, by simp [intOf]; omega⟩
      · have h450' : ¬ (i : Int) < 450 := by omega
        go_wp2_with fail
        exact ⟨⟨rfl, rfl, rfl, rfl, rfl⟩, es, HMR.out⟩
    · have hlt' : ¬ (i : Int) < (n : Int) := by omega
      go_wp2_with fail
      exact ⟨⟨rfl, rfl, rfl, rfl, rfl⟩, es, HMR.out⟩
end
end Go.Proofs.YtbjkljmhhpoooaaDoor
