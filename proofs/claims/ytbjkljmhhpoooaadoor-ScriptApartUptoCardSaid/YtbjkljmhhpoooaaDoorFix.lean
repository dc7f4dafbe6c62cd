/-
  The laws' small fixed run (jotterlaw15.fixed) IN COMPANY: it comes to true; one leaver more.
-/
import Derived.Test.YtbjkljmhhpoooaaDoorParsB
import Derived.Test.YtbjkljmhhpoooaaDoorPrint
import Derived.Test.YtbjkljmhhpoooaaDoorAlk
namespace Go.Co
open Go.Conc
section
variable {P : Program} {S : Sets} {main : Bool} {b : Frame} {a : Act} {k : List Item} {cs : List Frame} {ops : Array Oper} {i : Nat} {rest : List Nat} {o : Oper} {Stop : Goroutine → World → Prop}

/-- What an admitted operation keeps. -/
theorem guar_of (hR : Ready P S None') (hop : okOp P S b.fn o.op = true) (hD : S.D b.fn = []) {w1 w' : World} {v : Next} (hr : (execOp a.eval o).run P w1 = .ok v w') : Guar None' w1 w' (Go.seen P b.fn ((execOp a.eval o).events P w1 #[])) := by
  rcases (loc_execOp (B := None') hR (ρ := a.eval) (fn := b.fn) (o := o) (fun t ht => by rw [hD] at ht; cases ht) (fun _ => rfl) (fun _ => rfl) hop).out w1 #[] (masked_none w1) with h | ⟨_, haft, hev, _⟩
  · rw [Sem.runT_eq, hr] at h
    exact h.elim
  · rw [Sem.runT_eq] at haft hev
    rw [hr] at haft
    exact ⟨fun _ h => h.elim, haft.tape, haft.size, evs_fine (P := P) (fr := { b with kind := .normal }) hev⟩

theorem step_skip' {w w' : World} {es : Array Event} (ho : ops[i]? = some o) (hw : Region.wanted o (yielded ops a.tmps) = true) (hk : b.kind ≠ .early) (h : (execOp a.eval o).runT P w #[] = (.ok .skip w', es)) :
    stepG P main (G (b.at a (.inRegion ops (i :: rest) :: k)) cs) w = .go (G (b.at (a.put o.dst undef) (.inRegion ops rest :: k)) cs) w' (Go.seen P b.fn es) := by
  have e1 : stepG P main (G (b.at a (.inRegion ops (i :: rest) :: k)) cs) w = stepG.apply P true (b.at a (.inRegion ops (i :: rest) :: k)) cs none (execOp a.eval o) w := by
    have he := Frame.eval_at' b a (.inRegion ops (i :: rest) :: k)
    simp only [Frame.at] at he
    simp [G, stepG, stepG.exec, stepG.oper, Frame.oper?, Frame.at, ho, hw, he]
  have hk' : ((b.at a (.inRegion ops (i :: rest) :: k)).kind == CallKind.early) = false := by simpa [Frame.at] using hk
  rw [e1, apply_skip h, Frame.finish_at, ho]
  simp only [evs, hk']
  rfl

/-- An admitted operation whose answer is known. -/
theorem way_run (hR : Ready P S None') (ho : ops[i]? = some o) (hw : Region.wanted o (yielded ops a.tmps) = true) (hk : b.kind ≠ .early) (hop : okOp P S b.fn o.op = true) (hD : S.D b.fn = []) {w : World} (v : Value) (a' : Act) (ha : a.put o.dst v = a')
    (h : ∀ w1, Rely None' w w1 → ∃ w', (execOp a.eval o).run P w1 = .ok (.value v) w' ∧ Way P main (Rely None') (Guar None') Stop (G (b.at a' (.inRegion ops rest :: k)) cs) w') :
    Way P main (Rely None') (Guar None') Stop (G (b.at a (.inRegion ops (i :: rest) :: k)) cs) w := by
  refine way_value' v a' ho hw hk ha fun w1 h1 => ?_
  obtain ⟨w', hr, hn⟩ := h w1 h1
  exact ⟨w', _, by rw [Sem.runT_eq, hr], guar_of hR hop hD hr, hn⟩
/-- .. that has none (a store). -/
theorem way_skip (hR : Ready P S None') (ho : ops[i]? = some o) (hw : Region.wanted o (yielded ops a.tmps) = true) (hk : b.kind ≠ .early) (hop : okOp P S b.fn o.op = true) (hD : S.D b.fn = []) {w : World} (a' : Act) (ha : a.put o.dst undef = a')
    (h : ∀ w1, Rely None' w w1 → ∃ w', (execOp a.eval o).run P w1 = .ok .skip w' ∧ Way P main (Rely None') (Guar None') Stop (G (b.at a' (.inRegion ops rest :: k)) cs) w') :
    Way P main (Rely None') (Guar None') Stop (G (b.at a (.inRegion ops (i :: rest) :: k)) cs) w := by
  subst ha
  refine Way.one rfl fun w1 h1 => ?_
  obtain ⟨w', hr, hn⟩ := h w1 h1
  exact ⟨_, w', _, step_skip' ho hw hk (by rw [Sem.runT_eq, hr]), guar_of hR hop hD hr, hn⟩
theorem Done.fix {Fin : Goroutine → World → Prop} {k : Nat} {m : Machine} {t : Trace} (h : Done P Fin k m t) : ∃ a w, Fin a w ∧ Done P (fun a' w' => a' = a ∧ w' = w) k m t := by
  obtain ⟨gs, q, w, sl, a, h1, h2, h3, h4, h5, h6⟩ := h
  exact ⟨a, w, h5, gs, q, w, sl, a, h1, h2, h3, h4, ⟨rfl, rfl⟩, h6⟩
end
end Go.Co

namespace Go.Proofs.YtbjkljmhhpoooaaDoor
open Go.Conc Go.Co Go.Proofs Go.RowKit
set_option linter.unusedVariables false

theorem run_store_block {P : Program} {ρ : Operand → Value} {o : Oper} {ty : TypeId} {x y : Operand} (ho : o.op = .store ty x y) {w : World} {b : Nat} {cells old : Array Value} {t : TypeId} (hx : ρ x = .pointer (some ⟨b, 0, none⟩)) (hy : ρ y = .agg cells)
    (hh : w.heap[b]? = some (.cells old t (0, 0))) (hs : old.size = cells.size) (hi : (P.info? ty).map (·.size) = some cells.size) (h1 : cells.toList.all (·.oneCell') = true) :
    ∃ w2, (execOp ρ o).run P w = .ok .skip w2 ∧ StoredAt w w2 b cells t := by
  refine ⟨_, ?_, stored_setCells hh hs⟩
  unfold execOp
  simp only [ho, hx, hy, Instr.storeAt, Instr.sureAddr, Sem.run_bind, Sem.run_pure, Result.andThen_ok]
  rw [run_storeVar_mid w b 0 ty cells (fun j hj => ⟨by rw [Nat.zero_add, cell_of_heap hh (v := old[j]'(by omega)) (Array.getElem?_eq_getElem _)]; rfl, frozen_of_heap hh⟩) hi (by simpa using h1)]
  rfl

noncomputable def bodyFx : Code := Tryd.f17.body.getD .skip
noncomputable def ops2Fx : Array Oper := match bodyFx with | .seq _ (.seq _ (.seq (.region _ ops _) _)) => ops | _ => #[]
noncomputable def restFx : Code := match bodyFx with | .seq _ (.seq _ (.seq _ c)) => c | _ => .skip
theorem restFx_ok : okCode Tryd.prog S2 17 restFx = true := by kernel_rfl
theorem restFx_brought : S2.D 17 = [] := by kernel_rfl
def txtF : ByteArray := ⟨#[99, 108, 105, 101, 110, 116, 115, 32, 50, 10, 105, 110, 115, 101, 114, 116, 32, 49, 32, 48, 32, 97, 10, 102, 111, 114, 103, 101, 32, 48, 32, 48, 52, 10]⟩
noncomputable def T0F : Array Value := Array.replicate 56 undef
noncomputable def T1F : Array Value := ((T0F.setIfInBounds 0 (.bool false)).setIfInBounds 1 (.string txtF)).setIfInBounds 8 (.string txtF)
noncomputable def frFx : Frame := (base 17).at ⟨T1F, []⟩ [.inRegion ops2Fx [1, 2, 3, 4, 5, 6, 7], .code restFx]
noncomputable def startFx (cs : List Frame) : Goroutine := G ((base 17).at ⟨T0F, []⟩ [.code bodyFx]) cs

theorem fixed_entry (w0 : World) (cs : List Frame) :
    Co.Way Tryd.prog true (Rely None') (Guar None') (fun a w => a = GP (T0P txtF) [.code bodyP] (frFx :: cs) ∧ Rely None' w0 w) (startFx cs) w0 := by
  unfold startFx
  refine way_silent (mildR _) rfl (fun _ => stepG_seq) ?_
  refine way_silent (mildR _) rfl (fun _ => stepG_region) ?_
  refine way_pure' (mildR _) ⟨T0F.setIfInBounds 0 (.bool false), []⟩ rfl rfl (by decide) (fun _ _ => rfl) rfl ?_
  refine way_silent (mildR _) rfl (fun _ => stepG_region_end) ?_
  refine way_silent (mildR _) rfl (fun _ => stepG_seq) ?_
  refine way_silent (mildR _) rfl (fun _ => stepG_region) ?_
  refine way_pure' (mildR _) ⟨(T0F.setIfInBounds 0 (.bool false)).setIfInBounds 1 (.string txtF), []⟩ rfl rfl (by decide) (fun _ _ => rfl) rfl ?_
  refine way_silent (mildR _) rfl (fun _ => stepG_region_end) ?_
  refine way_silent (mildR _) rfl (fun _ => stepG_seq) ?_
  refine way_silent (mildR _) rfl (fun _ => stepG_region) ?_
  refine way_pure' (mildR _) ⟨T1F, []⟩ rfl rfl (by decide) (fun _ _ => rfl) rfl ?_
  refine way_enter (mildR _) #[.string txtF] rfl rfl (by decide) rfl Tryd.func15 rfl (by kernel_rfl) (by simp only [List.map_toArray, List.map_cons, List.map_nil]; rfl) ?_
  exact Co.Way.stop fun w1 h1 => ⟨rfl, h1⟩

/-! ### what the rest of it does -/
def eF1 : Ent := ⟨1, 1, 0, 0, 0, 97, [], 0⟩
def eF2 : Ent := ⟨13, 0, 0, 0, 0, 0, [4], 0⟩
theorem meant_F : ∀ e ∈ [eF1, eF2], Meant e := by
  intro e he
  simp only [List.mem_cons, List.not_mem_nil, or_false] at he
  rcases he with rfl | rfl
  · exact Meant.ins 1 0 97 (by decide) (by decide) (by decide) (by decide) (by decide)
  · exact Meant.forge 0 [4] (by decide) (by decide) (by decide)
theorem txtF_eq : strB (planW 2 ([eF1, eF2].map writW)) = txtF := by
  have h1 : Lib.itoa 1 = [49] := by have := itoa_dd 1; rw [dd_one (by decide)] at this; exact this
  have h0 : Lib.itoa 0 = [48] := by have := itoa_dd 0; rw [dd_one (by decide)] at this; exact this
  simp [strB, planW, writW, tailW, numsW, h0, h1, dd_one, clB, eF1, eF2, vWords, bytesW, hex2, hexD, txtF]
theorem range_block {w : World} {b : Nat} {cells : Array Value} {t : TypeId} (h : w.heap[b]? = some (.cells cells t (0, 0))) : w.rangeAt b 0 cells.toList := fun j v hv => by
  rw [Nat.zero_add]
  exact cell_of_heap h (by simpa using hv)
theorem run_load_at {P : Program} {ρ : Operand → Value} {o : Oper} {ty : TypeId} {x : Operand} (ho : o.op = .load ty x) {w : World} {b off : Nat} {cells : Array Value} (hx : ρ x = .pointer (some ⟨b, off, none⟩)) (hh : w.rangeAt b off cells.toList)
    (hd : (P.underlying ty).map TypeDesc.isRow = some true) (hi : (P.info? ty).map (·.size) = some cells.size) : (execOp ρ o).run P w = .ok (.value (.agg cells)) w := by
  obtain ⟨d, hu, hd⟩ := Option.map_eq_some_iff.1 hd
  unfold execOp
  simp only [ho, hx, Instr.loadAt, Instr.sureAddr, Sem.run_bind, Sem.run_pure, Result.andThen_ok, run_loadVar_mid w b off ty cells.toList d hh hu hd (by simpa using hi)]
theorem entsC_at {w : World} {lo : Nat} : ∀ {es : List Ent} {L : List Value}, EntsC w lo es L → ∀ i e, es[i]? = some e → ∃ V, EntC w lo e V ∧ ∀ j, j < 8 → L[i * 8 + j]? = V[j]?
  | [], _, _, i, e, h => by simp at h
  | E :: es, L, ⟨V, L', h1, h2, h3⟩, i, e, h => by
    have hV := h2.length
    cases i with
    | zero =>
      simp only [List.getElem?_cons_zero, Option.some.injEq] at h
      subst h
      refine ⟨V, h2, fun j hj => ?_⟩
      rw [h1, Nat.zero_mul, Nat.zero_add, List.getElem?_append_left (by omega)]
    | succ i =>
      simp only [List.getElem?_cons_succ] at h
      obtain ⟨V', k1, k2⟩ := entsC_at h3 i e h
      refine ⟨V', k1, fun j hj => ?_⟩
      rw [h1, List.getElem?_append_right (by omega), hV, show (i + 1) * 8 + j - 8 = i * 8 + j by omega]
      exact k2 j hj
/-- entries of a row of its own, as they are read -/
theorem ents_in {w : World} {lo : Nat} {v : Value} {es : List Ent} (h : EntsAt w lo v es) : ∃ A c, v = .slice A es.length c ∧ EntsIn w A es ∧ (es ≠ [] → ∃ g, A = some ⟨g, 0, none⟩ ∧ lo ≤ g) := by
  obtain ⟨L, hL, hrow⟩ := h
  obtain ⟨A, c, rfl⟩ := own_form hrow
  refine ⟨A, c, rfl, ?_⟩
  rcases hrow.2 with ⟨hv, h0⟩ | ⟨g, cap, cur, hv, hg, hh, hc, hm, hs, ht⟩
  · injection hv with h1 h2 h3
    have := List.eq_nil_of_length_eq_zero h0
    exact ⟨.inl ⟨h1, this⟩, fun hn => absurd this hn⟩
  · injection hv with h1 h2 h3
    subst h1 h3
    refine ⟨.inr ⟨g, 0, rfl, (Array.getElem?_eq_some_iff.1 hh).1, fun i e he => ?_⟩, fun _ => ⟨g, rfl, hg⟩⟩
    have hi : i < es.length := (List.getElem?_eq_some_iff.1 he).1
    obtain ⟨V, ⟨bv, hV, ho⟩, hj⟩ := entsC_at hL i e he
    obtain ⟨A', c', rfl⟩ := own_form ho
    refine ⟨A', c', own_in ho, fun j v hv => ?_⟩
    have hj8 : j < 8 := by
      have := (List.getElem?_eq_some_iff.1 hv).1
      simpa [entArr] using this
    have h5 : L[i * 8 + j]? = some v := by rw [hj j hj8, hV]; exact hv
    rw [Nat.zero_add]
    refine cell_of_heap hh ?_
    rw [← ht, List.getElem?_take_of_lt (by omega)] at h5
    rw [← Array.getElem?_toList]
    exact h5

set_option maxRecDepth 100000 in
set_option maxHeartbeats 2000000 in
theorem rest_fixed (w : World) (lo p : Nat) (sv : Value) (hpl : w.heap[p]? = some (.cells #[.int .i64 2, sv] 31 (0, 0))) (hes : EntsAt w lo sv [eF1, eF2]) (m : Int) (V o cap0 : Nat) (F : Nat → Option Addr) (C : Nat → Nat)
    (hm : w.cell? ⟨4, 0, none⟩ = some (.int .i64 m)) (hv : VerbsAt V o cap0 F C w) (hp : PowAt w) :
    restFx.wp Tryd.prog (fun e a' w' => match e with | .ret => ∃ T, a' = ⟨T, []⟩ ∧ T[0]? = some (.bool true) ∧ Below w.heap.size w w' | _ => False) ⟨#[.bool false, .string txtF, .pointer (some ⟨p, 0, none⟩), .nilIface, undef, undef, undef, .tuple #[.agg #[.int .i64 2, sv], .nilIface], .string txtF, .tuple #[.agg #[.int .i64 2, sv], .nilIface], .agg #[.int .i64 2, sv], .nilIface, undef, undef, undef, undef, undef, undef, undef, undef, undef, undef, undef, undef, undef, undef, undef, undef, undef, undef, undef, undef, undef, undef, undef, undef, undef, undef, undef, undef, undef, undef, undef, undef, undef, undef, undef, undef, undef, undef, undef, undef, undef, undef, undef, undef], []⟩ w := by
  simp only [restFx, bodyFx, Tryd.f17, Option.getD_some]
  obtain ⟨A, cap, rfl, hin, hg⟩ := ents_in hes
  obtain ⟨g, rfl, hlo⟩ := hg (by simp)
  have hc0 := cell_of_heap (i := 0) hpl (v := .int .i64 2) rfl
  have hc1 := cell_of_heap (i := 1) hpl (v := .slice (some ⟨g, 0, none⟩) 2 cap) rfl
  have HM := Lib.hid hm
  have HV := Lib.hid hv
  have HP := Lib.hid hp
  have HPL := Lib.hid hpl
  have HIN := Lib.hid hin
  clear hm hv hp hpl hes hin hg
  go_wp2_with fail
  simp only [List.length_cons, List.length_nil]
  obtain ⟨A1, c1, hb1, hr1⟩ : ∃ A1 c1, BytesIn w A1 [] ∧ w.rangeAt g 0 (entArr eF1 A1 c1).toList := by
    rcases HIN.out with ⟨h, _⟩ | ⟨b, o, h, _, h3⟩
    · cases h
    · injection h with h
      injection h with h4 h5
      subst h4 h5
      exact h3 0 eF1 rfl
  obtain ⟨A2, c2, hb2, hr2⟩ : ∃ A2 c2, BytesIn w A2 [4] ∧ w.rangeAt g 8 (entArr eF2 A2 c2).toList := by
    rcases HIN.out with ⟨h, _⟩ | ⟨b, o, h, _, h3⟩
    · cases h
    · injection h with h
      injection h with h4 h5
      subst h4 h5
      exact h3 1 eF2 rfl
  have hgl : g < w.heap.size := by
    rcases HIN.out with ⟨h, _⟩ | ⟨b, o, h, h3, _⟩
    · cases h
    · injection h with h
      injection h with h4 h5
      subst h4
      exact h3
  have hpls : p < w.heap.size := (Array.getElem?_eq_some_iff.1 HPL.out).1
  have hbw : Below w.heap.size w (((w.alloc (.cells (entArr eF1 none 0) 25)).alloc (.cells #[.int .u8 4] 5)).alloc (.cells (entArr eF2 (some ⟨w.heap.size + 1, 0, none⟩) 1) 25)) :=
    (((Below.refl _ w).alloc (Nat.le_refl _) _).alloc (by simp) _).alloc (by simp; omega) _
  have hqa : (((w.alloc (.cells (entArr eF1 none 0) 25)).alloc (.cells #[.int .u8 4] 5)).alloc (.cells (entArr eF2 (some ⟨w.heap.size + 1, 0, none⟩) 1) 25)).heap[w.heap.size]? = some (.cells (entArr eF1 none 0) 25 (0, 0)) := alloc_old (alloc_old (alloc_at rfl))
  have hqr : (((w.alloc (.cells (entArr eF1 none 0) 25)).alloc (.cells #[.int .u8 4] 5)).alloc (.cells (entArr eF2 (some ⟨w.heap.size + 1, 0, none⟩) 1) 25)).heap[w.heap.size + 1]? = some (.cells #[.int .u8 4] 5 (0, 0)) := alloc_old (alloc_at (by simp))
  have hqb : (((w.alloc (.cells (entArr eF1 none 0) 25)).alloc (.cells #[.int .u8 4] 5)).alloc (.cells (entArr eF2 (some ⟨w.heap.size + 1, 0, none⟩) 1) 25)).heap[w.heap.size + 1 + 1]? = some (.cells (entArr eF2 (some ⟨w.heap.size + 1, 0, none⟩) 1) 25 (0, 0)) := alloc_at (by simp)
  change Code.wp _ _ _ _ (((w.alloc (.cells (entArr eF1 none 0) 25)).alloc (.cells #[.int .u8 4] 5)).alloc (.cells (entArr eF2 (some ⟨w.heap.size + 1, 0, none⟩) 1) 25))
  generalize (((w.alloc (.cells (entArr eF1 none 0) 25)).alloc (.cells #[.int .u8 4] 5)).alloc (.cells (entArr eF2 (some ⟨w.heap.size + 1, 0, none⟩) 1) 25)) = w3 at hbw hqa hqr hqb ⊢
  generalize w.heap.size + 1 + 1 = qb at hqb ⊢
  generalize w.heap.size + 1 = rb at hqr hqb ⊢
  obtain ⟨qa, hqe⟩ : ∃ qa, w.heap.size = qa := ⟨_, rfl⟩
  rw [hqe] at hqa ⊢
  have hqal := (Array.getElem?_eq_some_iff.1 hqa).1
  have hqbl := (Array.getElem?_eq_some_iff.1 hqb).1
  have HBW := Lib.hid hbw
  have HK0 := Lib.hid (show ∀ w', Below w3.heap.size w3 w' → w'.cell? ⟨p, 1, none⟩ = some (.slice (some ⟨g, 0, none⟩) 2 cap) from fun w' h' => cell_of_heap ((h'.block p (Nat.lt_of_lt_of_le hpls HBW.out.size)).trans ((HBW.out.block p hpls).trans HPL.out)) rfl)
  have HK1 := Lib.hid (show ∀ w', Below w3.heap.size w3 w' → w'.rangeAt g 0 (entArr eF1 A1 c1).toList from fun w' h' => range_below (range_below hr1 hgl HBW.out) (Nat.lt_of_lt_of_le hgl HBW.out.size) h')
  have HK2 := Lib.hid (show ∀ w', Below w3.heap.size w3 w' → w'.rangeAt g 8 (entArr eF2 A2 c2).toList from fun w' h' => range_below (range_below hr2 hgl HBW.out) (Nat.lt_of_lt_of_le hgl HBW.out.size) h')
  have HK3 := Lib.hid (show ∀ w', Below w3.heap.size w3 w' → w'.rangeAt qa 0 (entArr eF1 none 0).toList from fun w' h' => range_block ((h'.block _ hqal).trans hqa))
  have HK4 := Lib.hid (show ∀ w', Below w3.heap.size w3 w' → w'.rangeAt qb 0 (entArr eF2 (some ⟨rb, 0, none⟩) 1).toList from fun w' h' => range_block ((h'.block _ hqbl).trans hqb))
  have HB1 := Lib.hid (hb1.below hbw)
  have HB2 := Lib.hid (hb2.below hbw)
  have HQB : Hid (BytesIn w3 (some ⟨rb, 0, none⟩) [4]) := Lib.hid (.inr ⟨rb, 0, rfl, (Array.getElem?_eq_some_iff.1 hqr).1, fun j hj => by
    have : j = 0 := by simpa using hj
    subst this
    exact cell_of_heap hqr rfl⟩)
  have HQA : Hid (BytesIn w3 none []) := Lib.hid (.inl ⟨rfl, rfl⟩)
  clear hbw hqa hqr hqb hqal hqbl hb1 hb2 hr1 hr2 hgl hpls hc0 hc1 hlo
  refine wp_region_held_drew (S := fun w' => Below w3.heap.size w3 w') (by kernel_rfl) (Below.refl _ _).drew (fun hHeld => ?_)
  refine wpAnyH_take (i := 0) (v := .pointer (some ⟨p, 1, none⟩)) rfl (by kernel_rfl) (by kernel_rfl) (by kernel_rfl) (fun _ _ _ h => h) (Or.inl ⟨by rfl, fun w' hw' => ?_⟩) (by assumption) ?_
  · go_simp
  change wpAnyH _ _ _ _ _ _ _ ⟨#[_, _, _, _, _, _, _, _, _, _, _, _, _, _, _, _, _, _, _, _, _, _, _, _, _, _, _, _, .pointer (some ⟨p, 1, none⟩), undef, undef, undef, undef, undef, undef, undef, undef, undef, undef, undef, undef, undef, undef, undef, undef, undef, undef, undef, undef, undef, undef, undef, undef, undef, undef, undef], []⟩ _
  refine wpAnyH_take (i := 1) (v := .slice (some ⟨g, 0, none⟩) 2 cap) rfl (by kernel_rfl) (by kernel_rfl) (by kernel_rfl) (fun _ _ _ h => h) (Or.inl ⟨by rfl, fun w' hw' => ?_⟩) (by assumption) ?_
  · have hx := HK0.out w' hw'; clear hHeld; go_simp
  change wpAnyH _ _ _ _ _ _ _ ⟨#[_, _, _, _, _, _, _, _, _, _, _, _, _, _, _, _, _, _, _, _, _, _, _, _, _, _, _, _, .pointer (some ⟨p, 1, none⟩), .slice (some ⟨g, 0, none⟩) 2 cap, undef, undef, undef, undef, undef, undef, undef, undef, undef, undef, undef, undef, undef, undef, undef, undef, undef, undef, undef, undef, undef, undef, undef, undef, undef, undef], []⟩ _
  refine wpAnyH_take (i := 2) (v := .pointer (some ⟨g, 0, none⟩)) rfl (by kernel_rfl) (by kernel_rfl) (by kernel_rfl) (fun _ _ _ h => h) (Or.inl ⟨by rfl, fun w' hw' => ?_⟩) (by assumption) ?_
  · go_simp
  change wpAnyH _ _ _ _ _ _ _ ⟨#[_, _, _, _, _, _, _, _, _, _, _, _, _, _, _, _, _, _, _, _, _, _, _, _, _, _, _, _, .pointer (some ⟨p, 1, none⟩), .slice (some ⟨g, 0, none⟩) 2 cap, .pointer (some ⟨g, 0, none⟩), undef, undef, undef, undef, undef, undef, undef, undef, undef, undef, undef, undef, undef, undef, undef, undef, undef, undef, undef, undef, undef, undef, undef, undef, undef], []⟩ _
  refine wpAnyH_take (i := 3) (v := .agg (entArr eF1 A1 c1)) rfl (by kernel_rfl) (by kernel_rfl) (by kernel_rfl) (fun _ _ _ h => h) (Or.inl ⟨by rfl, fun w' hw' => ?_⟩) (by assumption) ?_
  · exact run_load_at rfl rfl (HK1.out w' hw') (by kernel_rfl) (by kernel_rfl)
  change wpAnyH _ _ _ _ _ _ _ ⟨#[_, _, _, _, _, _, _, _, _, _, _, _, _, _, _, _, _, _, _, _, _, _, _, _, _, _, _, _, .pointer (some ⟨p, 1, none⟩), .slice (some ⟨g, 0, none⟩) 2 cap, .pointer (some ⟨g, 0, none⟩), .agg (entArr eF1 A1 c1), undef, undef, undef, undef, undef, undef, undef, undef, undef, undef, undef, undef, undef, undef, undef, undef, undef, undef, undef, undef, undef, undef, undef, undef], []⟩ _
  refine wpAnyH_take (i := 4) (v := .agg (entArr eF1 none 0)) rfl (by kernel_rfl) (by kernel_rfl) (by kernel_rfl) (fun _ _ _ h => h) (Or.inl ⟨by rfl, fun w' hw' => ?_⟩) (by assumption) ?_
  · exact run_load_at rfl rfl (HK3.out w' hw') (by kernel_rfl) (by kernel_rfl)
  change wpAnyH _ _ _ _ _ _ _ ⟨#[_, _, _, _, _, _, _, _, _, _, _, _, _, _, _, _, _, _, _, _, _, _, _, _, _, _, _, _, .pointer (some ⟨p, 1, none⟩), .slice (some ⟨g, 0, none⟩) 2 cap, .pointer (some ⟨g, 0, none⟩), .agg (entArr eF1 A1 c1), .agg (entArr eF1 none 0), undef, undef, undef, undef, undef, undef, undef, undef, undef, undef, undef, undef, undef, undef, undef, undef, undef, undef, undef, undef, undef, undef, undef], []⟩ _
  refine wpAnyH_ready (rs := [5]) (by kernel_rfl) (by simp) ?_
  refine AllReadyH.cons rfl (fun K hK => ?_) AllReadyH.nil
  go_simp
  refine (alike_yes eF1 A1 none c1 0 w3.drew (HB1.out.below (Below.refl _ _).drew) (HQA.out.below (Below.refl _ _).drew) (by decide)).mono ?_; rintro e' w4 ⟨rfl, hb4⟩; have hb34 : Below w3.heap.size w3 w4 := (Below.refl _ w3).drew.trans hb4
  refine hK.out _ _ hb34 (fun hHeld => ?_)
  clear hK K
  change wpAnyH _ _ _ _ _ _ _ ⟨#[_, _, _, _, _, _, _, _, _, _, _, _, _, _, _, _, _, _, _, _, _, _, _, _, _, _, _, _, .pointer (some ⟨p, 1, none⟩), .slice (some ⟨g, 0, none⟩) 2 cap, .pointer (some ⟨g, 0, none⟩), .agg (entArr eF1 A1 c1), .agg (entArr eF1 none 0), .bool true, undef, undef, undef, undef, undef, undef, undef, undef, undef, undef, undef, undef, undef, undef, undef, undef, undef, undef, undef, undef, undef, undef], []⟩ _
  refine wpAnyH_take (i := 6) (v := .bool false) rfl (by kernel_rfl) (by kernel_rfl) (by kernel_rfl) (fun _ _ _ h => h) (Or.inl ⟨by rfl, fun w' hw' => ?_⟩) (by assumption) ?_
  · go_simp
  change wpAnyH _ _ _ _ _ _ _ ⟨#[_, _, _, _, _, _, _, _, _, _, _, _, _, _, _, _, _, _, _, _, _, _, _, _, _, _, _, _, .pointer (some ⟨p, 1, none⟩), .slice (some ⟨g, 0, none⟩) 2 cap, .pointer (some ⟨g, 0, none⟩), .agg (entArr eF1 A1 c1), .agg (entArr eF1 none 0), .bool true, .bool false, undef, undef, undef, undef, undef, undef, undef, undef, undef, undef, undef, undef, undef, undef, undef, undef, undef, undef, undef, undef, undef], []⟩ _
  refine wpAnyH_take (i := 7) (v := .bool false) rfl (by kernel_rfl) (by kernel_rfl) (by kernel_rfl) (fun _ _ _ h => h) (Or.inl ⟨by rfl, fun w' hw' => ?_⟩) (by assumption) ?_
  · go_simp
  change wpAnyH _ _ _ _ _ _ _ ⟨#[_, _, _, _, _, _, _, _, _, _, _, _, _, _, _, _, _, _, _, _, _, _, _, _, _, _, _, _, .pointer (some ⟨p, 1, none⟩), .slice (some ⟨g, 0, none⟩) 2 cap, .pointer (some ⟨g, 0, none⟩), .agg (entArr eF1 A1 c1), .agg (entArr eF1 none 0), .bool true, .bool false, .bool false, undef, undef, undef, undef, undef, undef, undef, undef, undef, undef, undef, undef, undef, undef, undef, undef, undef, undef, undef, undef], []⟩ _
  refine wpAnyH_take (i := 8) (v := .pointer (some ⟨p, 1, none⟩)) rfl (by kernel_rfl) (by kernel_rfl) (by kernel_rfl) (fun _ _ _ h => h) (Or.inl ⟨by rfl, fun w' hw' => ?_⟩) (by assumption) ?_
  · go_simp
  change wpAnyH _ _ _ _ _ _ _ ⟨#[_, _, _, _, _, _, _, _, _, _, _, _, _, _, _, _, _, _, _, _, _, _, _, _, _, _, _, _, .pointer (some ⟨p, 1, none⟩), .slice (some ⟨g, 0, none⟩) 2 cap, .pointer (some ⟨g, 0, none⟩), .agg (entArr eF1 A1 c1), .agg (entArr eF1 none 0), .bool true, .bool false, .bool false, .pointer (some ⟨p, 1, none⟩), undef, undef, undef, undef, undef, undef, undef, undef, undef, undef, undef, undef, undef, undef, undef, undef, undef, undef, undef], []⟩ _
  refine wpAnyH_take (i := 9) (v := .slice (some ⟨g, 0, none⟩) 2 cap) rfl (by kernel_rfl) (by kernel_rfl) (by kernel_rfl) (fun _ _ _ h => h) (Or.inl ⟨by rfl, fun w' hw' => ?_⟩) (by assumption) ?_
  · have hx := HK0.out w' hw'; clear hHeld; go_simp
  change wpAnyH _ _ _ _ _ _ _ ⟨#[_, _, _, _, _, _, _, _, _, _, _, _, _, _, _, _, _, _, _, _, _, _, _, _, _, _, _, _, .pointer (some ⟨p, 1, none⟩), .slice (some ⟨g, 0, none⟩) 2 cap, .pointer (some ⟨g, 0, none⟩), .agg (entArr eF1 A1 c1), .agg (entArr eF1 none 0), .bool true, .bool false, .bool false, .pointer (some ⟨p, 1, none⟩), .slice (some ⟨g, 0, none⟩) 2 cap, undef, undef, undef, undef, undef, undef, undef, undef, undef, undef, undef, undef, undef, undef, undef, undef, undef, undef], []⟩ _
  refine wpAnyH_take (i := 10) (v := .pointer (some ⟨g, 8, none⟩)) rfl (by kernel_rfl) (by kernel_rfl) (by kernel_rfl) (fun _ _ _ h => h) (Or.inl ⟨by rfl, fun w' hw' => ?_⟩) (by assumption) ?_
  · go_simp
  change wpAnyH _ _ _ _ _ _ _ ⟨#[_, _, _, _, _, _, _, _, _, _, _, _, _, _, _, _, _, _, _, _, _, _, _, _, _, _, _, _, .pointer (some ⟨p, 1, none⟩), .slice (some ⟨g, 0, none⟩) 2 cap, .pointer (some ⟨g, 0, none⟩), .agg (entArr eF1 A1 c1), .agg (entArr eF1 none 0), .bool true, .bool false, .bool false, .pointer (some ⟨p, 1, none⟩), .slice (some ⟨g, 0, none⟩) 2 cap, .pointer (some ⟨g, 8, none⟩), undef, undef, undef, undef, undef, undef, undef, undef, undef, undef, undef, undef, undef, undef, undef, undef, undef], []⟩ _
  refine wpAnyH_take (i := 11) (v := .agg (entArr eF2 A2 c2)) rfl (by kernel_rfl) (by kernel_rfl) (by kernel_rfl) (fun _ _ _ h => h) (Or.inl ⟨by rfl, fun w' hw' => ?_⟩) (by assumption) ?_
  · exact run_load_at rfl rfl (HK2.out w' hw') (by kernel_rfl) (by kernel_rfl)
  change wpAnyH _ _ _ _ _ _ _ ⟨#[_, _, _, _, _, _, _, _, _, _, _, _, _, _, _, _, _, _, _, _, _, _, _, _, _, _, _, _, .pointer (some ⟨p, 1, none⟩), .slice (some ⟨g, 0, none⟩) 2 cap, .pointer (some ⟨g, 0, none⟩), .agg (entArr eF1 A1 c1), .agg (entArr eF1 none 0), .bool true, .bool false, .bool false, .pointer (some ⟨p, 1, none⟩), .slice (some ⟨g, 0, none⟩) 2 cap, .pointer (some ⟨g, 8, none⟩), .agg (entArr eF2 A2 c2), undef, undef, undef, undef, undef, undef, undef, undef, undef, undef, undef, undef, undef, undef, undef, undef], []⟩ _
  refine wpAnyH_take (i := 12) (v := .agg (entArr eF2 (some ⟨rb, 0, none⟩) 1)) rfl (by kernel_rfl) (by kernel_rfl) (by kernel_rfl) (fun _ _ _ h => h) (Or.inl ⟨by rfl, fun w' hw' => ?_⟩) (by assumption) ?_
  · exact run_load_at rfl rfl (HK4.out w' hw') (by kernel_rfl) (by kernel_rfl)
  change wpAnyH _ _ _ _ _ _ _ ⟨#[_, _, _, _, _, _, _, _, _, _, _, _, _, _, _, _, _, _, _, _, _, _, _, _, _, _, _, _, .pointer (some ⟨p, 1, none⟩), .slice (some ⟨g, 0, none⟩) 2 cap, .pointer (some ⟨g, 0, none⟩), .agg (entArr eF1 A1 c1), .agg (entArr eF1 none 0), .bool true, .bool false, .bool false, .pointer (some ⟨p, 1, none⟩), .slice (some ⟨g, 0, none⟩) 2 cap, .pointer (some ⟨g, 8, none⟩), .agg (entArr eF2 A2 c2), .agg (entArr eF2 (some ⟨rb, 0, none⟩) 1), undef, undef, undef, undef, undef, undef, undef, undef, undef, undef, undef, undef, undef, undef, undef], []⟩ _
  refine wpAnyH_ready (rs := [13]) (by kernel_rfl) (by simp) ?_
  refine AllReadyH.cons rfl (fun K hK => ?_) AllReadyH.nil
  go_simp
  refine (alike_yes eF2 A2 (some ⟨rb, 0, none⟩) c2 1 w4 (HB2.out.below hb34) (HQB.out.below hb34) (by decide)).mono ?_; rintro e' w5 ⟨rfl, hb5⟩; have hb35 := hb34.trans (hb5.mono hb34.size)
  refine hK.out _ _ hb35 (fun hHeld => ?_)
  clear hK K
  change wpAnyH _ _ _ _ _ _ _ ⟨#[_, _, _, _, _, _, _, _, _, _, _, _, _, _, _, _, _, _, _, _, _, _, _, _, _, _, _, _, .pointer (some ⟨p, 1, none⟩), .slice (some ⟨g, 0, none⟩) 2 cap, .pointer (some ⟨g, 0, none⟩), .agg (entArr eF1 A1 c1), .agg (entArr eF1 none 0), .bool true, .bool false, .bool false, .pointer (some ⟨p, 1, none⟩), .slice (some ⟨g, 0, none⟩) 2 cap, .pointer (some ⟨g, 8, none⟩), .agg (entArr eF2 A2 c2), .agg (entArr eF2 (some ⟨rb, 0, none⟩) 1), .bool true, undef, undef, undef, undef, undef, undef, undef, undef, undef, undef, undef, undef, undef, undef], []⟩ _
  refine wpAnyH_take (i := 14) (v := .bool false) rfl (by kernel_rfl) (by kernel_rfl) (by kernel_rfl) (fun _ _ _ h => h) (Or.inl ⟨by rfl, fun w' hw' => ?_⟩) (by assumption) ?_
  · go_simp
  change wpAnyH _ _ _ _ _ _ _ ⟨#[_, _, _, _, _, _, _, _, _, _, _, _, _, _, _, _, _, _, _, _, _, _, _, _, _, _, _, _, .pointer (some ⟨p, 1, none⟩), .slice (some ⟨g, 0, none⟩) 2 cap, .pointer (some ⟨g, 0, none⟩), .agg (entArr eF1 A1 c1), .agg (entArr eF1 none 0), .bool true, .bool false, .bool false, .pointer (some ⟨p, 1, none⟩), .slice (some ⟨g, 0, none⟩) 2 cap, .pointer (some ⟨g, 8, none⟩), .agg (entArr eF2 A2 c2), .agg (entArr eF2 (some ⟨rb, 0, none⟩) 1), .bool true, .bool false, undef, undef, undef, undef, undef, undef, undef, undef, undef, undef, undef, undef, undef], []⟩ _
  refine wpAnyH_take (i := 15) (v := .bool false) rfl (by kernel_rfl) (by kernel_rfl) (by kernel_rfl) (fun _ _ _ h => h) (Or.inl ⟨by rfl, fun w' hw' => ?_⟩) (by assumption) ?_
  · go_simp
  change wpAnyH _ _ _ _ _ _ _ ⟨#[_, _, _, _, _, _, _, _, _, _, _, _, _, _, _, _, _, _, _, _, _, _, _, _, _, _, _, _, .pointer (some ⟨p, 1, none⟩), .slice (some ⟨g, 0, none⟩) 2 cap, .pointer (some ⟨g, 0, none⟩), .agg (entArr eF1 A1 c1), .agg (entArr eF1 none 0), .bool true, .bool false, .bool false, .pointer (some ⟨p, 1, none⟩), .slice (some ⟨g, 0, none⟩) 2 cap, .pointer (some ⟨g, 8, none⟩), .agg (entArr eF2 A2 c2), .agg (entArr eF2 (some ⟨rb, 0, none⟩) 1), .bool true, .bool false, .bool false, undef, undef, undef, undef, undef, undef, undef, undef, undef, undef, undef, undef], []⟩ _
  refine wpAnyH_done (by kernel_rfl) ?_ _
  have hbw5 : Below w.heap.size w w5 := HBW.out.trans (hb35.mono HBW.out.size)
  have HBW5 := Lib.hid hbw5
  have hpl5 : w5.heap[p]? = some (.cells #[.int .i64 2, .slice (some ⟨g, 0, none⟩) 2 cap] 31 (0, 0)) := (hbw5.block p (Array.getElem?_eq_some_iff.1 HPL.out).1).trans HPL.out
  have HPL5 := Lib.hid hpl5
  have hprint := print_good 2 (by decide) (by decide) [eF1, eF2] meant_F (by decide) (by have := planW_len 2 (by decide) [eF1, eF2] meant_F; simp only [List.length_cons, List.length_nil] at this; omega) (some ⟨g, 0, none⟩) cap w5 m V o cap0 F C ((hbw5.cell (World.block_lt_of_cell? w _ HM.out)).trans HM.out) (HV.out.below hbw5) (pow_below HP.out hbw5) (HIN.out.below hbw5)
  rw [txtF_eq] at hprint
  have HPRINT := Lib.hid hprint
  clear hprint hpl5 hbw5 hb34 hb4 hb5 hb35 hHeld
  go_wp2_with (refine wpList_load_block rfl 31 _ rfl p _ _ rfl HPL5.out (by kernel_rfl) (by kernel_rfl) ?_)
  refine HPRINT.out.mono ?_
  rintro e' w6 ⟨rfl, hb6⟩
  have HBW6 := Lib.hid (HBW5.out.trans (hb6.mono HBW5.out.size))
  clear hb6
  go_wp2_with fail
  rw [← hqe]
  exact HBW6.out

noncomputable def storeFx : Oper := ops2Fx.getD 6 (default : Oper)
section
variable (w0 : World) (m : Int) (V o cap : Nat) (F : Nat → Option Addr) (C : Nat → Nat)
  (hm : w0.cell? ⟨4, 0, none⟩ = some (.int .i64 m)) (hv : VerbsAt V o cap F C w0) (hp : PowAt w0) (hgs : Tryd.prog.globals.size ≤ w0.heap.size)
theorem pow_abv {w : World} (h : PowAt w0) (ha : Abv w0.heap.size w0 w) : PowAt w := pow_same h (ha.block _ (pow_lt h))
include hm hv hp in
/-- From Parse's return to its own. -/
theorem fixed_rest {c : Frame} {cs : List Frame} {lo : Nat} {sv : Value} {w : World} (hes : EntsAt w lo sv [eF1, eF2]) (hA : Abv w0.heap.size w0 w) :
    Co.Way Tryd.prog true (Rely None') (Guar None') (fun g w' => g = G (c.finish (.bool true)) cs ∧ Abv w0.heap.size w0 w') (G (frFx.finish (.tuple #[.agg #[.int .i64 2, sv], .nilIface])) (c :: cs)) w := by
  change Co.Way _ _ _ _ _ (G ((base 17).at ⟨#[.bool false, .string txtF, undef, undef, undef, undef, undef, undef, .string txtF, .tuple #[.agg #[.int .i64 2, sv], .nilIface], undef, undef, undef, undef, undef, undef, undef, undef, undef, undef, undef, undef, undef, undef, undef, undef, undef, undef, undef, undef, undef, undef, undef, undef, undef, undef, undef, undef, undef, undef, undef, undef, undef, undef, undef, undef, undef, undef, undef, undef, undef, undef, undef, undef, undef, undef], []⟩ [.inRegion ops2Fx [2, 3, 4, 5, 6, 7], .code restFx]) (c :: cs)) w
  refine way_pure' (mildR _) ⟨#[.bool false, .string txtF, undef, undef, undef, undef, undef, .tuple #[.agg #[.int .i64 2, sv], .nilIface], .string txtF, .tuple #[.agg #[.int .i64 2, sv], .nilIface], undef, undef, undef, undef, undef, undef, undef, undef, undef, undef, undef, undef, undef, undef, undef, undef, undef, undef, undef, undef, undef, undef, undef, undef, undef, undef, undef, undef, undef, undef, undef, undef, undef, undef, undef, undef, undef, undef, undef, undef, undef, undef, undef, undef, undef, undef], []⟩ rfl rfl (by decide) (fun _ _ => rfl) rfl ?_
  refine way_pure' (mildR _) ⟨#[.bool false, .string txtF, undef, undef, undef, undef, undef, .tuple #[.agg #[.int .i64 2, sv], .nilIface], .string txtF, .tuple #[.agg #[.int .i64 2, sv], .nilIface], .agg #[.int .i64 2, sv], undef, undef, undef, undef, undef, undef, undef, undef, undef, undef, undef, undef, undef, undef, undef, undef, undef, undef, undef, undef, undef, undef, undef, undef, undef, undef, undef, undef, undef, undef, undef, undef, undef, undef, undef, undef, undef, undef, undef, undef, undef, undef, undef, undef, undef], []⟩ rfl rfl (by decide) (fun _ _ => rfl) rfl ?_
  refine way_pure' (mildR _) ⟨#[.bool false, .string txtF, undef, undef, undef, undef, undef, .tuple #[.agg #[.int .i64 2, sv], .nilIface], .string txtF, .tuple #[.agg #[.int .i64 2, sv], .nilIface], .agg #[.int .i64 2, sv], .nilIface, undef, undef, undef, undef, undef, undef, undef, undef, undef, undef, undef, undef, undef, undef, undef, undef, undef, undef, undef, undef, undef, undef, undef, undef, undef, undef, undef, undef, undef, undef, undef, undef, undef, undef, undef, undef, undef, undef, undef, undef, undef, undef, undef, undef], []⟩ rfl rfl (by decide) (fun _ _ => rfl) rfl ?_
  refine way_value' (.pointer (some ⟨w.heap.size, 0, none⟩)) ⟨#[.bool false, .string txtF, .pointer (some ⟨w.heap.size, 0, none⟩), undef, undef, undef, undef, .tuple #[.agg #[.int .i64 2, sv], .nilIface], .string txtF, .tuple #[.agg #[.int .i64 2, sv], .nilIface], .agg #[.int .i64 2, sv], .nilIface, undef, undef, undef, undef, undef, undef, undef, undef, undef, undef, undef, undef, undef, undef, undef, undef, undef, undef, undef, undef, undef, undef, undef, undef, undef, undef, undef, undef, undef, undef, undef, undef, undef, undef, undef, undef, undef, undef, undef, undef, undef, undef, undef, undef], []⟩ rfl rfl (by decide) rfl fun w1 h1 => ⟨w1.alloc (.cells #[.int .i64 0, .slice none 0 0] 31), #[], by rw [← h1.size]; exact exec_alloc planZ rfl w1 #[], ⟨fun _ h => h.elim, rfl, by simp, fun e he => by simp [Go.seen] at he⟩, ?_⟩
  have hA1 : Abv w0.heap.size w0 w1 := hA.rely h1 fun _ h => h.elim
  have hA2 := hA1.push hA1.size (.cells #[.int .i64 0, .slice none 0 0] 31)
  have hpl2 : (w1.alloc (.cells #[.int .i64 0, .slice none 0 0] 31)).heap[w.heap.size]? = some (.cells #[.int .i64 0, .slice none 0 0] 31 (0, 0)) := by rw [← h1.size]; exact alloc_at rfl
  have hes2 : EntsAt (w1.alloc (.cells #[.int .i64 0, .slice none 0 0] 31)) lo sv [eF1, eF2] := hes.keep fun k cur t _ hk _ => (Below.heap_alloc _ _ _ (by rw [h1.size]; exact (Array.getElem?_eq_some_iff.1 hk).1)).trans (rely_get h1 k)
  have hlt2 : w0.heap.size ≤ w.heap.size := hA.size
  generalize w1.alloc (.cells #[.int .i64 0, .slice none 0 0] 31) = w2 at hA2 hpl2 hes2 ⊢
  generalize w.heap.size = p at hpl2 hlt2 ⊢
  refine way_skip ready2 rfl rfl (by decide) rfl restFx_brought ⟨#[.bool false, .string txtF, .pointer (some ⟨p, 0, none⟩), undef, undef, undef, undef, .tuple #[.agg #[.int .i64 2, sv], .nilIface], .string txtF, .tuple #[.agg #[.int .i64 2, sv], .nilIface], .agg #[.int .i64 2, sv], .nilIface, undef, undef, undef, undef, undef, undef, undef, undef, undef, undef, undef, undef, undef, undef, undef, undef, undef, undef, undef, undef, undef, undef, undef, undef, undef, undef, undef, undef, undef, undef, undef, undef, undef, undef, undef, undef, undef, undef, undef, undef, undef, undef, undef, undef], []⟩ rfl fun w3 h3 => ?_
  obtain ⟨w4, hr4, hs4⟩ := run_store_block (P := Tryd.prog) (ρ := Act.eval ⟨#[.bool false, .string txtF, .pointer (some ⟨p, 0, none⟩), undef, undef, undef, undef, .tuple #[.agg #[.int .i64 2, sv], .nilIface], .string txtF, .tuple #[.agg #[.int .i64 2, sv], .nilIface], .agg #[.int .i64 2, sv], .nilIface, undef, undef, undef, undef, undef, undef, undef, undef, undef, undef, undef, undef, undef, undef, undef, undef, undef, undef, undef, undef, undef, undef, undef, undef, undef, undef, undef, undef, undef, undef, undef, undef, undef, undef, undef, undef, undef, undef, undef, undef, undef, undef, undef, undef], []⟩) (o := storeFx) rfl (w := w3) (b := p) (cells := #[.int .i64 2, sv]) (old := #[.int .i64 0, .slice none 0 0]) (t := 31) rfl rfl ((rely_get h3 p).trans hpl2) rfl (by kernel_rfl) (by obtain ⟨A, c, rfl, _⟩ := ents_in hes2; rfl)
  refine ⟨w4, hr4, ?_⟩
  have hA3 : Abv w0.heap.size w0 w3 := hA2.rely h3 fun _ h => h.elim
  have hA4 : Abv w0.heap.size w0 w4 := hA3.trans (.of_below (hs4.below hlt2))
  have hes4 : EntsAt w4 lo sv [eF1, eF2] := hes2.keep fun k cur t _ hk ht => (hs4.other k (by
    rintro rfl
    rw [hpl2] at hk
    injection hk with hk
    injection hk with _ e _
    subst e
    rcases ht with ht | ht <;> exact absurd ht (by decide))).trans (rely_get h3 k)
  have hpl4 := hs4.at_
  refine way_pure' (mildR _) ⟨#[.bool false, .string txtF, .pointer (some ⟨p, 0, none⟩), .nilIface, undef, undef, undef, .tuple #[.agg #[.int .i64 2, sv], .nilIface], .string txtF, .tuple #[.agg #[.int .i64 2, sv], .nilIface], .agg #[.int .i64 2, sv], .nilIface, undef, undef, undef, undef, undef, undef, undef, undef, undef, undef, undef, undef, undef, undef, undef, undef, undef, undef, undef, undef, undef, undef, undef, undef, undef, undef, undef, undef, undef, undef, undef, undef, undef, undef, undef, undef, undef, undef, undef, undef, undef, undef, undef, undef], []⟩ rfl rfl (by decide) (fun _ _ => rfl) rfl ?_
  refine way_silent (mildR _) rfl (fun _ => stepG_region_end) ?_
  refine (lift_body (b := base 17) (a := ⟨#[.bool false, .string txtF, .pointer (some ⟨p, 0, none⟩), .nilIface, undef, undef, undef, .tuple #[.agg #[.int .i64 2, sv], .nilIface], .string txtF, .tuple #[.agg #[.int .i64 2, sv], .nilIface], .agg #[.int .i64 2, sv], .nilIface, undef, undef, undef, undef, undef, undef, undef, undef, undef, undef, undef, undef, undef, undef, undef, undef, undef, undef, undef, undef, undef, undef, undef, undef, undef, undef, undef, undef, undef, undef, undef, undef, undef, undef, undef, undef, undef, undef, undef, undef, undef, undef, undef, undef], []⟩) (c := restFx) ready2 codes2 true (c :: cs) restFx_ok restFx_brought rfl (veil_none w4)
    (Q := fun a' v' => ∃ T, a' = ⟨T, []⟩ ∧ T[0]? = some (.bool true) ∧ Abv w0.heap.size w0 v') ?_ ?_).then (Rely.refl _) ?_
  · rintro a v t d ⟨T', h1, h2, h6⟩
    exact ⟨T', h1, h2, ⟨h6.os, h6.output, h6.size, h6.block⟩⟩
  · intro t d
    have hAt : Abv w0.heap.size w0 (w4.on t d) := ⟨hA4.os, hA4.output, hA4.size, hA4.block⟩
    refine Code.wp_mono ?_ (rest_fixed (w4.on t d) lo p sv hpl4 (hes4.keep fun _ _ _ _ _ _ => rfl) m V o cap F C (cell_abv hm hAt) (verbs_abv hv hAt) (pow_abv w0 hp hAt))
    intro e a' w' h
    cases e with
    | ret =>
      obtain ⟨T', h1, h2, h6⟩ := h
      exact ⟨rfl, T', h1, h2, hA4.trans ⟨h6.os, h6.output, h6.size, fun k hk => h6.block k (Nat.lt_of_lt_of_le hk hA4.size)⟩⟩
    | _ => exact h.elim
  · rintro g w' ⟨a', todo, v', ⟨T', rfl, h2, h6⟩, _, rfl, hv'⟩
    have hAw : Abv w0.heap.size w0 w' := ⟨hv'.os.trans h6.os, hv'.output.trans h6.output, by rw [hv'.size]; exact h6.size, fun k hk => (veil_none_heap hv' k).trans (h6.block k hk)⟩
    refine way_leave (b := base 17) (a := ⟨T', []⟩) (todo := todo) (fn := Tryd.f17) (.bool true) rfl rfl Tryd.func17 (fun w1 h1 => ?_) ?_
    · simp [results, Tryd.results17, h2]
    · exact Co.Way.stop fun w1 h1 => ⟨rfl, hAw.rely h1 fun _ h => h.elim⟩
end
end Go.Proofs.YtbjkljmhhpoooaaDoor
