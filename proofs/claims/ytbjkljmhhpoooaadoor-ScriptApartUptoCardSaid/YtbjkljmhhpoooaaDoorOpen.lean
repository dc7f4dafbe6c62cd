/- WHAT THE LAWS' ARGUMENTS ARE (a plan, an entry), out of what a row says is read; and read again where only new memory came. -/
import Derived.Test.YtbjkljmhhpoooaaDoorRoD
import Derived.Test.YtbjkljmhhpoooaaDoorLaid
import Derived.ChangeSame
import Derived.OpenShut
import Derived.Deep.Slices
namespace Go.Proofs.YtbjkljmhhpoooaaDoor
open Go.ChangeShapes Go.WideShapes Go.ChangeAt Go.RowKit Go.ChangeMaps Go.Conc Go.Co
set_option linter.unusedVariables false

theorem blk_add (a : Addr) (n : Nat) : (a.add n).block = a.block := by unfold Addr.add; split <;> rfl
theorem mapM_of_get {α β : Type} {f : α → Option β} : ∀ {l : List α} {r : List β}, r.length = l.length → (∀ (i : Nat) (x : α), l[i]? = some x → f x = r[i]?) → l.mapM f = some r
  | [], [], _, _ => rfl
  | [], y :: r, h, _ => by simp at h
  | x :: l, [], h, _ => by simp at h
  | x :: l, y :: r, h, hf => by
    have h0 := hf 0 x rfl
    have hr := mapM_of_get (f := f) (l := l) (r := r) (by simpa using h) fun i z hz => by simpa using hf (i + 1) z (by simpa using hz)
    simp only [List.mapM_cons, h0, hr]
    rfl

section
variable {H : Type} {enc : TypeId × Value → H} {P : Program} {w w' : World} {held : Bool}

theorem und_struct {t : TypeId} {L : Array (TypeId × Nat)} (h : (P.underlying t).bind (fun d => match d with | .struct fs => some (fs.map fun f => (f.type, f.offset)) | _ => none) = some L) : ∃ fs, P.underlying t = some (.struct fs) ∧ fs.map (fun f => (f.type, f.offset)) = L := by
  obtain ⟨d, hd, h⟩ := Option.bind_eq_some_iff.1 h
  cases d with
  | struct fs => exact ⟨fs, hd, by simpa using h⟩
  | _ => simp at h
/-- field i of a struct that is read -/
theorem field_at {base : Nat} {sp : Nat → Bool} {t : TypeId} {fs : Array Field} {L : Array (TypeId × Nat)} (ht : P.underlying t = some (.struct fs)) (hL : fs.map (fun f => (f.type, f.offset)) = L) {m : Nat} {cs : List Value} {xs : List (DataW H × List MemPlace)} (hlen : xs.length = fs.size)
    (hall : ∀ (i : Nat) (f : Field), fs[i]? = some f → DataW.trod enc P w base sp held m f.type ((cs.drop f.offset).take (P.cellsOf f.type)) = xs[i]?) {i : Nat} {u : TypeId} {off : Nat} (hi : L[i]? = some (u, off)) :
    ∃ y, DataW.trod enc P w base sp held m u ((cs.drop off).take (P.cellsOf u)) = some y := by
  subst hL
  rw [Array.getElem?_map] at hi
  obtain ⟨f, hf, e⟩ := Option.map_eq_some_iff.1 hi
  injection e with e1 e2
  have h := hall i f hf
  rw [e1, e2] at h
  have hlt : i < xs.length := by rw [hlen]; exact (Array.getElem?_eq_some_iff.1 hf).1
  exact ⟨xs[i], by rw [h, List.getElem?_eq_getElem hlt]⟩
end

/-! ### read again -/
section
variable {H : Type} {enc : TypeId × Value → H} {P : Program} {w w' : World} {held : Bool} {sp : Nat → Bool}
/-- what is read in w is read in w' -/
def Again (enc : TypeId × Value → H) (P : Program) (w w' : World) (held : Bool) (sp : Nat → Bool) (t : TypeId) : Prop := ∀ n cs x, DataW.trod enc P w 0 (fun _ => true) held n t cs = some x → DataW.trod enc P w' 0 sp held n t cs = some x
theorem again_int {t : TypeId} {k : IntKind} (ht : P.underlying t = some (.int k)) : Again enc P w w' held sp t := by
  intro n cs x h
  obtain ⟨z, rfl, rfl, hw⟩ := DataW.trod_int ht h
  cases n with
  | zero => simp [DataW.trod] at h
  | succ n => exact trod_int_mk n ht hw
theorem again_struct {t : TypeId} {L : Array (TypeId × Nat)} (h : ∃ fs, P.underlying t = some (.struct fs) ∧ fs.map (fun f => (f.type, f.offset)) = L) (hL : ∀ (i : Nat) (u : TypeId) (off : Nat), L[i]? = some (u, off) → Again enc P w w' held sp u) : Again enc P w w' held sp t := by
  intro n cs x hx
  obtain ⟨fs, ht, rfl⟩ := h
  obtain ⟨xs, m, rfl, rfl, hl, hlen, hall⟩ := DataW.trod_struct ht hx
  refine trod_struct_mk ht hl (mapM_of_get (by simpa using hlen) fun i f hf => ?_)
  have hf : fs[i]? = some f := by simpa using hf
  have h1 := hall i f hf
  have hlt : i < xs.length := by rw [hlen]; exact (Array.getElem?_eq_some_iff.1 hf).1
  rw [List.getElem?_eq_getElem hlt] at h1 ⊢
  exact hL i f.type f.offset (by rw [Array.getElem?_map, hf]; rfl) _ _ _ h1
theorem cells_keep (hb : ∀ k, k < w.heap.size → w'.heap[k]? = w.heap[k]?) {a : Addr} {n : Nat} {cs : List Value} (h : w.cells? 0 a n = some cs) (hn : 0 < n) : w'.cells? 0 a n = some cs := by
  have hlt := World.cells?_block h hn
  refine World.cells?_carry h fun p hp => ?_
  obtain ⟨i, _, rfl⟩ := MemPlace.mem_row.1 hp
  exact World.cell?_of_block (hb _ hlt)
theorem again_slice (hb : ∀ k, k < w.heap.size → w'.heap[k]? = w.heap[k]?) (hsp : ∀ k, k < w.heap.size → sp k = true) {t e : TypeId} (ht : P.underlying t = some (.slice e)) (hk : 0 < P.cellsOf e) (he : Again enc P w w' held sp e) : Again enc P w w' held sp t := by
  intro n cs x h
  rcases DataW.trod_slice ht h with ⟨rfl, rfl⟩ | ⟨a, len, cap, elems, rest, m, rfl, rfl, rfl, _, hlc, hcm, hel, hall, hspare, _⟩
  · cases n with
    | zero => simp [DataW.trod] at h
    | succ n => simp [DataW.trod, ht]
  · obtain ⟨hrl, hr⟩ := hspare rfl
    have key : ∀ i y, (w.cells? 0 (a.add (i * P.cellsOf e)) (P.cellsOf e)).bind (DataW.trod enc P w 0 (fun _ => true) held m e) = some y → (w'.cells? 0 (a.add (i * P.cellsOf e)) (P.cellsOf e)).bind (DataW.trod enc P w' 0 sp held m e) = some y := by
      intro i y hy
      obtain ⟨ci, h1, h2⟩ := Option.bind_eq_some_iff.1 hy
      rw [cells_keep hb h1 hk]
      exact he _ _ _ h2
    have hm1 : ((List.range len).mapM fun i => (w'.cells? 0 (a.add (i * P.cellsOf e)) (P.cellsOf e)).bind (DataW.trod enc P w' 0 sp held m e)) = some elems := by
      refine mapM_of_get (by simpa using hel) fun j i hj => ?_
      obtain ⟨hj1, hj2⟩ := List.getElem?_eq_some_iff.1 hj
      simp only [List.getElem_range] at hj2
      subst hj2
      have hlt : j < elems.length := by simpa [hel] using hj1
      rw [List.getElem?_eq_getElem hlt]
      exact key _ _ (by rw [hall j (by omega), List.getElem?_eq_getElem hlt])
    have hm2 : (if sp a.block then (List.range (cap - len)).mapM fun j => (w'.cells? 0 (a.add ((len + j) * P.cellsOf e)) (P.cellsOf e)).bind (DataW.trod enc P w' 0 sp held m e) else some []) = some rest := by
      by_cases hlt : a.block < w.heap.size
      · rw [if_pos (hsp _ hlt)]
        refine mapM_of_get (by simpa using hrl) fun j i hj => ?_
        obtain ⟨hj1, hj2⟩ := List.getElem?_eq_some_iff.1 hj
        simp only [List.getElem_range] at hj2
        subst hj2
        have hlt : j < rest.length := by simpa [hrl] using hj1
        rw [List.getElem?_eq_getElem hlt]
        exact key _ _ (by rw [hr j (by omega), List.getElem?_eq_getElem hlt])
      · have h0 : rest = [] := by
          by_cases h0 : 0 < rest.length
          · exfalso
            have := hr 0 (by omega)
            rw [List.getElem?_eq_getElem h0] at this
            obtain ⟨ci, h1, _⟩ := Option.bind_eq_some_iff.1 this
            exact hlt (by have := World.cells?_block h1 hk; rwa [blk_add] at this)
          · exact List.eq_nil_of_length_eq_zero (by omega)
        subst h0
        split
        · have : cap - len = 0 := by simpa using hrl.symm
          rw [this]; rfl
        · rfl
    unfold DataW.trod
    rw [ht]
    dsimp only
    rw [if_pos ⟨Nat.zero_le _, hlc, hcm⟩, hm1, Option.bind_some, hm2]
    rfl
end
/-! ### what they are -/
section
variable {H : Type} {enc : TypeId × Value → H} {w : World} {held : Bool}
theorem ent_fields : ∃ fs, Tryd.prog.underlying 25 = some (.struct fs) ∧ fs.map (fun f => (f.type, f.offset)) = #[(3, 0), (3, 1), (3, 2), (3, 3), (3, 4), (5, 5), (22, 6), (23, 7)] := und_struct (by kernel_rfl)
theorem plan_fields : ∃ fs, Tryd.prog.underlying 31 = some (.struct fs) ∧ fs.map (fun f => (f.type, f.offset)) = #[(3, 0), (29, 1)] := und_struct (by kernel_rfl)
theorem und_int : Tryd.prog.underlying 3 = some (.int .i64) := by kernel_rfl
theorem und_u8 : Tryd.prog.underlying 5 = some (.int .u8) := by kernel_rfl
theorem und_u8s : Tryd.prog.underlying 22 = some (.slice 5) := by kernel_rfl
theorem und_errno : Tryd.prog.underlying 23 = some (.int .i64) := by kernel_rfl
theorem und_ents : Tryd.prog.underlying 29 = some (.slice 25) := by kernel_rfl
theorem cells_of : Tryd.prog.cellsOf 3 = 1 ∧ Tryd.prog.cellsOf 5 = 1 ∧ Tryd.prog.cellsOf 22 = 1 ∧ Tryd.prog.cellsOf 23 = 1 ∧ Tryd.prog.cellsOf 29 = 1 ∧ Tryd.prog.cellsOf 25 = 8 ∧ Tryd.prog.cellsOf 31 = 2 := ⟨by kernel_rfl, by kernel_rfl, by kernel_rfl, by kernel_rfl, by kernel_rfl, by kernel_rfl, by kernel_rfl⟩
theorem again_entry {w' : World} {sp : Nat → Bool} (hb : ∀ k, k < w.heap.size → w'.heap[k]? = w.heap[k]?) (hsp : ∀ k, k < w.heap.size → sp k = true) : Again enc Tryd.prog w w' held sp 25 := by
  refine again_struct ent_fields fun i u off h => ?_
  have hi : i < 8 := by have := (Array.getElem?_eq_some_iff.1 h).1; simpa using this
  have hu : u = 3 ∨ u = 5 ∨ u = 22 ∨ u = 23 := by
    have : i = 0 ∨ i = 1 ∨ i = 2 ∨ i = 3 ∨ i = 4 ∨ i = 5 ∨ i = 6 ∨ i = 7 := by omega
    rcases this with rfl | rfl | rfl | rfl | rfl | rfl | rfl | rfl <;> (injection h with h; injection h with h _; subst h; simp)
  rcases hu with rfl | rfl | rfl | rfl
  · exact again_int und_int
  · exact again_int und_u8
  · exact again_slice hb hsp und_u8s (by rw [cells_of.2.1]; decide) (again_int und_u8)
  · exact again_int und_errno
theorem again_plan {w' : World} {sp : Nat → Bool} (hb : ∀ k, k < w.heap.size → w'.heap[k]? = w.heap[k]?) (hsp : ∀ k, k < w.heap.size → sp k = true) : Again enc Tryd.prog w w' held sp 31 := by
  refine again_struct plan_fields fun i u off h => ?_
  have hi : i < 2 := by have := (Array.getElem?_eq_some_iff.1 h).1; simpa using this
  have : i = 0 ∨ i = 1 := by omega
  rcases this with rfl | rfl
  · injection h with h; injection h with h _; subst h
    exact again_int und_int
  · injection h with h; injection h with h _; subst h
    exact again_slice hb hsp und_ents (by rw [cells_of.2.2.2.2.2.1]; decide) (again_entry hb hsp)

theorem open_bytes {n : Nat} {c : Value} {y : DataW H × List MemPlace} (h : DataW.trod enc Tryd.prog w 0 (fun _ => true) held n 22 [c] = some y) :
    ∃ A bs cap, c = .slice A bs.length cap ∧ (∀ x ∈ bs, x < 256) ∧ bs.length ≤ 9223372036854775807 ∧ bs.length ≤ cap ∧ (A = none → cap = 0) ∧ BytesRd w A bs := by
  rcases open_ints und_u8s und_u8 cells_of.2.1 h with ⟨hc, _⟩ | ⟨a, len, cap, zs, hc, _, hl, hm, hz, _, hcell, hwf⟩
  · injection hc with hc
    exact ⟨none, [], 0, hc, fun x hx => (by cases hx), by decide, Nat.le_refl _, fun _ => rfl, .inl ⟨rfl, rfl⟩⟩
  · injection hc with hc
    rw [if_pos rfl] at hz
    have hlen : ((zs.take len).map Int.toNat).length = len := by simp; omega
    have hget : ∀ j, j < len → 0 ≤ zs.getD j 0 ∧ zs.getD j 0 ≤ 255 := fun j hj => by
      have := range_u8 hwf j
      simpa [List.getD_eq_getElem?_getD] using this
    refine ⟨some a, (zs.take len).map Int.toNat, cap, by rw [hlen]; exact hc, fun x hx => ?_, by rw [hlen]; exact Nat.le_trans hl hm, by rw [hlen]; exact hl, fun h => (by cases h), .inr ⟨a, rfl, fun j hj => ?_⟩⟩
    · obtain ⟨z, hz1, rfl⟩ := List.mem_map.1 hx
      have := bounds_u8 (hwf z (List.mem_of_mem_take hz1))
      omega
    · rw [hlen] at hj
      rw [hcell j (by omega)]
      have h1 := hget j hj
      have hjz : j < zs.length := by omega
      have e : ((zs.take len).map Int.toNat).getD j 0 = (zs.getD j 0).toNat := by
        simp [List.getD_eq_getElem?_getD, List.getElem?_take_of_lt hj, List.getElem?_eq_getElem hjz]
      rw [e]
      congr 2
      omega

set_option maxRecDepth 100000 in
theorem open_entry {n : Nat} {cs : List Value} {x : DataW H × List MemPlace} (h : DataW.trod enc Tryd.prog w 0 (fun _ => true) held n 25 cs = some x) :
    ∃ R A cap, cs = (rawArr R A cap).toList ∧ RawE.Ok R ∧ R.bs.length ≤ cap ∧ (A = none → cap = 0) ∧ BytesRd w A R.bs := by
  obtain ⟨fs, ht, hL⟩ := ent_fields
  obtain ⟨xs, m, rfl, rfl, hl, hlen, hall⟩ := DataW.trod_struct ht h
  rw [cells_of.2.2.2.2.2.1] at hl
  obtain ⟨c0, c1, c2, c3, c4, c5, c6, c7, rfl⟩ : ∃ c0 c1 c2 c3 c4 c5 c6 c7, cs = [c0, c1, c2, c3, c4, c5, c6, c7] := by
    match cs, hl with
    | [c0, c1, c2, c3, c4, c5, c6, c7], _ => exact ⟨c0, c1, c2, c3, c4, c5, c6, c7, rfl⟩
  obtain ⟨y0, h0⟩ := field_at ht hL hlen hall (i := 0) rfl
  obtain ⟨y1, h1⟩ := field_at ht hL hlen hall (i := 1) rfl
  obtain ⟨y2, h2⟩ := field_at ht hL hlen hall (i := 2) rfl
  obtain ⟨y3, h3⟩ := field_at ht hL hlen hall (i := 3) rfl
  obtain ⟨y4, h4⟩ := field_at ht hL hlen hall (i := 4) rfl
  obtain ⟨y5, h5⟩ := field_at ht hL hlen hall (i := 5) rfl
  obtain ⟨y6, h6⟩ := field_at ht hL hlen hall (i := 6) rfl
  obtain ⟨y7, h7⟩ := field_at ht hL hlen hall (i := 7) rfl
  rw [cells_of.1] at h0 h1 h2 h3 h4
  rw [cells_of.2.1] at h5
  rw [cells_of.2.2.1] at h6
  rw [cells_of.2.2.2.1] at h7
  obtain ⟨k, e0, _, w0⟩ := DataW.trod_int und_int h0
  obtain ⟨s, e1, _, w1⟩ := DataW.trod_int und_int h1
  obtain ⟨a, e2, _, w2⟩ := DataW.trod_int und_int h2
  obtain ⟨b, e3, _, w3⟩ := DataW.trod_int und_int h3
  obtain ⟨c, e4, _, w4⟩ := DataW.trod_int und_int h4
  obtain ⟨ch, e5, _, w5⟩ := DataW.trod_int und_u8 h5
  obtain ⟨er, e7, _, w7⟩ := DataW.trod_int und_errno h7
  obtain ⟨A, bs, cap, rfl, hb1, hb2, hb3, hb4, hb5⟩ := open_bytes (c := c6) h6
  injection e0 with e0
  injection e1 with e1
  injection e2 with e2
  injection e3 with e3
  injection e4 with e4
  injection e5 with e5
  injection e7 with e7
  subst e0 e1 e2 e3 e4 e5 e7
  have hch := bounds_u8 w5
  exact ⟨⟨k, s, a, b, c, ch, er, bs⟩, A, cap, rfl, ⟨bounds_i64 w0, bounds_i64 w1, bounds_i64 w2, bounds_i64 w3, bounds_i64 w4, hch.1, hch.2, hb1, hb2⟩, hb3, hb4, hb5⟩

set_option maxRecDepth 100000 in
theorem open_plan {n : Nat} {cs : List Value} {x : DataW H × List MemPlace} (h : DataW.trod enc Tryd.prog w 0 (fun _ => true) held n 31 cs = some x) :
    ∃ cl A k cap, cs = [.int .i64 cl, .slice A k cap] ∧ i64 cl ∧ RawsIn w A k := by
  obtain ⟨fs, ht, hL⟩ := plan_fields
  obtain ⟨xs, m, rfl, rfl, hl, hlen, hall⟩ := DataW.trod_struct ht h
  rw [cells_of.2.2.2.2.2.2] at hl
  obtain ⟨c0, c1, rfl⟩ : ∃ c0 c1, cs = [c0, c1] := by
    match cs, hl with
    | [c0, c1], _ => exact ⟨c0, c1, rfl⟩
  obtain ⟨y0, h0⟩ := field_at ht hL hlen hall (i := 0) rfl
  obtain ⟨y1, h1⟩ := field_at ht hL hlen hall (i := 1) rfl
  rw [cells_of.1] at h0
  rw [cells_of.2.2.2.2.1] at h1
  obtain ⟨cl, e0, _, w0⟩ := DataW.trod_int und_int h0
  injection e0 with e0
  subst e0
  rcases Go.Deep.open_slice und_ents h1 with ⟨hc, _⟩ | ⟨a, len, cap, M, n', D, Pl, hc, _, hlc, _, hM, _, hx⟩
  · injection hc with hc
    subst hc
    exact ⟨_, none, 0, 0, rfl, bounds_i64 w0, .inl rfl⟩
  · injection hc with hc
    subst hc
    rw [if_pos rfl] at hM
    refine ⟨_, some a, len, cap, rfl, bounds_i64 w0, ?_⟩
    by_cases hz : len = 0
    · exact .inl hz
    rw [cells_of.2.2.2.2.2.1] at hx
    have hsp : a.spot = none := by
      obtain ⟨ci, hc1, _⟩ := hx 0 (by omega)
      obtain ⟨hl, hc⟩ := cells_cell hc1
      have := hc 0 (by decide)
      rw [List.getElem?_eq_getElem (by omega)] at this
      have := cell_spot this
      simpa [Addr.add] using this
    obtain ⟨b, o, s⟩ := a
    simp only [] at hsp
    subst hsp
    have hlt : b < w.heap.size := by
      obtain ⟨ci, hc1, _⟩ := hx 0 (by omega)
      have := World.cells?_block hc1 (by decide)
      simpa [Addr.add] using this
    refine .inr ⟨b, o, rfl, hlt, fun i hi => ?_⟩
    obtain ⟨ci, hc1, hc2⟩ := hx i (by omega)
    obtain ⟨R, A, cp, rfl, k1, k2, k3, k4⟩ := open_entry hc2
    refine ⟨R, A, cp, k1, k2, k3, k4, fun j v hv => ?_⟩
    obtain ⟨hl, hc⟩ := cells_cell hc1
    have hj : j < 8 := by have := (List.getElem?_eq_some_iff.1 hv).1; omega
    have := hc j hj
    rw [Addr.add_mid, Addr.add_mid, hv] at this
    exact this
end
end Go.Proofs.YtbjkljmhhpoooaaDoor
