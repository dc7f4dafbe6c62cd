/- What the row's laid tables give: the cells of script.verbs, least, most. -/
import Derived.Test.YtbjkljmhhpoooaaDoorLine
import Derived.Test.YtbjkljmhhpoooaaDoorRows
import Derived.ChangeArms
import Derived.Lib.LaidTab
namespace Go.Proofs.YtbjkljmhhpoooaaDoor
open Go.RowKit
set_option linter.unusedVariables false

section
variable {H : Type} {enc : TypeId × Value → H} {P : Program} {w : World} {sp : Nat → Bool} {held : Bool} {fuel : Nat} {t e : TypeId} {cs : List Value} {p : List MemPlace}
theorem cells_cell {base : Nat} {a : Addr} {n : Nat} {ci : List Value} (h : w.cells? base a n = some ci) : ci.length = n ∧ ∀ j, j < n → w.cell? (a.add j) = ci[j]? := by
  unfold World.cells? at h
  split at h
  · refine ⟨by simpa using Lib.mapM_length h, fun j hj => ?_⟩
    obtain ⟨b, hb, hf⟩ := Lib.mapM_at h j j (by simp [hj])
    rw [hf, hb]
  · cases h
theorem cell_spot {a : Addr} {v : Value} (h : w.cell? a = some v) : a.spot = none := by
  unfold World.cell? at h
  split at h
  · split at h
    · cases h
    · rename_i hs; simpa using hs
  · cases h
theorem slice_inv {base : Nat} (ht : P.underlying t = some (.slice e)) {k : Nat} (hk : P.cellsOf e = k) (hk0 : 0 < k) {ds : List (DataW H)} {sps : List (DataW H)} (hpos : 0 < ds.length) (h : DataW.trod enc P w base sp held fuel t cs = some (.slice ds sps, p)) :
    ∃ b o cap, cs = [.slice (some ⟨b, o, none⟩) ds.length cap] ∧ ds.length ≤ cap ∧ ∀ i d, ds[i]? = some d → ∃ ci q n, ci.length = k ∧ (∀ j, j < k → w.cell? ⟨b, o + i * k + j, none⟩ = ci[j]?) ∧ DataW.trod enc P w base sp held n e ci = some (d, q) := by
  rcases DataW.trod_slice ht h with ⟨_, hx⟩ | ⟨a, len, cap, elems, rest, n, _, rfl, hx, hb, hlc, hcm, hel, hall, _⟩
  · injection hx with hx; cases hx
  · injection hx with hx hx2
    injection hx with hx1 hx3
    have hlen : ds.length = len := by rw [hx1]; simpa using hel
    rw [hk] at hall
    have hget : ∀ i d, ds[i]? = some d → ∃ ci q, w.cells? base (a.add (i * k)) k = some ci ∧ DataW.trod enc P w base sp held n e ci = some (d, q) := by
      intro i d hd
      have hi : i < len := by rw [← hlen]; exact (List.getElem?_eq_some_iff.1 hd).1
      have h1 := hall i hi
      rw [hx1, List.getElem?_map] at hd
      obtain ⟨x, hx, hxd⟩ := Option.map_eq_some_iff.1 hd
      rw [hx] at h1
      obtain ⟨ci, hc1, hc2⟩ := Option.bind_eq_some_iff.1 h1
      exact ⟨ci, x.2, hc1, by rw [hc2, ← hxd]⟩
    have hspot : a.spot = none := by
      obtain ⟨ci, q, hc1, _⟩ := hget 0 _ (List.getElem?_eq_getElem hpos)
      obtain ⟨hl, hc⟩ := cells_cell hc1
      have := hc 0 hk0
      rw [List.getElem?_eq_getElem (by omega)] at this
      have := cell_spot this
      simpa [Addr.add] using this
    obtain ⟨b, o, s⟩ := a
    simp only [] at hspot
    subst hspot
    refine ⟨b, o, cap, by rw [hlen], by omega, fun i d hd => ?_⟩
    obtain ⟨ci, q, hc1, hc2⟩ := hget i d hd
    obtain ⟨hl, hc⟩ := cells_cell hc1
    refine ⟨ci, q, n, hl, fun j hj => ?_, hc2⟩
    have := hc j hj
    rw [Addr.add_mid, Addr.add_mid] at this
    exact this
/-- a slice of whole numbers, as a row tells it -/
def dInts (zs : List Nat) : DataW H := if zs = [] then .nil else .slice (zs.map fun (z : Nat) => .lit (.int .i64 (z : Int))) []
theorem ints_inv {base : Nat} (ht : P.underlying t = some (.slice e)) (he : P.underlying e = some (.int .i64)) (hk : P.cellsOf e = 1) {zs : List Nat} (hz : zs.length ≤ 4294967296) (h : DataW.trod enc P w base sp held fuel t cs = some (dInts zs, p)) :
    ∃ A cap, cs = [.slice A zs.length cap] ∧ IntsIn w A zs := by
  unfold dInts at h
  by_cases h0 : zs = []
  · subst h0
    rw [if_pos rfl] at h
    rcases DataW.trod_slice ht h with ⟨hc, _⟩ | ⟨a, len, cap, elems, rest, n, _, _, hx, _⟩
    · exact ⟨none, 0, hc, ⟨by simp, fun h => absurd h (by decide)⟩⟩
    · injection hx with hx; cases hx
  · rw [if_neg h0] at h
    have hpos : 0 < zs.length := List.length_pos_iff.2 h0
    obtain ⟨b, o, cap, hc, hcap, hall⟩ := slice_inv ht hk (by decide) (by simpa using hpos) h
    have hcell : ∀ j, j < zs.length → w.cell? ⟨b, o + j, none⟩ = some (.int .i64 ((zs.getD j 0 : Nat) : Int)) := by
      intro j hj
      obtain ⟨ci, q, n, hl, hcc, htr⟩ := hall j (.lit (.int .i64 ((zs[j] : Nat) : Int))) (by simp [hj])
      obtain ⟨m, hm, hx, _⟩ := DataW.trod_int he htr
      injection hx with hx
      injection hx with hx
      injection hx with _ hx
      have := hcc 0 (by decide)
      rw [hm, Nat.mul_one] at this
      rw [Nat.add_zero] at this
      rw [this]
      simp [List.getD_eq_getElem?_getD, hj, hx]
    refine ⟨some ⟨b, o, none⟩, cap, by simpa using hc, hz, fun _ => ⟨b, o, rfl, ?_, hcell⟩⟩
    exact World.block_lt_of_cell? w _ (hcell 0 hpos)
theorem row_inv {base : Nat} {fs : Array Field} (ht : P.underlying t = some (.struct fs)) {ts tl : TypeId} (hfs : fs.map (fun f => (f.type, f.offset)) = #[(ts, 0), (tl, 1)]) (hc : P.cellsOf t = 2) (hs1 : P.cellsOf ts = 1) (hs2 : P.cellsOf tl = 1) (hts : P.underlying ts = some .string)
    {bs : List UInt8} {d : DataW H} (h : DataW.trod enc P w base sp held fuel t cs = some (.agg [.lit (.string bs), d], p)) :
    ∃ vf q n, cs = [.string ⟨bs.toArray⟩, vf] ∧ DataW.trod enc P w base sp held n tl [vf] = some (d, q) := by
  obtain ⟨xs, n, _, hx, hlen, hsz, hall⟩ := DataW.trod_struct ht h
  injection hx with hx _
  injection hx with hx
  have hfl : fs.size = 2 := by have := congrArg Array.size hfs; simpa using this
  have h0 : (fs.map (fun f => (f.type, f.offset)))[0]? = some (ts, 0) := by rw [hfs]; rfl
  have h1 : (fs.map (fun f => (f.type, f.offset)))[1]? = some (tl, 1) := by rw [hfs]; rfl
  rw [Array.getElem?_map] at h0 h1
  obtain ⟨f0, hf0, e0⟩ := Option.map_eq_some_iff.1 h0
  obtain ⟨f1, hf1, e1⟩ := Option.map_eq_some_iff.1 h1
  injection e0 with e0 e0'
  injection e1 with e1 e1'
  have a0 := hall 0 f0 hf0
  have a1 := hall 1 f1 hf1
  rw [e0, e0', hs1] at a0
  rw [e1, e1', hs2] at a1
  obtain ⟨x0, x1, rfl⟩ : ∃ x0 x1, xs = [x0, x1] := by
    match xs, hsz.trans hfl with
    | [x0, x1], _ => exact ⟨x0, x1, rfl⟩
  obtain ⟨c0, c1, rfl⟩ : ∃ c0 c1, cs = [c0, c1] := by
    match cs, hlen.trans hc with
    | [c0, c1], _ => exact ⟨c0, c1, rfl⟩
  simp only [List.map_cons, List.map_nil, List.cons.injEq, and_true] at hx
  simp at a0 a1
  obtain ⟨s, hs, hxs, _⟩ := DataW.trod_string hts a0
  injection hs with hs
  rw [hxs] at hx
  have hb := hx.1
  injection hb with hb
  injection hb with hb
  refine ⟨c1, x1.2, n, ?_, by rw [a1]; exact congrArg some (by rw [hx.2])⟩
  rw [hs, hb]
end
end Go.Proofs.YtbjkljmhhpoooaaDoor
