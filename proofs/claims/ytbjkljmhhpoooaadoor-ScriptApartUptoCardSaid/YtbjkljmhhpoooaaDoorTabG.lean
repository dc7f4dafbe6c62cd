/- The tables of script, out of a row's laid variables. -/
import Derived.Test.YtbjkljmhhpoooaaDoorLaid
namespace Go.Proofs.YtbjkljmhhpoooaaDoor
open Go.RowKit
set_option linter.unusedVariables false

def vRows (H : Type) : List (DataW H) := (List.range 13).map fun j => .agg [.lit (.string (vWords.getD j ByteArray.empty).data.toList), dInts (vForms.getD j [])]
theorem verbs_data : (Rows.laid_jotter_script_verbs : DataW Unit) = .slice (vRows Unit) [] := by kernel_rfl
theorem most_data : (Rows.laid_jotter_script_most : DataW Unit) = Lib.tabData .i64 [64, 64, 4095, 2047, 63, 255, 262144, 255] := rfl
theorem least_data : (Rows.laid_jotter_script_least : DataW Unit) = Lib.tabData .i64 [1, 0, 0, 0, 0, 1, 0, 0] := rfl
theorem und_row : ∃ fs, Tryd.prog.underlying 51 = some (.struct fs) ∧ fs.map (fun f => (f.type, f.offset)) = #[(9, 0), (50, 1)] := by
  have h : (match Tryd.prog.underlying 51 with | some (.struct fs) => some (fs.map (fun f => (f.type, f.offset))) | _ => none) = some #[(9, 0), (50, 1)] := by kernel_rfl
  split at h
  · rename_i fs hfs
    exact ⟨fs, hfs, Option.some.inj h⟩
  · cases h
theorem und_verbs : Tryd.prog.underlying 49 = some (.slice 51) := by kernel_rfl
theorem und_ints : Tryd.prog.underlying 50 = some (.slice 3) := by kernel_rfl
theorem und_int : Tryd.prog.underlying 3 = some (.int .i64) := by kernel_rfl
theorem und_str : Tryd.prog.underlying 9 = some .string := by kernel_rfl
theorem und_arr : Tryd.prog.underlying 86 = some (.array 8 3) := by kernel_rfl

theorem formsG_len : ∀ i : Fin 13, (vForms.getD i.val []).length ≤ 5 := by decide
theorem verbs_of {w : World} {fuel : Nat} {cs : List Value} {p : List MemPlace} {cap0 : Nat} (hg : w.cell? ⟨0, 0, none⟩ = cs[0]?)
    (h : DataW.trod (fun _ => ()) Tryd.prog w 0 (fun _ => true) false fuel 49 cs = some (.slice (vRows Unit) [], p))
    (least : ∀ f, f < 8 → w.cell? ⟨1, f, none⟩ = some (.int .i64 (lows.getD f 0 : Nat))) (most : ∀ f, f < 8 → w.cell? ⟨2, f, none⟩ = some (.int .i64 (mosts.getD f 0 : Nat))) :
    ∃ V o cap F C, VerbsAt V o cap F C w := by
  obtain ⟨fs, hfs, hfo⟩ := und_row
  obtain ⟨V, o, cap, hc, hcap, hall⟩ := slice_inv und_verbs (k := 2) (by kernel_rfl) (by decide) (by simp [vRows]) h
  have hlen : (vRows Unit).length = 13 := by simp [vRows]
  rw [hlen] at hc
  have hrow : ∀ j, ∃ A c, j < 13 → (w.cell? ⟨V, o + 2 * j, none⟩ = some (.string (vWords.getD j ByteArray.empty)) ∧ w.cell? ⟨V, o + 2 * j + 1, none⟩ = some (.slice A (vForms.getD j []).length c) ∧ IntsIn w A (vForms.getD j [])) := by
    intro j
    by_cases hj : j < 13
    · obtain ⟨ci, q, n, hl, hcell, htr⟩ := hall j (.agg [.lit (.string (vWords.getD j ByteArray.empty).data.toList), dInts (vForms.getD j [])]) (by simp [vRows, hj])
      obtain ⟨vf, q2, n2, hci, htr2⟩ := row_inv hfs hfo (by kernel_rfl) (by kernel_rfl) (by kernel_rfl) und_str htr
      obtain ⟨A, c, hvf, hin⟩ := ints_inv und_ints und_int (by kernel_rfl) (by have := formsG_len ⟨j, hj⟩; simp only at this; omega) htr2
      injection hvf with hvf _
      refine ⟨A, c, fun _ => ⟨?_, ?_, hin⟩⟩
      · have := hcell 0 (by decide)
        rw [hci, Nat.mul_comm j 2, Nat.add_zero] at this
        exact this
      · have := hcell 1 (by decide)
        rw [hci, Nat.mul_comm j 2, hvf] at this
        exact this
    · exact ⟨none, 0, fun h => absurd h hj⟩
  refine ⟨V, o, cap, fun j => (hrow j).choose, fun j => (hrow j).choose_spec.choose, ?_, fun j hj => ((hrow j).choose_spec.choose_spec hj).1, fun j hj => ((hrow j).choose_spec.choose_spec hj).2.1, fun j hj => ((hrow j).choose_spec.choose_spec hj).2.2, least, most⟩
  rw [hg, hc]; rfl

end Go.Proofs.YtbjkljmhhpoooaaDoor
