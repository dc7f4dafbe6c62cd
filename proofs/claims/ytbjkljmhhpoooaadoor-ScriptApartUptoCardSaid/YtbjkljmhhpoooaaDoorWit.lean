/-
  A WORLD FOR THE WITNESS of the rows that Parse and Print.
-/
import Derived.Test.YtbjkljmhhpoooaaDoorTabR
import Derived.Lib.LaidIn
namespace Go.Proofs.YtbjkljmhhpoooaaDoor
open Go.RowKit
set_option linter.unusedVariables false

/-- A table's cells, as the row tells it. -/
def datCells : DataW Unit → Array Value
  | .agg l => (l.map fun d => match d with | .lit (.int k z) => Value.int k z | _ => undef).toArray
  | _ => #[]
/-- A table of rows of integers. -/
def datRows : DataW Unit → Array Value
  | .agg l => (l.flatMap fun d => (datCells d).toList).toArray
  | _ => #[]
/-- A WORLD FOR THE WITNESS. -/
noncomputable def laidWorldR (os : Os) : World :=
  let N := (World.settled Tryd.prog os).heap.size
  let fsl (i n : Nat) : Value := .slice (some ⟨N + i, 0, none⟩) n n
  let fb (l : List Int) : Obj := .cells (l.map fun z => Value.int .i64 z).toArray 3
  let w0 := World.holding Tryd.prog os ⟨#[
    .cells #[.string ⟨#[105, 110, 115, 101, 114, 116]⟩, fsl 1 3, .string ⟨#[100, 101, 108, 101, 116, 101]⟩, fsl 2 2, .string ⟨#[116, 105, 99, 107]⟩, fsl 3 1, .string ⟨#[100, 101, 108, 105, 118, 101, 114]⟩, fsl 4 1, .string ⟨#[100, 114, 111, 112]⟩, fsl 5 1,
      .string ⟨#[100, 111, 117, 98, 108, 101]⟩, fsl 6 1, .string ⟨#[102, 108, 105, 112]⟩, fsl 7 3, .string ⟨#[97, 108, 108]⟩, .slice none 0 0, .string ⟨#[114, 111, 117, 110, 100]⟩, .slice none 0 0, .string ⟨#[99, 114, 97, 115, 104]⟩, fsl 8 3,
      .string ⟨#[98, 111, 111, 116]⟩, .slice none 0 0, .string ⟨#[115, 116, 117, 109, 98, 108, 101]⟩, fsl 9 3, .string ⟨#[102, 111, 114, 103, 101]⟩, fsl 10 2] 51,
    fb [0, 2, 8], fb [0, 2], fb [1], fb [3], fb [3], fb [3], fb [3, 4, 5], fb [6, 6, 7], fb [6, 6, 7], fb [1, 9]], #[], []⟩
  let put (h : Array Obj) (g : Nat) (cs : Array Value) : Array Obj := h.modify g fun
    | .cells _ t frozen => .cells cs t frozen
    | o => o
  let h1 := put w0.heap 6 (datCells Rows.laid_unicode_utf8_first)
  let h2 := put h1 7 (datRows Rows.laid_unicode_utf8_acceptRanges)
  let h3 := put h2 0 #[.slice (some ⟨N, 0, none⟩) 13 13]
  let h4 := put h3 1 (datCells Rows.laid_jotter_script_least)
  let h5 := put h4 2 (datCells Rows.laid_jotter_script_most)
  let h6 := put h5 5 (datCells Rows.laid_internal_strconv_uint64pow10)
  let h7 := put h6 8 (datCells Rows.laid_math_bits_deBruijn32tab)
  let h8 := put h7 9 (datCells Rows.laid_math_bits_deBruijn64tab)
  { w0 with heap := h8 }
noncomputable abbrev N0R : Nat := (World.settled Tryd.prog default).heap.size
theorem laidR_met (os : Os) (args : Array Value) : laidMet Tryd.prog Rows.scriptRefusedRow.laid ((laidWorldR os).forCall (fun _ _ => 0) ⟨#[], args, []⟩).memory :=
  (LaidIn.of_run (l := Rows.scriptRefusedRow.laid) [8, 9, 5, 0, 1, 2, 6, 7, N0R, N0R + 1, N0R + 2, N0R + 3, N0R + 4, N0R + 5, N0R + 6, N0R + 7, N0R + 8, N0R + 9, N0R + 10] 8 (by kernel_rfl) (by kernel_rfl) (by kernel_rfl) (by kernel_rfl)).met
end Go.Proofs.YtbjkljmhhpoooaaDoor
