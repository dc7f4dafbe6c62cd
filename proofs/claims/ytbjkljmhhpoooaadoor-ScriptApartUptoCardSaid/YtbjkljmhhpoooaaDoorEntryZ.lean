/- script.entry for no words and no forms; and all of its cases in one contract. -/
import Derived.Test.YtbjkljmhhpoooaaDoorEntry
namespace Go.Proofs.YtbjkljmhhpoooaaDoor
open Go.RowKit
set_option linter.unusedVariables false

set_option maxRecDepth 100000 in
set_option maxHeartbeats 1000000 in
theorem entry_zero (k : Nat) (AF AW : Option Addr) (cF cW : Nat) (w : World) :
    Calls Tryd.prog 21 #[.int .i64 (k : Int), .slice AF 0 cF, .slice AW 0 cW] w fun e w' => EntRet w.heap.size w ⟨k, 0, 0, 0, 0, 0, [], 0⟩ e w' := by
  go_enter Tryd.func21, Tryd.ntmps21
  go_wp2_with fail
  refine wp_loop_rounds 1 ?_
  rw [rounds_succ]
  go_wp2_with (first | (refine wpList_load_block rfl 25 _ rfl (w.heap.size + 1 + 1) _ _ rfl (alloc_old (alloc_at (by simp))) (by kernel_rfl) (by kernel_rfl) ?_) | (refine wpList_store_block rfl 25 _ _ rfl (w.heap.size + 1) _ zeroCells8 _ rfl rfl (alloc_old (alloc_old (alloc_at (by simp)))) rfl (by kernel_rfl) rfl ?_; intro w2 hw2))
  refine bodyPost_ret (v := .agg #[.int .i64 (k : Int), .int .i64 0, .int .i64 0, .int .i64 0, .int .i64 0, .int .u8 0, .slice none 0 0, .int .i64 0]) (results_cell Tryd.results21 rfl hw2.at_ (by kernel_rfl) (by kernel_rfl)) rfl ?_
  refine ⟨_, rfl, ⟨_, rfl, own_nil0 _ _ _ _⟩, Below.trans ?_ (hw2.below (by omega))⟩
  repeat (first | exact Below.refl _ _ | (refine Below.alloc ?_ (by simp <;> omega) _) | (refine Below.setCell ?_ (by simp <;> omega) _))

/-- WHAT script.entry ANSWERS. -/
theorem entry_calls (k : Nat) (AF AW : Option Addr) (cF cW : Nat) (fs : List Nat) (ws : List ByteArray) (w : World) (hf : IntsIn w AF fs) (hw : StrsIn w AW ws) (hn : numsLeft fs ≤ 3) (h9 : ∀ f, f ∈ fs → f ≤ 9) (hz : ∀ j, (ws.getD j ByteArray.empty).size ≤ 1099511627776)
    (hg1 : ∀ f, f < 8 → w.cell? ⟨1, f, none⟩ = some (.int .i64 (lows.getD f 0 : Nat))) (hg2 : ∀ f, f < 8 → w.cell? ⟨2, f, none⟩ = some (.int .i64 (mosts.getD f 0 : Nat))) :
    Calls Tryd.prog 21 #[.int .i64 (k : Int), .slice AF fs.length cF, .slice AW ws.length cW] w fun e w' => EntRet w.heap.size w (entryS k fs (strL ws)) e w' := by
  by_cases hl : ws.length = fs.length
  · by_cases h0 : fs.length = 0
    · obtain rfl := List.eq_nil_of_length_eq_zero h0
      obtain rfl := List.eq_nil_of_length_eq_zero (hl.trans h0)
      have := entry_zero k AF AW cF cW w
      exact this
    · obtain ⟨bf, of, rfl, hb, hc⟩ := hf.2 (by omega)
      obtain ⟨bw, ow, rfl, hb', hc'⟩ := hw.2 (by omega)
      exact entry_run k bf of bw ow cF cW fs ws w hl hf.1 hb hb' hc hc' hn h9 hz hg1 hg2
  · exact entry_len k AF AW cF cW fs ws w hl hf hw
end Go.Proofs.YtbjkljmhhpoooaaDoor
