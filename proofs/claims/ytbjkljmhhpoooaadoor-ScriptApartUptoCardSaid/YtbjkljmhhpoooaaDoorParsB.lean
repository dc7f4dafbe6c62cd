/-
  script.Parse IN COMPANY, whole: from its entry to its return.
-/
import Derived.Test.YtbjkljmhhpoooaaDoorPars
namespace Go.Proofs.YtbjkljmhhpoooaaDoor
open Go.Conc Go.Co Go.Proofs Go.RowKit
set_option linter.unusedVariables false

theorem veil_none (w : World) : Veil None' w w := ⟨rfl, fun _ _ => rfl, masked_none w, fun _ h => h.elim, rfl, rfl⟩
theorem veil_none_heap {w v : World} (h : Veil None' w v) (k : Nat) : w.heap[k]? = v.heap[k]? := h.same k fun e => e
theorem mildF (N c : Nat) : Mild (RA0 N c) DA0 := ⟨fun _ _ _ h k => h.trans k, fun _ => ⟨rfl, rfl, rfl, rfl, Nat.le_refl _, fun _ _ => rfl⟩⟩
theorem undP : Tryd.prog.underlying 9 = some .string := by kernel_rfl
theorem strI : ∃ i, Tryd.prog.info? 9 = some i := Option.isSome_iff_exists.1 strInfo
theorem rest_ok : okCode Tryd.prog S2 15 restP = true := by kernel_rfl
theorem rest_brought2 : S2.D 15 = [] := by kernel_rfl
theorem results_plan {T : Array Value} {n : Nat} {cells : Array Value} {w : World} (h2 : T[2]? = some (.pointer (some ⟨n, 0, none⟩))) (h3 : T[3]? = some .nilIface) (hh : w.heap[n]? = some (.cells cells 31 (0, 0))) (hs : cells.size = 2) :
    (results Tryd.f15 T).run Tryd.prog w = .ok (.tuple #[.agg cells, .nilIface]) w := by
  have hl := run_loadVar_block (P := Tryd.prog) (ty := 31) hh (by kernel_rfl) (by rw [hs]; kernel_rfl)
  simp [results, h2, h3, asAddr, hl]
theorem zP_one : (.agg #[.int .i64 0, .slice none 0 0] : Value).cells = #[.int .i64 0, .slice none 0 0] := rfl
noncomputable def T0P (s : ByteArray) : Array Value := #[.string s, undef, undef, undef, undef, undef, undef, undef, undef, undef, undef, undef, undef, undef, undef, undef, undef, undef, undef, undef, undef, undef, undef, undef, undef, undef, undef, undef, undef, undef, undef, undef, undef, undef, undef, undef, undef, undef, undef, undef, undef, undef, undef, undef, undef, undef, undef, undef, undef, undef, undef]
def st0P : PS := ⟨true, false, 0, []⟩

section
variable (w0 : World) (cs : List Frame) (m : Int) (V o cap : Nat) (F : Nat → Option Addr) (C : Nat → Nat)
  (hm : w0.cell? ⟨4, 0, none⟩ = some (.int .i64 m)) (hv : VerbsAt V o cap F C w0) (hgs : Tryd.prog.globals.size ≤ w0.heap.size)
include hm hv hgs

/-- From behind the go statement to the first receive. -/
theorem first_way {s : ByteArray} {ls : List ByteArray} (hls : ∀ x ∈ ls, x.size ≤ 1048576) {w : World} (hA : Abv w0.heap.size w0 w) (hsz : w.heap.size = w0.heap.size + 2) (hr : w.heap[w0.heap.size]? = some (.cells #[.int .i64 0, .slice none 0 0] 31 (0, 0))) :
    First Tryd.prog (w0.heap.size + 2) (w0.heap.size + 1) (.string ByteArray.empty) (FinP w0 cs (ls.foldl PS.step st0P)) (ls.map .string) (GP #[.string s, undef, .pointer (some ⟨w0.heap.size, 0, none⟩), .nilIface, .chan (some (w0.heap.size + 1)), undef, undef, undef, undef, .string s, goInt s.size, .bool false, undef, undef, .chan (some (w0.heap.size + 1)), .string s, .chan (some (w0.heap.size + 1)), undef, undef, undef, undef, undef, undef, undef, undef, undef, undef, undef, undef, undef, undef, undef, undef, undef, undef, undef, undef, undef, undef, undef, undef, undef, undef, undef, undef, undef, undef, undef, undef, undef, undef] (.inRegion (match bodyP with | .seq _ (.seq _ (.seq _ (.seq (.region _ ops _) _))) => ops | _ => #[]) [] :: [.code (match bodyP with | .seq _ (.seq _ (.seq _ (.seq _ c))) => c | _ => .skip)]) cs) w := by
  unfold First
  refine way_silent (mildF _ _) rfl (fun _ => stepG_region_end) ?_
  refine way_silent (mildF _ _) rfl (fun _ => stepG_seq) ?_
  refine way_silent (mildF _ _) rfl (fun _ => stepG_region) ?_
  refine way_value rfl rfl (by decide) fun w2 h2 => ⟨_, _, _, exec_alloc planZ rfl w2 #[], ⟨by simp [Go.seen], rfl, rfl, rfl, by simp, fun i hi => Below.heap_alloc _ _ _ hi⟩, ?_⟩
  have hNp : w0.heap.size + 2 ≤ w2.heap.size := by rw [← hsz]; exact h2.size
  have hA2 : Abv w0.heap.size w0 w2 := by
    refine ⟨h2.os.trans hA.os, h2.output.trans hA.output, Nat.le_trans hA.size h2.size, fun k hk => ?_⟩
    rcases h2.same k (Nat.lt_of_lt_of_le hk hA.size) (by omega) with e | ⟨e, _, _⟩
    · exact e.trans (hA.block k hk)
    · omega
  have h02 : w2.heap[w0.heap.size]? = some (.cells #[.int .i64 0, .slice none 0 0] 31 (0, 0)) := by
    rcases h2.same w0.heap.size (by omega) (by omega) with e | ⟨e, _, _⟩
    · exact e.trans hr
    · omega
  rw [zP_one]
  have hA3 := hA2.push (by omega) (.cells #[.int .i64 0, .slice none 0 0] 31)
  have h03 : (w2.alloc (.cells #[.int .i64 0, .slice none 0 0] 31)).heap[w0.heap.size]? = some (.cells #[.int .i64 0, .slice none 0 0] 31 (0, 0)) := by
    rw [Below.heap_alloc _ _ _ (by omega)]; exact h02
  have hp3 : (w2.alloc (.cells #[.int .i64 0, .slice none 0 0] 31)).heap[w2.heap.size]? = some (.cells #[.int .i64 0, .slice none 0 0] 31 (0, 0)) := alloc_at rfl
  generalize w2.alloc (.cells #[.int .i64 0, .slice none 0 0] 31) = w3 at hA3 h03 hp3 ⊢
  generalize w2.heap.size = p at hNp hp3 ⊢
  refine way_silent (mildF _ _) rfl (fun _ => stepG_region_end) ?_
  refine way_silent (mildF _ _) rfl (fun _ => stepG_seq) ?_
  refine way_silent (mildF _ _) rfl (fun _ => stepG_region) ?_
  refine way_pure' (mildF _ _) ⟨#[.string s, undef, .pointer (some ⟨w0.heap.size, 0, none⟩), .nilIface, .chan (some (w0.heap.size + 1)), .pointer (some ⟨p, 0, none⟩), .bool true, undef, undef, .string s, goInt s.size, .bool false, undef, undef, .chan (some (w0.heap.size + 1)), .string s, .chan (some (w0.heap.size + 1)), undef, undef, undef, undef, undef, undef, undef, undef, undef, undef, undef, undef, undef, undef, undef, undef, undef, undef, undef, undef, undef, undef, undef, undef, undef, undef, undef, undef, undef, undef, undef, undef, undef, undef], []⟩ rfl rfl (by decide) (fun _ _ => rfl) rfl ?_
  refine way_pure' (mildF _ _) ⟨#[.string s, undef, .pointer (some ⟨w0.heap.size, 0, none⟩), .nilIface, .chan (some (w0.heap.size + 1)), .pointer (some ⟨p, 0, none⟩), .bool true, .bool false, undef, .string s, goInt s.size, .bool false, undef, undef, .chan (some (w0.heap.size + 1)), .string s, .chan (some (w0.heap.size + 1)), undef, undef, undef, undef, undef, undef, undef, undef, undef, undef, undef, undef, undef, undef, undef, undef, undef, undef, undef, undef, undef, undef, undef, undef, undef, undef, undef, undef, undef, undef, undef, undef, undef, undef], []⟩ rfl rfl (by decide) (fun _ _ => rfl) rfl ?_
  refine way_silent (mildF _ _) rfl (fun _ => stepG_region_end) ?_
  refine way_silent (mildF _ _) rfl (fun _ => stepG_seq) ?_
  refine way_silent (mildF _ _) rfl (fun _ => stepG_seq) ?_
  refine way_silent (mildF _ _) rfl (fun _ => stepG_region) ?_
  refine way_pure' (mildF _ _) ⟨#[.string s, undef, .pointer (some ⟨w0.heap.size, 0, none⟩), .nilIface, .chan (some (w0.heap.size + 1)), .pointer (some ⟨p, 0, none⟩), .bool true, .bool false, undef, .string s, goInt s.size, .bool false, undef, undef, .chan (some (w0.heap.size + 1)), .string s, .chan (some (w0.heap.size + 1)), .chan (some (w0.heap.size + 1)), undef, undef, undef, undef, undef, undef, undef, undef, undef, undef, undef, undef, undef, undef, undef, undef, undef, undef, undef, undef, undef, undef, undef, undef, undef, undef, undef, undef, undef, undef, undef, undef, undef], []⟩ rfl rfl (by decide) (fun _ _ => rfl) rfl ?_
  refine way_silent (mildF _ _) rfl (fun _ => stepG_region_end) ?_
  refine way_silent (mildF _ _) rfl (fun _ => stepG_block) ?_
  refine way_silent (mildF _ _) rfl (fun _ => stepG_loop) ?_
  refine way_silent (mildF _ _) rfl (fun _ => stepG_seq) ?_
  refine way_silent (mildF _ _) rfl (fun _ => stepG_region) ?_
  refine Co.Way.stop fun w4 hr4 => ⟨⟨rfl, step_recv rfl rfl (by decide) rfl chanU strZ rfl w4⟩, fun b hNb hbc hit => ?_⟩
  have hT : PTmps #[.string s, undef, .pointer (some ⟨w0.heap.size, 0, none⟩), .nilIface, .chan (some (w0.heap.size + 1)), .pointer (some ⟨p, 0, none⟩), .bool true, .bool false, undef, .string s, goInt s.size, .bool false, undef, undef, .chan (some (w0.heap.size + 1)), .string s, .chan (some (w0.heap.size + 1)), .chan (some (w0.heap.size + 1)), undef, undef, undef, undef, undef, undef, undef, undef, undef, undef, undef, undef, undef, undef, undef, undef, undef, undef, undef, undef, undef, undef, undef, undef, undef, undef, undef, undef, undef, undef, undef, undef, undef] w0.heap.size p (w0.heap.size + 1) st0P := ⟨rfl, rfl, rfl, rfl, rfl, rfl⟩
  have hp4 : w4.heap[p]? = some (.cells #[.int .i64 0, .slice none 0 0] 31 (0, 0)) := by
    rcases hr4.same p (Array.getElem?_eq_some_iff.1 hp3).1 (by omega) with e | ⟨_, e, _⟩
    · exact e.trans hp3
    · rw [hp3] at e; obtain ⟨s, q, e⟩ := e; cases e
  have h04 : w4.heap[w0.heap.size]? = some (.cells #[.int .i64 0, .slice none 0 0] 31 (0, 0)) := by
    rcases hr4.same _ (Array.getElem?_eq_some_iff.1 h03).1 (by omega) with e | ⟨e, _, _⟩
    · exact e.trans h03
    · omega
  have hA4 : Abv w0.heap.size w0 w4 := by
    refine ⟨hr4.os.trans hA3.os, hr4.output.trans hA3.output, Nat.le_trans hA3.size hr4.size, fun k hk => ?_⟩
    rcases hr4.same k (Nat.lt_of_lt_of_le hk hA3.size) (by omega) with e | ⟨e, _, _⟩
    · exact e.trans (hA3.block k hk)
    · omega
  have hM4 : PMem w4 w0.heap.size w0.heap.size p st0P (.slice none 0 0) := ⟨h04, hp4, EntsAt.nil _ _, Nat.le_refl _, by omega, by omega⟩
  cases ls with
  | nil =>
    show FinP w0 cs st0P (Conc.served (core (GP #[.string s, undef, .pointer (some ⟨w0.heap.size, 0, none⟩), .nilIface, .chan (some (w0.heap.size + 1)), .pointer (some ⟨p, 0, none⟩), .bool true, .bool false, undef, .string s, goInt s.size, .bool false, undef, undef, .chan (some (w0.heap.size + 1)), .string s, .chan (some (w0.heap.size + 1)), .chan (some (w0.heap.size + 1)), undef, undef, undef, undef, undef, undef, undef, undef, undef, undef, undef, undef, undef, undef, undef, undef, undef, undef, undef, undef, undef, undef, undef, undef, undef, undef, undef, undef, undef, undef, undef, undef, undef] (.inRegion ops8P [0, 1] :: kkP) cs)) _) w4
    rw [served_recv]
    exact ⟨_, p, _, _, rfl, (hT.put18 _).1, (hT.put18 _).2, hM4, hA4⟩
  | cons l ls =>
    intro hO
    show Recvs Tryd.prog b _ _ _ (ls.map .string) (Conc.served (core (GP #[.string s, undef, .pointer (some ⟨w0.heap.size, 0, none⟩), .nilIface, .chan (some (w0.heap.size + 1)), .pointer (some ⟨p, 0, none⟩), .bool true, .bool false, undef, .string s, goInt s.size, .bool false, undef, undef, .chan (some (w0.heap.size + 1)), .string s, .chan (some (w0.heap.size + 1)), .chan (some (w0.heap.size + 1)), undef, undef, undef, undef, undef, undef, undef, undef, undef, undef, undef, undef, undef, undef, undef, undef, undef, undef, undef, undef, undef, undef, undef, undef, undef, undef, undef, undef, undef, undef, undef, undef, undef] (.inRegion ops8P [0, 1] :: kkP) cs)) _) w4
    rw [served_recv]
    refine recvs_all w0 cs m V o cap F C hm hv hgs (by omega) (by omega) ls l st0P _ p _ w4 (hls l List.mem_cons_self) (fun x hx => hls x (List.mem_cons_of_mem _ hx)) (by decide) (hT.put18 _).1 (hT.put18 _).2 hM4 hA4 ?_
    obtain ⟨s1, q1, hit1⟩ := hit
    obtain ⟨a1, a2, a3, hO1⟩ := hO
    refine ⟨fun k hk cs' e f hx => ?_, (Array.getElem?_eq_some_iff.1 hit1).1, (Array.getElem?_eq_some_iff.1 hO1).1⟩
    rcases hk with rfl | rfl
    · rw [hit1] at hx; cases hx
    · rw [hO1] at hx; cases hx

set_option maxHeartbeats 1000000 in
/-- From its entry to the go statement. -/
theorem entry_way {s : ByteArray} (hs : s.size ≤ 65536) {ls : List ByteArray} (ho : outS s s.size 0 0 = ls.map .string) (hls : ∀ x ∈ ls, x.size ≤ 1048576) :
    Co.Way Tryd.prog true (Rely None') (Guar None') (AtGo Tryd.prog (.string ByteArray.empty) (FinP w0 cs (ls.foldl PS.step st0P)) (ls.map .string)) (GP (T0P s) [.code bodyP] cs) w0 := by
  unfold T0P
  refine way_silent (mildR _) rfl (fun _ => stepG_seq) ?_
  refine way_silent (mildR _) rfl (fun _ => stepG_region) ?_
  refine way_value' (.pointer (some ⟨w0.heap.size, 0, none⟩)) ⟨#[.string s, undef, .pointer (some ⟨w0.heap.size, 0, none⟩), undef, undef, undef, undef, undef, undef, undef, undef, undef, undef, undef, undef, undef, undef, undef, undef, undef, undef, undef, undef, undef, undef, undef, undef, undef, undef, undef, undef, undef, undef, undef, undef, undef, undef, undef, undef, undef, undef, undef, undef, undef, undef, undef, undef, undef, undef, undef, undef], []⟩ rfl rfl (by decide) rfl fun w1 h1 => ⟨w1.alloc (.cells #[.int .i64 0, .slice none 0 0] 31), #[], by rw [← h1.size]; exact exec_alloc planZ rfl w1 #[], ⟨fun _ h => h.elim, rfl, by simp, fun e he => by simp [Go.seen] at he⟩, ?_⟩
  have hA1 : Abv w0.heap.size w0 w1 := (Abv.refl _ w0).rely h1 fun _ h => h.elim
  have hA2 := hA1.push (Nat.le_of_eq h1.size.symm) (.cells #[.int .i64 0, .slice none 0 0] 31)
  have hz2 : (w1.alloc (.cells #[.int .i64 0, .slice none 0 0] 31)).heap.size = w0.heap.size + 1 := by rw [← h1.size]; simp
  have h02 : (w1.alloc (.cells #[.int .i64 0, .slice none 0 0] 31)).heap[w0.heap.size]? = some (.cells #[.int .i64 0, .slice none 0 0] 31 (0, 0)) := by rw [← h1.size]; exact alloc_at rfl
  generalize w1.alloc (.cells #[.int .i64 0, .slice none 0 0] 31) = w2 at hA2 hz2 h02 ⊢
  refine way_pure' (mildR _) ⟨#[.string s, undef, .pointer (some ⟨w0.heap.size, 0, none⟩), .nilIface, undef, undef, undef, undef, undef, undef, undef, undef, undef, undef, undef, undef, undef, undef, undef, undef, undef, undef, undef, undef, undef, undef, undef, undef, undef, undef, undef, undef, undef, undef, undef, undef, undef, undef, undef, undef, undef, undef, undef, undef, undef, undef, undef, undef, undef, undef, undef], []⟩ rfl rfl (by decide) (fun _ _ => rfl) rfl ?_
  refine way_silent (mildR _) rfl (fun _ => stepG_region_end) ?_
  refine way_silent (mildR _) rfl (fun _ => stepG_seq) ?_
  refine way_silent (mildR _) rfl (fun _ => stepG_seq) ?_
  refine way_silent (mildR _) rfl (fun _ => stepG_region) ?_
  refine way_pure' (mildR _) ⟨#[.string s, undef, .pointer (some ⟨w0.heap.size, 0, none⟩), .nilIface, undef, undef, undef, undef, undef, .string s, undef, undef, undef, undef, undef, undef, undef, undef, undef, undef, undef, undef, undef, undef, undef, undef, undef, undef, undef, undef, undef, undef, undef, undef, undef, undef, undef, undef, undef, undef, undef, undef, undef, undef, undef, undef, undef, undef, undef, undef, undef], []⟩ rfl rfl (by decide) (fun _ _ => rfl) rfl ?_
  refine way_pure' (mildR _) ⟨#[.string s, undef, .pointer (some ⟨w0.heap.size, 0, none⟩), .nilIface, undef, undef, undef, undef, undef, .string s, goInt s.size, undef, undef, undef, undef, undef, undef, undef, undef, undef, undef, undef, undef, undef, undef, undef, undef, undef, undef, undef, undef, undef, undef, undef, undef, undef, undef, undef, undef, undef, undef, undef, undef, undef, undef, undef, undef, undef, undef, undef, undef], []⟩ rfl rfl (by decide) (fun w es => exec_len (s := s) undP rfl rfl w es) rfl ?_
  refine way_pure' (mildR _) ⟨#[.string s, undef, .pointer (some ⟨w0.heap.size, 0, none⟩), .nilIface, undef, undef, undef, undef, undef, .string s, goInt s.size, .bool false, undef, undef, undef, undef, undef, undef, undef, undef, undef, undef, undef, undef, undef, undef, undef, undef, undef, undef, undef, undef, undef, undef, undef, undef, undef, undef, undef, undef, undef, undef, undef, undef, undef, undef, undef, undef, undef, undef, undef], []⟩ rfl rfl (by decide) (fun w es => by
    have hd : decide ((s.size : Int) > 65536) = false := by simp; omega
    show (Result.ok (Next.value (.bool (decide ((s.size : Int) > 65536)))) w, es) = _
    rw [hd]) rfl ?_
  refine way_silent (mildR _) rfl (fun _ => stepG_region_end) ?_
  refine way_silent (mildR _) rfl (fun _ => stepG_cond (t := false) rfl) ?_
  refine way_silent (mildR _) rfl (fun _ => stepG_skip) ?_
  refine way_silent (mildR _) rfl (fun _ => stepG_seq) ?_
  refine way_silent (mildR _) rfl (fun _ => stepG_region) ?_
  obtain ⟨i9, hi9⟩ := strI
  refine way_value' (.chan (some (w0.heap.size + 1))) ⟨#[.string s, undef, .pointer (some ⟨w0.heap.size, 0, none⟩), .nilIface, undef, undef, undef, undef, undef, .string s, goInt s.size, .bool false, undef, undef, .chan (some (w0.heap.size + 1)), undef, undef, undef, undef, undef, undef, undef, undef, undef, undef, undef, undef, undef, undef, undef, undef, undef, undef, undef, undef, undef, undef, undef, undef, undef, undef, undef, undef, undef, undef, undef, undef, undef, undef, undef, undef], []⟩ rfl rfl (by decide) rfl fun w3 h3 => ⟨w3.alloc (.chan 0 #[] false 0 0 false), #[], by rw [← hz2, ← h3.size]; exact exec_makeChan chanU hi9 rfl rfl w3 #[], ⟨fun _ h => h.elim, rfl, by simp, fun e he => by simp [Go.seen] at he⟩, ?_⟩
  have hA3 : Abv w0.heap.size w0 w3 := hA2.rely h3 fun _ h => h.elim
  have hA4 := hA3.push (by rw [h3.size]; omega) (.chan 0 #[] false 0 0 false)
  have hz4 : (w3.alloc (.chan 0 #[] false 0 0 false)).heap.size = w0.heap.size + 2 := by
    have := h3.size
    simp
    omega
  have h04 : (w3.alloc (.chan 0 #[] false 0 0 false)).heap[w0.heap.size]? = some (.cells #[.int .i64 0, .slice none 0 0] 31 (0, 0)) := by
    rw [Below.heap_alloc _ _ _ (by rw [h3.size]; omega)]
    exact (rely_get h3 _).trans h02
  have hc4 : (w3.alloc (.chan 0 #[] false 0 0 false)).heap[w0.heap.size + 1]? = some (.chan 0 #[] false 0 0 false) := by
    rw [← hz2, ← h3.size]
    exact heap_alloc_new w3 _
  generalize w3.alloc (.chan 0 #[] false 0 0 false) = w4 at hA4 hz4 h04 hc4 ⊢
  refine way_pure' (mildR _) ⟨#[.string s, undef, .pointer (some ⟨w0.heap.size, 0, none⟩), .nilIface, .chan (some (w0.heap.size + 1)), undef, undef, undef, undef, .string s, goInt s.size, .bool false, undef, undef, .chan (some (w0.heap.size + 1)), undef, undef, undef, undef, undef, undef, undef, undef, undef, undef, undef, undef, undef, undef, undef, undef, undef, undef, undef, undef, undef, undef, undef, undef, undef, undef, undef, undef, undef, undef, undef, undef, undef, undef, undef, undef], []⟩ rfl rfl (by decide) (fun _ _ => rfl) rfl ?_
  refine way_silent (mildR _) rfl (fun _ => stepG_region_end) ?_
  refine way_silent (mildR _) rfl (fun _ => stepG_seq) ?_
  refine way_silent (mildR _) rfl (fun _ => stepG_region) ?_
  refine way_pure' (mildR _) ⟨#[.string s, undef, .pointer (some ⟨w0.heap.size, 0, none⟩), .nilIface, .chan (some (w0.heap.size + 1)), undef, undef, undef, undef, .string s, goInt s.size, .bool false, undef, undef, .chan (some (w0.heap.size + 1)), .string s, undef, undef, undef, undef, undef, undef, undef, undef, undef, undef, undef, undef, undef, undef, undef, undef, undef, undef, undef, undef, undef, undef, undef, undef, undef, undef, undef, undef, undef, undef, undef, undef, undef, undef, undef], []⟩ rfl rfl (by decide) (fun _ _ => rfl) rfl ?_
  refine way_pure' (mildR _) ⟨#[.string s, undef, .pointer (some ⟨w0.heap.size, 0, none⟩), .nilIface, .chan (some (w0.heap.size + 1)), undef, undef, undef, undef, .string s, goInt s.size, .bool false, undef, undef, .chan (some (w0.heap.size + 1)), .string s, .chan (some (w0.heap.size + 1)), undef, undef, undef, undef, undef, undef, undef, undef, undef, undef, undef, undef, undef, undef, undef, undef, undef, undef, undef, undef, undef, undef, undef, undef, undef, undef, undef, undef, undef, undef, undef, undef, undef, undef], []⟩ rfl rfl (by decide) (fun _ _ => rfl) rfl ?_
  refine Co.Way.stop fun w5 h5 => ⟨rfl, _, _, w5, step_spawn (args := #[.string s, .chan (some (w0.heap.size + 1))]) rfl rfl (by decide) rfl rfl (by simp only [List.map_toArray, List.map_cons, List.map_nil]; rfl) w5, w0.heap.size + 2, w0.heap.size + 1, ?_, ?_, ?_⟩
  · exact first_way w0 cs m V o cap F C hm hv hgs (s := s) hls (hA4.rely h5 fun _ h => h.elim) (h5.size.trans hz4) ((rely_get h5 _).trans h04)
  · rw [← ho]
    exact born_way (s := s) (c := w0.heap.size + 1) (by omega) (Nat.le_of_eq (h5.size.trans hz4).symm)
  · refine ⟨⟨0, 0, false, (rely_get h5 _).trans hc4⟩, by omega, Nat.le_of_eq (h5.size.trans hz4).symm⟩

omit hm hv hgs in
/-- From the closed channel to its return. -/
theorem fin_way {c : Frame} {cs : List Frame} {st : PS} (hcl : st.cl ≠ 0) (hmn : st.many = false) {g : Goroutine} {w : World} (h : FinP w0 (c :: cs) st g w) :
    Co.Way Tryd.prog true (Rely None') (Guar None') (fun g w => ∃ sv, g = G (c.finish (.tuple #[.agg #[.int .i64 st.cl, sv], .nilIface])) cs ∧ EntsAt w w0.heap.size sv st.es ∧ Abv w0.heap.size w0 w) g w := by
  obtain ⟨T, p, ch, sv, rfl, hT, h18, hM, hA⟩ := h
  obtain ⟨x0 , x1 , x2 , x3 , x4 , x5 , x6 , x7 , x8 , x9 , x10 , x11 , x12 , x13 , x14 , x15 , x16 , x17 , x18 , x19 , x20 , x21 , x22 , x23 , x24 , x25 , x26 , x27 , x28 , x29 , x30 , x31 , x32 , x33 , x34 , x35 , x36 , x37 , x38 , x39 , x40 , x41 , x42 , x43 , x44 , x45 , x46 , x47 , x48 , x49 , x50, rfl⟩ := array51 T hT.size
  obtain ⟨hs_, t2, t5, t6, t7, t17⟩ := hT
  simp only [List.getElem?_toArray, List.getElem?_cons_zero, List.getElem?_cons_succ, Option.some.injEq] at t2 t5 t6 t7 t17 h18
  subst t2 t5 t6 t7 t17 h18
  refine way_pure' (mildR _) ⟨#[x0, x1, .pointer (some ⟨w0.heap.size, 0, none⟩), x3, x4, .pointer (some ⟨p, 0, none⟩), .bool st.first, .bool st.many, x8, x9, x10, x11, x12, x13, x14, x15, x16, .chan (some ch), .tuple #[.string ByteArray.empty, .bool false], .bool false, x20, x21, x22, x23, x24, x25, x26, x27, x28, x29, x30, x31, x32, x33, x34, x35, x36, x37, x38, x39, x40, x41, x42, x43, x44, x45, x46, x47, x48, x49, x50], []⟩ rfl rfl (by decide) (fun _ _ => rfl) rfl ?_
  refine way_silent (mildR _) rfl (fun _ => stepG_region_end) ?_
  refine way_silent (mildR _) rfl (fun _ => stepG_seq) ?_
  refine way_silent (mildR _) rfl (fun _ => stepG_cond (t := false) rfl) ?_
  refine way_silent (mildR _) rfl (fun _ => stepG_exit rfl) ?_
  refine (lift_body (b := base 15) (a := ⟨#[x0, x1, .pointer (some ⟨w0.heap.size, 0, none⟩), x3, x4, .pointer (some ⟨p, 0, none⟩), .bool st.first, .bool st.many, x8, x9, x10, x11, x12, x13, x14, x15, x16, .chan (some ch), .tuple #[.string ByteArray.empty, .bool false], .bool false, x20, x21, x22, x23, x24, x25, x26, x27, x28, x29, x30, x31, x32, x33, x34, x35, x36, x37, x38, x39, x40, x41, x42, x43, x44, x45, x46, x47, x48, x49, x50], []⟩) (c := restP) ready2 codes2 true (c :: cs) rest_ok rest_brought2 rfl (veil_none w)
    (Q := fun a' v' => ∃ T', a' = ⟨T', []⟩ ∧ T'[2]? = some (.pointer (some ⟨w0.heap.size, 0, none⟩)) ∧ T'[3]? = some .nilIface ∧ v'.heap[w0.heap.size]? = some (.cells #[.int .i64 st.cl, sv] 31 (0, 0)) ∧ EntsAt v' w0.heap.size sv st.es ∧ Abv w0.heap.size w0 v') ?_ ?_).then (Rely.refl _) ?_
  · rintro a v t d ⟨T', h1, h2, h3, h4, h5, h6⟩
    exact ⟨T', h1, h2, h3, h4, h5.keep fun _ _ _ _ _ _ => rfl, ⟨h6.os, h6.output, h6.size, h6.block⟩⟩
  · intro t d
    refine Code.wp_mono ?_ (rest_wp st hcl hmn (w.on t d) w0.heap.size w0.heap.size p ch sv (pmem_same hM fun _ _ _ _ => rfl) x0 x1 x3 x4 x8 x9 x10 x11 x12 x13 x14 x15 x16 (.tuple #[.string ByteArray.empty, .bool false]) (.bool false) x20 x21 x22 x23 x24 x25 x26 x27 x28 x29 x30 x31 x32 x33 x34 x35 x36 x37 x38 x39 x40 x41 x42 x43 x44 x45 x46 x47 x48 x49 x50)
    intro e a' w' h
    cases e with
    | ret =>
      obtain ⟨T', h1, h2, h3, h4, h5, h6⟩ := h
      exact ⟨rfl, T', h1, h2, h3, h4, h5, hA.trans ⟨h6.os, h6.output, h6.size, h6.block⟩⟩
    | _ => exact h.elim
  · rintro g w' ⟨a', todo, v', ⟨T', rfl, h2, h3, h4, h5, h6⟩, _, rfl, hv'⟩
    obtain ⟨A, cp, rfl⟩ := h5.form
    have hAw : Abv w0.heap.size w0 w' := ⟨hv'.os.trans h6.os, hv'.output.trans h6.output, by rw [hv'.size]; exact h6.size, fun k hk => (veil_none_heap hv' k).trans (h6.block k hk)⟩
    refine way_leave (b := base 15) (a := ⟨T', []⟩) (todo := todo) (fn := Tryd.f15) (.tuple #[.agg #[.int .i64 st.cl, .slice A st.es.length cp], .nilIface]) rfl rfl Tryd.func15 (fun w1 h1 => ?_) ?_
    · exact results_plan h2 h3 ((rely_get h1 _).trans ((veil_none_heap hv' _).trans h4)) rfl
    · exact Co.Way.stop fun w1 h1 => ⟨_, rfl, h5.keep fun k cur t _ hk _ => (rely_get h1 k).trans (veil_none_heap hv' k), hAw.rely h1 fun _ h => h.elim⟩

/-- ████ A CALL OF script.Parse, beside leavers: the plan; one leaver more. ████ -/
theorem parse_done {c : Frame} {cs : List Frame} {s : ByteArray} (hs : s.size ≤ 65536) {ls : List ByteArray} (ho : outS s s.size 0 0 = ls.map .string) (hls : ∀ x ∈ ls, x.size ≤ 1048576) {st : PS} (hst : ls.foldl PS.step st0P = st) (hcl : st.cl ≠ 0) (hmn : st.many = false) {k : Nat} {mc : Machine} {t : Trace}
    (h : Done Tryd.prog (fun a w => a = GP (T0P s) [.code bodyP] (c :: cs) ∧ w = w0) k mc t) :
    Ev Tryd.prog mc t (Done Tryd.prog (fun a w => ∃ sv, a = G (c.finish (.tuple #[.agg #[.int .i64 st.cl, sv], .nilIface])) cs ∧ EntsAt w w0.heap.size sv st.es ∧ Abv w0.heap.size w0 w) (k + 1)) := by
  subst hst
  refine (spawned (z := .string ByteArray.empty) (vs := ls.map .string) (h.mono ?_)).then fun m t h => beside ?_ (h.mono fun a w h => fin_way w0 hcl hmn h)
  · rintro a w ⟨rfl, rfl⟩
    exact entry_way w (c :: cs) _ V o cap F C hm hv hgs hs ho hls
  · rintro g w ⟨sv, rfl, _⟩
    rfl
end
end Go.Proofs.YtbjkljmhhpoooaaDoor
