/- What script.words returns: the words of a line, in new memory: of an insertion only the first three spaces cut. For texts of at most 2^31 bytes. -/
import Derived.Test.YtbjkljmhhpoooaaDoorHex
namespace Go.Proofs.YtbjkljmhhpoooaaDoor
open Go.RowKit
set_option linter.unusedVariables false

def sp1 : ByteArray := ⟨#[32]⟩
def insertB : List UInt8 := [105, 110, 115, 101, 114, 116]
/-- the pieces, as the library cuts them -/
def wordsB (s : ByteArray) : List ByteArray :=
  if (Lib.cut s.data.toList [32]).1 = insertB then Lib.splitB sp1 0 (min 4 (s.size + 1) - 1) s else Lib.splitB sp1 0 (Lib.countB s sp1) s
/-- a slice of strings of the call's own -/
def StrsAt (B : Nat) (v : Value) (ws : List ByteArray) (w : World) : Prop :=
  ∃ b c, v = .slice (some ⟨b, 0, none⟩) ws.length c ∧ B ≤ b ∧ b < w.heap.size ∧ ws.length ≤ c ∧ ∀ j, j < ws.length → w.cell? ⟨b, j, none⟩ = some (.string (ws.getD j ByteArray.empty))

theorem strs_new (W : World) (ws : List ByteArray) (cs : Array Value) (c : Nat) (hc : ws.length ≤ c) (hcs : ∀ j, j < ws.length → cs[j]? = some (.string (ws.getD j ByteArray.empty))) (t : TypeId) (B : Nat) (hB : B ≤ W.heap.size) :
    StrsAt B (.slice (some ⟨W.heap.size, 0, none⟩) ws.length c) ws (W.alloc (.cells cs t)) := by
  refine ⟨W.heap.size, c, rfl, hB, by simp, hc, fun j hj => ?_⟩
  have h : (W.alloc (.cells cs t)).heap[W.heap.size]? = some (.cells cs t (0, 0)) := heap_alloc_new W _
  unfold World.cell?
  simp only [h]
  simpa using hcs j hj
theorem strs_below {B : Nat} {v : Value} {ws : List ByteArray} {w w' : World} (h : StrsAt B v ws w) (hb : Below w.heap.size w w') : StrsAt B v ws w' := by
  obtain ⟨b, c, rfl, h1, h2, h3, h4⟩ := h
  exact ⟨b, c, rfl, h1, Nat.lt_of_lt_of_le h2 hb.size, h3, fun j hj => by rw [hb.cell (by exact h2)]; exact h4 j hj⟩
def WordsRet (s : ByteArray) (w : World) (e : Ending) (w' : World) : Prop :=
  ∃ v, e = .returned v ∧ StrsAt w.heap.size v (wordsB s) w' ∧ Below w.heap.size w w'

theorem count_len (s : ByteArray) : Lib.countB s sp1 ≤ s.size := Lib.countB_le sp1 (by decide) s.size s (Nat.le_refl _)
theorem wordsB_len (s : ByteArray) : (wordsB s).length ≤ s.size + 1 := by
  unfold wordsB
  split
  · have := Lib.splitB_length_le sp1 0 (min 4 (s.size + 1) - 1) s; omega
  · have := count_len s
    refine Nat.le_trans (Lib.splitB_length_le _ _ _ _) (by omega)
theorem wordsB_pos (s : ByteArray) : 0 < (wordsB s).length := by
  have h : ∀ k s, 0 < (Lib.splitB sp1 0 k s).length := by
    intro k s
    cases k with
    | zero => simp [Lib.splitB]
    | succ k => unfold Lib.splitB; split <;> simp
  unfold wordsB
  split <;> exact h _ _
theorem map_get (ws : List ByteArray) (j : Nat) (hj : j < ws.length) : ((ws.map Value.string).toArray)[j]? = some (.string (ws.getD j ByteArray.empty)) := by
  simp [List.getElem?_eq_getElem hj, List.getD_eq_getElem?_getD]
theorem cellsOf_get (ws : List ByteArray) (N j : Nat) (hj : j < ws.length) : (Lib.cellsOf ws N)[j]? = some (.string (ws.getD j ByteArray.empty)) := by
  unfold Lib.cellsOf
  rw [List.getElem?_toArray, List.getElem?_append_left (by simpa using hj)]
  simp [List.getElem?_eq_getElem hj, List.getD_eq_getElem?_getD]

theorem words_ins {s : ByteArray} {w W : World} (h : (Lib.cut s.data.toList [32]).1 = insertB) (hb : Below w.heap.size w W) (t : TypeId) :
    WordsRet s w (.returned (.slice (some ⟨W.heap.size, 0, none⟩) (Lib.splitB sp1 0 (min 4 (s.size + 1) - 1) s).length (min 4 (s.size + 1)))) (W.alloc (.cells (Lib.cellsOf (Lib.splitB sp1 0 (min 4 (s.size + 1) - 1) s) (min 4 (s.size + 1))) t)) := by
  have e : wordsB s = Lib.splitB sp1 0 (min 4 (s.size + 1) - 1) s := by unfold wordsB; rw [if_pos h]
  refine ⟨_, rfl, ?_, hb.alloc hb.size _⟩
  rw [e]
  refine strs_new W _ _ _ ?_ (fun j hj => cellsOf_get _ _ j hj) t _ hb.size
  have := Lib.splitB_length_le sp1 0 (min 4 (s.size + 1) - 1) s; omega
theorem words_all {s : ByteArray} {w W : World} (h : ¬ (Lib.cut s.data.toList [32]).1 = insertB) (hb : Below w.heap.size w W) (t : TypeId) :
    WordsRet s w (.returned (.slice (some ⟨W.heap.size, 0, none⟩) (Lib.countB s sp1 + 1) (Lib.countB s sp1 + 1))) (W.alloc (.cells ((Lib.splitB sp1 0 (Lib.countB s sp1) s).map Value.string).toArray t)) := by
  have e : wordsB s = Lib.splitB sp1 0 (Lib.countB s sp1) s := by unfold wordsB; rw [if_neg h]
  have hl := Lib.splitB_all sp1 (by decide) 0 _ s rfl
  refine ⟨_, rfl, ?_, hb.alloc hb.size _⟩
  rw [e, ← hl]
  exact strs_new W _ _ _ (Nat.le_refl _) (fun j hj => map_get _ j hj) t _ hb.size

set_option maxHeartbeats 1000000 in
/-- THE CONTRACT OF words. -/
theorem words_calls (s : ByteArray) (w : World) (m : Int) (hs : s.size < 4294967281) (hm : w.cell? ⟨4, 0, none⟩ = some (.int .i64 m)) :
    Calls Tryd.prog 20 #[.string s] w fun e w' => WordsRet s w e w' := by
  by_cases hv : (Lib.cut s.data.toList [32]).1 = insertB
  · have HR := Lib.hid (fun (W : World) (hb : Below w.heap.size w W) => words_ins hv hb 9)
    have hv1 : ((Lib.cut s.data.toList sp1.data.toList).1 == [105, 110, 115, 101, 114, 116]) = true := beq_iff_eq.2 hv
    clear hv
    go_enter Tryd.func20, Tryd.ntmps20
    go_wp2_with (first | (go_at_call 39; refine (Tryd.strings_Cut s sp1 m _ hs hm).mono ?_; rintro e w' ⟨rfl, n, rfl⟩) | (go_at_call 40; refine (Tryd.strings_SplitN s sp1 4 m _ hs (by simpa using hm) (by decide) (by decide) (by decide)).mono ?_; rintro e w' ⟨rfl, rfl⟩))
    go_ret
    exact HR.out (w.drewN n) (below_drewN (Below.refl _ _) n)
  · have HR := Lib.hid (fun (W : World) (hb : Below w.heap.size w W) => words_all hv hb 9)
    have hv1 : ((Lib.cut s.data.toList sp1.data.toList).1 == [105, 110, 115, 101, 114, 116]) = false := beq_eq_false_iff_ne.2 hv
    clear hv
    go_enter Tryd.func20, Tryd.ntmps20
    go_wp2_with (first | (go_at_call 39; refine (Tryd.strings_Cut s sp1 m _ hs hm).mono ?_; rintro e w' ⟨rfl, n, rfl⟩) | (go_at_call 41; refine (Tryd.strings_Split s sp1 m _ hs (by simpa using hm) (by decide)).mono ?_; rintro e w' ⟨rfl, rfl⟩))
    go_ret
    exact HR.out (w.drewN n) (below_drewN (Below.refl _ _) n)
end Go.Proofs.YtbjkljmhhpoooaaDoor
