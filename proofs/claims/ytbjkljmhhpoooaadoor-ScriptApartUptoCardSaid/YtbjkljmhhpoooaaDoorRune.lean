/- What strings.IndexRune returns over a text of ASCII bytes for a rune that is none of ASCII: -1; memory below is as it was. -/
import Derived.Test.YtbjkljmhhpoooaaDoorNum
import Derived.Test.YtbjkljmhhpoooaaDoorShelf
import Derived.Laws.Runes
import Derived.Deep.QuietTactic
import Derived.BigQuiet
import Derived.IntWalk
namespace Go.Proofs.YtbjkljmhhpoooaaDoor
open Go.RowKit

theorem validRune_ge (r : Int) (h : 128 ≤ r) : Utf8.valid r = Lib.validRune r := by
  unfold Utf8.valid Lib.validRune
  rw [Bool.eq_iff_iff]
  simp
  omega

/-- no byte of an ASCII text is one of 128 or more -/
theorem indexByte_none (l : List UInt8) (c : UInt8) (hl : ∀ b ∈ l, b.toNat < 128) (hc : 128 ≤ c.toNat) : Lib.indexByte l c = -1 := by
  induction l with
  | nil => rfl
  | cons x l ih =>
    have hx := hl x (by simp)
    have hne : ¬ x = c := fun e => by subst e; omega
    have := ih (fun b hb => hl b (by simp [hb]))
    simp [Lib.indexByte, hne, this]

set_option maxRecDepth 100000 in
set_option maxHeartbeats 1000000 in
theorem indexRune_invalid (s : ByteArray) (r : Int) (w : World) (h1 : 128 ≤ r) (h2 : r ≤ 2147483647) (h3 : ¬ r = 65533) (h4 : Lib.validRune r = false) :
    Calls Tryd.prog 55 #[.string s, .int .i32 r] w fun e w' => e = .returned (.int .i64 (-1)) ∧ Below w.heap.size w w' := by
  have t0 : decide (0 ≤ r) = true := by simp; omega
  have t1 : decide (r < 128) = false := by simp; omega
  have t2 : (r == 65533) = false := by simpa using h3
  clear h3
  go_enter Tryd.func55, Tryd.ntmps55
  go_wp2_with (go_at_call 69; refine (Tryd.utf8_ValidRune r _).mono ?_; rintro e w' ⟨rfl, rfl⟩)
  go_ret
  exact ⟨rfl, Below.refl _ _⟩

set_option maxRecDepth 100000 in
set_option maxHeartbeats 1000000 in
theorem indexRune_error (s : ByteArray) (w : World) (hs : ∀ (k : Nat) (h : k < s.size), s[k].toNat < 128) (hsz : s.size ≤ 1000000) :
    Calls Tryd.prog 55 #[.string s, .int .i32 65533] w fun e w' => e = .returned (.int .i64 (-1)) ∧ Below w.heap.size w w' := by
  have HS := Lib.hid hs
  clear hs
  go_enter Tryd.func55, Tryd.ntmps55
  go_wp2
  go_loopw [] (fun wr => ∃ pos : Nat, pos ≤ s.size ∧ wr = w.iter s pos) (fun wr => s.size - wr.iterPos w.heap.size)
  case atStart => exact ⟨0, by omega, rfl⟩
  case round =>
    obtain ⟨pos, hpos, rfl⟩ := hrel
    by_cases hlt : pos < s.size
    · have ha := HS.out pos hlt
      obtain ⟨c, hc⟩ : ∃ c : Int, (s[pos].toNat : Int) = c := ⟨_, rfl⟩
      have hnx : ∀ ty, (Instr.next (.pointer (some ⟨w.heap.size, 0, none⟩)) true ty).run Tryd.prog (w.iter s pos) = .ok (.tuple #[.bool true, .int .i64 pos, .int .i32 c]) (w.iter s (pos + 1)) := fun ty => by rw [run_next_ascii w s pos ty hlt ha, ← hc]
      have hne : (c == 65533) = false := by rw [beq_eq_false_iff_ne]; omega
      clear hc ha hpos
      go_wp2
      go_roundw
      case rel => exact ⟨pos + 1, by omega, rfl⟩
      case measure => simp [World.iterPos_iter]; omega
    · obtain rfl : pos = s.size := by omega
      have hnx := fun ty => run_next_end (P := Tryd.prog) w s s.size ty hlt
      have hb := below_iter (B := w.heap.size) (Nat.le_refl _) s s.size
      go_wp2
      go_ret
      exact ⟨rfl, hb⟩

theorem last_ne {x y : Int} (hx : x < 128) (hy : 128 ≤ y) : (x != y) = true := by rw [bne_iff_ne]; omega
theorem ascii_tail (s : ByteArray) (k : Nat) (hs : ∀ (k : Nat) (h : k < s.size), s[k].toNat < 128) : ∀ b ∈ (s.extract k s.size).data.toList, b.toNat < 128 := by
  intro b hb
  rw [Lib.extract_to_end] at hb
  have hb := List.mem_of_mem_drop hb
  obtain ⟨i, hi, rfl⟩ := List.mem_iff_getElem.1 hb
  exact hs i (by simpa using hi)
set_option maxRecDepth 100000 in
set_option maxHeartbeats 1000000 in
theorem indexRune_valid (s : ByteArray) (r : Int) (n : Nat) (rs : ByteArray) (w : World) (hs : ∀ (k : Nat) (h : k < s.size), s[k].toNat < 128) (hsz : s.size ≤ 1000000) (hs4 : n + 1 < s.size) (h1 : 128 ≤ r) (h2 : r ≤ 2147483647) (h3 : ¬ r = 65533) (h4 : Lib.validRune r = true)
    (hrs : Utf8.encode r = rs) (hn : rs.size = n + 1) (f3 : 128 ≤ (rs[n]'(by omega)).toNat) :
    Calls Tryd.prog 55 #[.string s, .int .i32 r] w fun e w' => e = .returned (.int .i64 (-1)) ∧ Below w.heap.size w w' := by
  have t0 : decide (0 ≤ r) = true := by simp; omega
  have t1 : decide (r < 128) = false := by simp; omega
  have t2 : (r == 65533) = false := by simpa using h3
  clear h3
  have hlt : n < s.size := by omega
  have hlr : n < rs.size := by omega
  have hne := last_ne (x := (s[n].toNat : Int)) (y := (rs[n].toNat : Int)) (by have := hs n hlt; omega) (by omega)
  have HI := Lib.hid (indexByte_none _ rs[n] (ascii_tail s (n + 1) hs) f3)
  have hlt' : decide ((n : Int) < (s.size : Int)) = true := by simp; omega
  have hcall : ∀ w : World, Calls Tryd.prog 68 #[.string (s.extract (n + 1) s.size), .int .u8 (rs[n].toNat : Int)] w fun e w' => e = .returned (.int .i64 (-1)) ∧ w' = w := fun w => by
    have := Tryd.strings_IndexByte (s.extract (n + 1) s.size) (rs[n].toNat : Int) w
    have e : (rs[n].toNat : Int).toNat.toUInt8 = rs[n] := by simp
    rw [e, HI.out] at this
    exact this
  have HC := Lib.hid hcall
  clear hcall HI
  clear hs f3
  have i0 : (0 : Int) ≤ (n : Int) := by omega
  have i1 : (n : Int) < (s.size : Int) := by omega
  have i2 : (n : Int) < (n : Int) + 1 := by omega
  have i3 : n < n + 1 := by omega
  go_enter Tryd.func55, Tryd.ntmps55
  go_wp2_with (go_at_call 69; refine (Tryd.utf8_ValidRune r _).mono ?_; rintro e w' ⟨rfl, rfl⟩)
  go_step3
  go_wp2_with fail
  refine wp_loop_rounds 1 ?_
  rw [rounds_succ]
  go_wp2_with fail
  go_step3
  go_wp2_with fail
  go_quiet (fail)
  have hb := below_drewN (Below.refl w'.heap.size w') nq
  generalize w'.drewN nq = w2 at hb ⊢
  go_wp2_with fail
  have j1 : (0 : Int) ≤ (n : Int) + 1 := by omega
  have j2 : (n : Int) + 1 ≤ (s.size : Int) := by omega
  have j3 : n + 1 ≤ s.size := by omega
  have e1 : IntKind.i64.wrap ((n : Int) + 1) = (n : Int) + 1 := IntWalk.i64_in _ (by omega)
  have e2 : ((n : Int) + 1).toNat = n + 1 := by omega
  go_quiet ((go_at_call 68; exact Calls.quiet_of_same (HC.out _)))
  clear e1 e2
  go_wp2
  repeat (first | rw [Exit.noGoto_ret] | simp only [Exit.inBlock, Exit.then])
  go_ret
  exact ⟨rfl, below_drewN hb _⟩

/-- for a text of 16 ASCII bytes -/
theorem indexRune_high (s : ByteArray) (r : Int) (w : World) (hs : ∀ (k : Nat) (h : k < s.size), s[k].toNat < 128) (hsz : s.size ≤ 1000000) (hs4 : 4 < s.size) (h1 : 128 ≤ r) (h2 : r ≤ 2147483647) :
    Calls Tryd.prog 55 #[.string s, .int .i32 r] w fun e w' => e = .returned (.int .i64 (-1)) ∧ Below w.heap.size w w' := by
  by_cases h3 : r = 65533
  · subst h3
    exact indexRune_error s w hs hsz
  cases h4 : Lib.validRune r with
  | false => exact indexRune_invalid s r w h1 h2 h3 h4
  | true =>
    obtain ⟨f1, f2, f3⟩ := encode_facts r (by rw [validRune_ge r h1]; exact h4) h1
    obtain ⟨n, hn⟩ : ∃ n, (Utf8.encode r).size = n + 1 := ⟨(Utf8.encode r).size - 1, by omega⟩
    refine indexRune_valid s r n (Utf8.encode r) w hs hsz (by omega) h1 h2 h3 h4 rfl hn ?_
    have := f3 (by omega)
    have e : (Utf8.encode r).size - 1 = n := by omega
    simpa only [e] using this
end Go.Proofs.YtbjkljmhhpoooaaDoor
