/- The heap: Alloc, for every number; of no heap too. Conditions: the heap reads as the plain model says. -/
import Derived.Test.YtjfpijoeddjgmaaHeapW6
namespace Go.Proofs.Ytjfpijoeddjgmaa
open Go.RowKit Hm
set_option maxRecDepth 100000 in
set_option maxHeartbeats 400000 in
theorem alloc_any {p : HP} {s : HS} (n : Int) (w : World) (hA : HeapAt w p s) :
    Calls Try.prog 21 #[.pointer (some ⟨p.h, 0, none⟩), .int .i64 n] w fun e w' =>
      e = .returned (.tuple #[.int .i64 (s.alloc n).1, .int .i64 (s.alloc n).2.1]) ∧ HeapAt w' p (s.alloc n).2.2 ∧ Fr p.mine w w' := by
  by_cases hbad : n < 1 ∨ 64 < n
  · have ha : Hid (s.alloc n = (0, 1, s)) := by show s.alloc n = _; unfold HS.alloc; rw [if_pos hbad]
    rcases hbad with hb | hb
    · go_enter Try.func21, Try.ntmps21
      go_wp2
      go_ret2
      rw [ha.out]
      exact ⟨rfl, hA, Fr.refl _ _⟩
    · go_enter Try.func21, Try.ntmps21
      go_wp2
      go_ret2
      rw [ha.out]
      exact ⟨rfl, hA, Fr.refl _ _⟩
  · have hn1 : 1 ≤ n := by omega
    have hn2 : n ≤ 64 := by omega
    clear hbad
    by_cases hl : 32 < n
    · have hd : Hid ((n + 32 - 1) / 32 = 2) := by show (n + 32 - 1) / 32 = 2; omega
      have hL := large_any w hA
      have e : s.alloc 64 = s.alloc n := by
        unfold HS.alloc
        simp only [show ¬ ((64 : Int) < 1 ∨ (64 : Int) < 64) by omega, show ¬ (n < 1 ∨ 64 < n) by omega, show (32 : Int) < 64 by omega, hl, if_true, if_false]
      rw [e] at hL
      have HL := Lib.hid hL
      clear hL e hA
      go_enter Try.func21, Try.ntmps21
      go_wp2_with fail
      rw [hd.out]
      refine HL.out.mono ?_
      rintro e w1 ⟨rfl, hA1, hF1⟩
      go_wp2
      go_ret2
      exact ⟨rfl, hA1, hF1⟩
    · obtain ⟨m, rfl⟩ := Int.eq_ofNat_of_zero_le (show 0 ≤ n by omega)
      cases hb : s.blk (cls m) with
      | none => exact allocBC m w hA (by omega) (by omega) hb
      | some b0 => exact allocA m w hA (by omega) (by omega) b0 hb

theorem allocNil (n : Int) (w : World) : Calls Try.prog 21 #[.pointer none, .int .i64 n] w fun e w' => e = .returned (.tuple #[.int .i64 0, .int .i64 1]) ∧ w = w' := by
  go_enter Try.func21, Try.ntmps21
  go_wp2
  go_ret2
  exact ⟨rfl, rfl⟩
theorem capNil (a : Int) (w : World) : Calls Try.prog 22 #[.pointer none, .int .i64 a] w fun e w' => e = .returned (.int .i64 0) ∧ w = w' := by
  go_enter Try.func22, Try.ntmps22
  go_wp2
  go_ret
  exact ⟨rfl, rfl⟩
end Go.Proofs.Ytjfpijoeddjgmaa
