/- No store, and a store without sorts: what each call answers. No condition. -/
import Derived.Test.YtjfpijoeddjgmaaLives17
namespace Go.Proofs.Ytjfpijoeddjgmaa
open Go.RowKit Hm
set_option linter.unusedVariables false
theorem newNil (n m : Int) (w : World) : Calls Try.prog 29 #[.pointer none, .int .i64 n, .int .i64 m] w fun e w' => e = .returned (.tuple #[.int .i64 0, .int .i64 1]) ∧ w = w' := by
  go_enter Try.func29, Try.ntmps29
  go_wp2
  go_ret2
  exact ⟨rfl, rfl⟩
theorem lookNil (a : Int) (w : World) : Calls Try.prog 33 #[.pointer none, .int .i64 a] w fun e w' => e = .returned (.tuple #[.int .i64 0, .int .i64 0, .int .i64 1]) ∧ w = w' := by
  go_enter Try.func33, Try.ntmps33
  go_wp2
  go_ret3
  exact ⟨rfl, rfl⟩
theorem countNil (a : Int) (w : World) : Calls Try.prog 74 #[.pointer none, .int .i64 a] w fun e w' => e = .returned (.tuple #[.int .i64 0, .int .i64 0, .int .i64 1]) ∧ w = w' := by
  go_enter Try.func74, Try.ntmps74
  go_wp2_with (first | (go_at_call 33; refine (lookNil _ _).mono ?_; rintro e w1 ⟨rfl, rfl⟩))
  go_ret3
  exact ⟨rfl, rfl⟩
theorem ptrsNil (a : Int) (w : World) : Calls Try.prog 34 #[.pointer none, .int .i64 a] w fun e w' => e = .returned (.tuple #[.slice none 0 0, .int .i64 1]) ∧ w = w' := by
  go_enter Try.func34, Try.ntmps34
  go_wp2_with (first | (go_at_call 74; refine (countNil _ _).mono ?_; rintro e w1 ⟨rfl, rfl⟩))
  go_ret2
  exact ⟨rfl, rfl⟩
theorem numNil (a : Int) (w : World) : Calls Try.prog 35 #[.pointer none, .int .i64 a] w fun e w' => e = .returned (.tuple #[.int .u64 0, .int .i64 1]) ∧ w = w' := by
  go_enter Try.func35, Try.ntmps35
  go_wp2_with (first | (go_at_call 74; refine (countNil _ _).mono ?_; rintro e w1 ⟨rfl, rfl⟩))
  go_ret2
  exact ⟨rfl, rfl⟩
theorem pointNil (a i x : Int) (w : World) : Calls Try.prog 42 #[.pointer none, .int .i64 a, .int .i64 i, .int .i64 x] w fun e w' => e = .returned (.int .i64 1) ∧ w = w' := by
  go_enter Try.func42, Try.ntmps42
  go_wp2_with (first | (go_at_call 74; refine (countNil _ _).mono ?_; rintro e w1 ⟨rfl, rfl⟩))
  go_ret
  exact ⟨rfl, rfl⟩
theorem setNil (a x : Int) (w : World) : Calls Try.prog 43 #[.pointer none, .int .i64 a, .int .u64 x] w fun e w' => e = .returned (.int .i64 1) ∧ w = w' := by
  go_enter Try.func43, Try.ntmps43
  go_wp2_with (first | (go_at_call 74; refine (countNil _ _).mono ?_; rintro e w1 ⟨rfl, rfl⟩))
  go_ret
  exact ⟨rfl, rfl⟩
theorem becomeNil (a k : Int) (w : World) : Calls Try.prog 80 #[.pointer none, .int .i64 a, .int .i64 k] w fun e w' => e = .returned (.int .i64 1) ∧ w = w' := by
  go_enter Try.func80, Try.ntmps80
  go_wp2_with (first | (go_at_call 33; refine (lookNil _ _).mono ?_; rintro e w1 ⟨rfl, rfl⟩))
  go_ret
  exact ⟨rfl, rfl⟩
theorem holeNil (a : Int) (w : World) : Calls Try.prog 44 #[.pointer none, .int .i64 a] w fun e w' => e = .returned (.int .i64 1) ∧ w = w' := by
  go_enter Try.func44, Try.ntmps44
  go_wp2_with (first | (go_at_call 80; refine (becomeNil _ _ _).mono ?_; rintro e w1 ⟨rfl, rfl⟩))
  go_ret
  exact ⟨rfl, rfl⟩
theorem indNil (a x : Int) (h : 0 ≤ x) (w : World) : Calls Try.prog 45 #[.pointer none, .int .i64 a, .int .i64 x] w fun e w' => e = .returned (.int .i64 1) ∧ w = w' := by
  go_enter Try.func45, Try.ntmps45
  go_wp2_with (first | (go_at_call 80; refine (becomeNil _ _ _).mono ?_; rintro e w1 ⟨rfl, rfl⟩))
  go_ret
  exact ⟨rfl, rfl⟩
theorem infoNil (a : Int) (w : World) : Calls Try.prog 41 #[.pointer none, .int .i64 a] w fun e w' => e = .returned (.tuple #[noInf.val, .int .i64 1]) ∧ Below w.heap.size w w' := by
  go_enter Try.func41, Try.ntmps41
  go_wp2_with (first | (go_at_call 33; refine (lookNil _ _).mono ?_; rintro e w1 ⟨rfl, rfl⟩))
  refine bodyPost_ret (v := .tuple #[noInf.val, .int .i64 1]) ?_ rfl ⟨rfl, (Below.refl _ _).alloc (Nat.le_refl _) _⟩
  have k0 : (w.alloc (.cells #[.int .i64 0, .int .i64 0, .int .i64 0, .int .i64 0, .int .i64 0, .int .i64 0, .int .i64 0, .int .i64 0, .string ⟨#[]⟩] 80)).heap[w.heap.size]? = some (.cells #[.int .i64 0, .int .i64 0, .int .i64 0, .int .i64 0, .int .i64 0, .int .i64 0, .int .i64 0, .int .i64 0, .string ⟨#[]⟩] 80) := by show (w.heap.push _)[w.heap.size]? = _; rw [Array.getElem?_push_size]
  unfold results
  go_simp
  rfl
/-- A store without sorts. -/
theorem newBare (n m : Int) (sp : Nat) (x : Value) (w : World) (h : w.cell? ⟨sp, 1, none⟩ = some (.slice none 0 0)) :
    Calls Try.prog 29 #[.pointer (some ⟨sp, 0, none⟩), .int .i64 n, .int .i64 m] w fun e w' => e = .returned (.tuple #[.int .i64 0, .int .i64 1]) ∧ w = w' := by
  by_cases h0 : n < 0
  · go_enter Try.func29, Try.ntmps29
    go_wp2
    go_ret2
    exact ⟨rfl, rfl⟩
  · go_enter Try.func29, Try.ntmps29
    go_wp2
    go_ret2
    exact ⟨rfl, rfl⟩
end Go.Proofs.Ytjfpijoeddjgmaa
