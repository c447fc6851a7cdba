/- Right of the table: some kinds. No condition. -/
import Derived.Test.YtdfbdjlcbjdabaaTab
namespace Go.Proofs.Ytdfbdjlcbjdabaa
open Go.RowKit
set_option linter.unusedVariables false

set_option maxRecDepth 100000 in
set_option maxHeartbeats 8000000 in
theorem right_k2 (p n a t c o pk : Int) (nm : ByteArray) (hin : (0 ≤ p ∧ p ≤ 60 ∧ 0 ≤ n ∧ n ≤ 60 ∧ p + n ≤ 60) ∧ 0 ≤ a ∧ 0 ≤ t ∧ 0 ≤ c ∧ 0 ≤ o ∧ 0 ≤ pk) (R : Bool) (hR : R = true ↔ n = 0 ∧ a = 0 ∧ t = 0 ∧ ((pk = 0 ∧ o = 0) ∨ (p = 1 ∧ 0 < pk))) (w : World) :
    Calls Try.prog 9 #[.agg #[.int .i64 (2), .int .i64 p, .int .i64 n, .int .i64 a, .int .i64 t, .int .i64 c, .int .i64 o, .int .i64 pk, .string nm]] w fun e w' => e = .returned (.bool R) ∧ Below w.heap.size w w' := by
  have HR := Lib.hid hR
  have HF := Lib.hid (Below.refl w.heap.size w)
  have HIN := Lib.hid hin
  have w0 : wrap64 (p + n) = p + n := by unfold wrap64; omega
  have d0 : decide (p < 0) = false := by simp; omega
  have d1 : decide (n < 0) = false := by simp; omega
  have d2 : decide (60 < p) = false := by simp; omega
  have d3 : decide (60 < n) = false := by simp; omega
  have d4 : decide (60 < p + n) = false := by simp; omega
  have d5 : decide (t < 0) = false := by simp; omega
  have d6 : decide (c < 0) = false := by simp; omega
  have d7 : decide (a < 0) = false := by simp; omega
  have d8 : decide (o < 0) = false := by simp; omega
  have d9 : decide (pk < 0) = false := by simp; omega
  clear hin hR
  go_enter Try.func9, Try.ntmps9
  go_wp2
  all_goals
    go_ret
    refine ⟨congrArg (fun b => Ending.returned (Value.bool b)) (Bool.eq_iff_iff.2 ?_), HF.out.alloc (Nat.le_refl _) _⟩
    have hr := HR.out
    have hin := HIN.out
    clear w0 d0 d1 d2 d3 d4 d5 d6 d7 d8 d9
    rw [show (R = true ↔ (n = 0 ∧ a = 0 ∧ t = 0 ∧ ((pk = 0 ∧ o = 0) ∨ (p = 1 ∧ 0 < pk)))) from hr]
    first | (simp only [beq_iff_eq]; omega) | (simp only [Bool.false_eq_true, false_iff]; omega) | (simp only [true_iff]; omega) | (simp; done) | (simp; omega)

set_option maxRecDepth 100000 in
set_option maxHeartbeats 8000000 in
theorem right_k3 (p n a t c o pk : Int) (nm : ByteArray) (hin : (0 ≤ p ∧ p ≤ 60 ∧ 0 ≤ n ∧ n ≤ 60 ∧ p + n ≤ 60) ∧ 0 ≤ a ∧ 0 ≤ t ∧ 0 ≤ c ∧ 0 ≤ o ∧ 0 ≤ pk) (R : Bool) (hR : R = true ↔ p = 0 ∧ n = 0 ∧ a = 0 ∧ t = 0 ∧ c = 0 ∧ pk = 0 ∧ o = 0) (w : World) :
    Calls Try.prog 9 #[.agg #[.int .i64 (3), .int .i64 p, .int .i64 n, .int .i64 a, .int .i64 t, .int .i64 c, .int .i64 o, .int .i64 pk, .string nm]] w fun e w' => e = .returned (.bool R) ∧ Below w.heap.size w w' := by
  have HR := Lib.hid hR
  have HF := Lib.hid (Below.refl w.heap.size w)
  have HIN := Lib.hid hin
  have w0 : wrap64 (p + n) = p + n := by unfold wrap64; omega
  have d0 : decide (p < 0) = false := by simp; omega
  have d1 : decide (n < 0) = false := by simp; omega
  have d2 : decide (60 < p) = false := by simp; omega
  have d3 : decide (60 < n) = false := by simp; omega
  have d4 : decide (60 < p + n) = false := by simp; omega
  have d5 : decide (t < 0) = false := by simp; omega
  have d6 : decide (c < 0) = false := by simp; omega
  have d7 : decide (a < 0) = false := by simp; omega
  have d8 : decide (o < 0) = false := by simp; omega
  have d9 : decide (pk < 0) = false := by simp; omega
  clear hin hR
  go_enter Try.func9, Try.ntmps9
  go_wp2
  all_goals
    go_ret
    refine ⟨congrArg (fun b => Ending.returned (Value.bool b)) (Bool.eq_iff_iff.2 ?_), HF.out.alloc (Nat.le_refl _) _⟩
    have hr := HR.out
    have hin := HIN.out
    clear w0 d0 d1 d2 d3 d4 d5 d6 d7 d8 d9
    rw [show (R = true ↔ (p = 0 ∧ n = 0 ∧ a = 0 ∧ t = 0 ∧ c = 0 ∧ pk = 0 ∧ o = 0)) from hr]
    first | (simp only [beq_iff_eq]; omega) | (simp only [Bool.false_eq_true, false_iff]; omega) | (simp only [true_iff]; omega) | (simp; done) | (simp; omega)
end Go.Proofs.Ytdfbdjlcbjdabaa
