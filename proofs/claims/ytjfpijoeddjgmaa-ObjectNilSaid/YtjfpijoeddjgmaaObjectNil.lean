/- Law 17, ObjectNil: no store, and one without sorts. No condition. -/
import Derived.Test.YtjfpijoeddjgmaaObjNil
namespace Go.Proofs.Ytjfpijoeddjgmaa.objectNil
open Go.RowKit Hm
set_option linter.unusedVariables false
set_option maxRecDepth 100000 in
set_option maxHeartbeats 2000000 in
theorem walk (a n : Int) (w : World) : Calls Try.prog 10 #[.int .i64 a, .int .i64 n] w fun e w' => e = .returned (.bool true) ∧ Below w.heap.size w w' := by
  obtain ⟨B, hB⟩ : ∃ B, B = w.heap.size := ⟨_, rfl⟩
  rw [← hB]
  have HL : Hid (Calls Try.prog 40 #[] w fun e w' => e = .returned (.bool true) ∧ Hid (Below B w w' ∧ B ≤ w'.heap.size)) := by
    refine (lives17 w).mono ?_
    rintro e w' ⟨rfl, h⟩
    exact ⟨rfl, by rw [hB]; exact h, by rw [hB]; exact h.size⟩
  have HI : Hid (∀ W, Below B w W ∧ B ≤ W.heap.size → Calls Try.prog 41 #[.pointer none, .int .i64 a] W fun e w' => e = .returned (.tuple #[.agg #[.int .i64 0, .int .i64 0, .int .i64 0, .int .i64 0, .int .i64 0, .int .i64 0, .int .i64 0, .int .i64 0, .string ⟨#[]⟩], .int .i64 1]) ∧ Hid (Below B w w' ∧ B ≤ w'.heap.size)) := by
    intro W hW
    refine (infoNil a W).mono ?_
    rintro e w' ⟨rfl, h⟩
    exact ⟨rfl, hW.1.trans (h.mono hW.2), Nat.le_trans hW.2 h.size⟩
  have HN : Hid (∀ W, Below B w W ∧ B ≤ W.heap.size → Calls Try.prog 20 #[.int .i64 64] W fun e w' => ∃ x, e = .returned (.tuple #[.pointer x, .int .i64 0]) ∧ Hid (Below B w w' ∧ B ≤ w'.heap.size)) := by
    intro W hW
    refine (new_any 64 2 W (by decide) (by decide) (by decide) B w hW.1 hW.2).mono ?_
    rintro e w' ⟨p, rfl, _, _, h3, h4⟩
    exact ⟨_, rfl, h3, h4⟩
  clear hB
  go_enter Try.func10, Try.ntmps10
  go_wp2_with fail
  refine HL.out.mono ?_
  rintro e w1 ⟨rfl, hb1⟩
  go_wp2_with (first
    | (go_at_call 29; refine (newNil _ _ _).mono ?_; rintro e w2 ⟨rfl, rfl⟩)
    | (go_at_call 33; refine (lookNil _ _).mono ?_; rintro e w2 ⟨rfl, rfl⟩)
    | (go_at_call 34; refine (ptrsNil _ _).mono ?_; rintro e w2 ⟨rfl, rfl⟩)
    | (go_at_call 35; refine (numNil _ _).mono ?_; rintro e w2 ⟨rfl, rfl⟩)
    | (go_at_call 41; fail))
  refine (HI.out _ hb1.out).mono ?_
  rintro e w2 ⟨rfl, hb2⟩
  clear hb1
  go_wp2_with fail
  refine (HN.out _ (show _ ∧ _ from ⟨hb2.out.1.alloc hb2.out.2 _, by have := hb2.out.2; simp; omega⟩)).mono ?_
  rintro e w3 ⟨x, rfl, hb3⟩
  clear hb2
  go_wp2_with fail
  refine (newBare _ _ _ undef _ ?_).mono ?_
  · simp
  rintro e w4 ⟨rfl, rfl⟩
  have hb4 : Hid (Below B w (w3.alloc (.cells #[.pointer x, .slice none 0 0] 47))) := hb3.out.1.alloc hb3.out.2 _
  go_wp2_with (first
    | (go_at_call 42; refine (pointNil _ _ _ _).mono ?_; rintro e w5 ⟨rfl, rfl⟩)
    | (go_at_call 43; refine (setNil _ _ _).mono ?_; rintro e w5 ⟨rfl, rfl⟩)
    | (go_at_call 44; refine (holeNil _ _).mono ?_; rintro e w5 ⟨rfl, rfl⟩)
    | (go_at_call 45; refine (indNil _ _ (by decide) _).mono ?_; rintro e w5 ⟨rfl, rfl⟩))
  go_ret
  exact ⟨rfl, hb4.out⟩
end Go.Proofs.Ytjfpijoeddjgmaa.objectNil
