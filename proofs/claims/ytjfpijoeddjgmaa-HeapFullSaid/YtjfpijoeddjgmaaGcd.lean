/- Law 16's gcd. No condition but that both are natural numbers. -/
import Derived.Test.YtjfpijoeddjgmaaAid
import Derived.BigQuiet
namespace Go.Proofs.Ytjfpijoeddjgmaa
open Go.RowKit Hm
set_option linter.unusedVariables false
theorem gcd_any (a b : Nat) (w : World) : Calls Try.prog 36 #[.int .i64 a, .int .i64 b] w fun e w' => e = .returned (.int .i64 (Nat.gcd a b)) ∧ Fr (fun _ => False) w w' := by
  obtain ⟨G, hG⟩ : ∃ G, G = Nat.gcd a b := ⟨_, rfl⟩
  rw [← hG]
  have HG := Lib.hid hG
  have HF := Lib.hid (Fr.refl (fun _ => False) w)
  clear hG
  go_enter Try.func36, Try.ntmps36
  go_wp2
  go_loopw [0, 1] (fun v0 v1 wr => ∃ x y : Nat, v0 = .int .i64 x ∧ v1 = .int .i64 y ∧ Hid (Nat.gcd x y = G) ∧ Hid (Fr (fun _ => False) w wr)) (fun _ v1 _ => (intOf v1).toNat)
  case atStart => exact ⟨a, b, rfl, rfl, HG.out.symm, HF⟩
  case round =>
    obtain ⟨x, y, rfl, rfl, hxy, hF⟩ := hrel
    by_cases hy : y = 0
    · subst hy
      go_wp2
      go_ret
      have := hxy.out
      rw [Nat.gcd_zero_right] at this
      subst this
      exact ⟨rfl, hF.out⟩
    · have hy1 : ((y : Int) != 0) = true := by simp; omega
      have hy2 : ((y : Int) == 0) = false := by simp; omega
      have hr : (x : Int).tmod (y : Int) = ((x % y : Nat) : Int) := by rw [Int.tmod_eq_emod_of_nonneg (by omega)]; rfl
      have hlt : x % y < y := Nat.mod_lt _ (by omega)
      have HX : Hid (Nat.gcd y (x % y) = G) := by
        show _ = _
        rw [← hxy.out, Nat.gcd_comm y, ← Nat.gcd_rec, Nat.gcd_comm]
      go_wp2_with fail
      go_quiet (fail)
      go_wp2
      go_roundw
      case rel => exact ⟨y, x % y, rfl, rfl, HX, hF.out.drewN _⟩
      case measure => simp [intOf]; omega
end Go.Proofs.Ytjfpijoeddjgmaa
