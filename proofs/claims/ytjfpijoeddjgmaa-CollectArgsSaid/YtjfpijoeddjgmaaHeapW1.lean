/- The heap's small functions: where a block begins, which block an address lies in, the classes, taking a cell, a run of free blocks. Conditions: bounds on the numbers, as stated at each. -/
import Derived.Test.YtjfpijoeddjgmaaProg
import Derived.Test.YtjfpijoeddjgmaaRep
import Derived.WalkSpells
import Derived.WalkLawsBesides
import Derived.Lib.Hide
import Derived.BigQuiet
import Derived.Deep.QuietTactic
namespace Go.Proofs.Ytjfpijoeddjgmaa
open Go.RowKit Hm

theorem at_any (b : Int) (w : World) (h0 : 0 ≤ b) (h1 : b ≤ 100000) :
    Calls Try.prog 90 #[.int .i64 b] w fun e w' => e = .returned (.int .i64 (1 + b * 32)) ∧ w = w' := by
  go_enter Try.func90, Try.ntmps90
  go_wp2
  go_ret
  exact ⟨rfl, rfl⟩
theorem of_any (a : Int) (w : World) (h0 : 1 ≤ a) (h1 : a ≤ 10000000) :
    Calls Try.prog 65 #[.int .i64 a] w fun e w' => e = .returned (.int .i64 ((a - 1) / 32)) ∧ w = w' := by
  go_enter Try.func65, Try.ntmps65
  go_wp2
  go_ret
  exact ⟨rfl, rfl⟩
theorem classes_any (w : World) :
    Calls Try.prog 91 #[] w fun e w' => e = .returned (.slice (some ⟨w.heap.size, 0, none⟩) 5 5) ∧ w.alloc (.cells #[.int .i64 2, .int .i64 4, .int .i64 8, .int .i64 16, .int .i64 32] 3) = w' := by
  go_enter Try.func91, Try.ntmps91
  go_wp2
  go_ret
  exact ⟨rfl, rfl⟩

def clsAt (k : Nat) : Nat := 2 ^ (k + 1)
theorem cls_at {n k : Nat} (hk : k < 5) (h1 : n ≤ clsAt k) (h2 : ∀ j, j < k → clsAt j < n) : cls n = clsAt k := by
  unfold clsAt at *
  unfold cls
  match k, hk with
  | 0, _ => rw [if_pos (by omega)]
  | 1, _ => have := h2 0 (by omega); rw [if_neg (by omega), if_pos (by omega)]
  | 2, _ => have := h2 1 (by omega); rw [if_neg (by omega), if_neg (by omega), if_pos (by omega)]
  | 3, _ => have := h2 2 (by omega); rw [if_neg (by omega), if_neg (by omega), if_neg (by omega), if_pos (by omega)]
  | 4, _ => have := h2 3 (by omega); rw [if_neg (by omega), if_neg (by omega), if_neg (by omega), if_neg (by omega)]

set_option maxHeartbeats 400000 in
theorem class_any (n : Nat) (w : World) (h1 : 1 ≤ n) (h2 : n ≤ 32) :
    Calls Try.prog 62 #[.int .i64 n] w fun e w' => e = .returned (.int .i64 (cls n)) ∧ Below w.heap.size w w' := by
  go_enter Try.func62, Try.ntmps62
  go_wp2_with (first | (go_at_call 91; refine (classes_any _).mono ?_; rintro e w' ⟨rfl, rfl⟩))
  go_loop [7] (fun i => ∃ k : Nat, k < 5 ∧ i = .int .i64 k ∧ Hid (∀ j, j < k → clsAt j < n)) (fun i => 5 - (intOf i).toNat)
  case atStart => exact ⟨0, by omega, rfl, fun j hj => by omega⟩
  case round =>
    obtain ⟨k, hk, rfl, hlow⟩ := hrel
    obtain ⟨C, hC⟩ : ∃ C, C = clsAt k := ⟨_, rfl⟩
    have hcell : (w.alloc (.cells #[.int .i64 2, .int .i64 4, .int .i64 8, .int .i64 16, .int .i64 32] 3)).cell? ⟨w.heap.size, k, none⟩ = some (.int .i64 C) := by
      subst hC
      match k, hk with
      | 0, _ => simp [World.cell?_alloc_new, clsAt]
      | 1, _ => simp [World.cell?_alloc_new, clsAt]
      | 2, _ => simp [World.cell?_alloc_new, clsAt]
      | 3, _ => simp [World.cell?_alloc_new, clsAt]
      | 4, _ => simp [World.cell?_alloc_new, clsAt]
    have HC := Lib.hid hC
    clear hC
    by_cases hn : n ≤ C
    · go_wp2
      go_ret
      exact ⟨by rw [cls_at hk (by rw [← HC.out]; exact hn) hlow.out, ← HC.out]; rfl, (Below.refl _ _).alloc (Nat.le_refl _) _⟩
    · have hk4 : k < 4 := by
        rcases Nat.lt_or_ge k 4 with h | h
        · exact h
        · have : k = 4 := by omega
          subst this
          have := HC.out
          simp [clsAt] at this
          omega
      go_wp2
      go_round
      case rel =>
        refine ⟨k + 1, by omega, by go_num, ?_⟩
        intro j hj
        rcases Nat.lt_or_ge j k with h | h
        · exact hlow.out j h
        · have : j = k := by omega
          subst this
          rw [← HC.out]; omega
      case measure => simp [intOf]; omega

set_option maxHeartbeats 400000 in
theorem take_raw {p : HP} {nb : Nat} {wd kd cn : Nat → Int} {us : Nat → Bool} {L : List (Ent Int)} {clk : Nat} {cl : Int} (b c j0 : Nat) (w : World)
    (hR : Raw w p nb wd kd cn us L clk cl) (hb : b < nb) (hnb : nb ≤ 2048) (hc : isCls c) (hj : c * j0 < 32) (hcnt : 0 ≤ cn b) (hcnt2 : cn b ≤ 32)
    (hne : ∀ j, j < j0 → us (1 + 32 * b + c * j) = true) (hfree : us (1 + 32 * b + c * j0) = false) :
    Calls Try.prog 63 #[.pointer (some ⟨p.h, 0, none⟩), .int .i64 b, .int .i64 c] w fun e w' =>
      e = .returned (.int .i64 ((1 + 32 * b + c * j0 : Nat) : Int)) ∧ Raw w' p nb wd kd (upd cn b (cn b + 1)) (upd us (1 + 32 * b + c * j0) true) L clk cl ∧ Fr p.mine w w' := by
  have fin : ∀ e w', (e = Ending.returned (.int .i64 ((1 + b * 32 + c * j0 : Nat) : Int)) ∧ w' = (w.setCell ⟨p.ub, 1 + b * 32 + c * j0, none⟩ (.bool true)).setCell ⟨p.cb, b, none⟩ (.int .i64 (cn b + 1))) →
      e = .returned (.int .i64 ((1 + 32 * b + c * j0 : Nat) : Int)) ∧ Raw w' p nb wd kd (upd cn b (cn b + 1)) (upd us (1 + 32 * b + c * j0) true) L clk cl ∧ Fr p.mine w w' := by
    rintro e w' ⟨rfl, rfl⟩
    rw [show 1 + b * 32 + c * j0 = 1 + 32 * b + c * j0 by omega]
    exact ⟨rfl, (hR.setUsed _ _).setCnt _ _, ((Fr.refl _ w).setCell (by simp [HP.mine]) _).setCell (by simp [HP.mine]) _⟩
  refine Calls.mono ?_ fin
  clear fin
  have hend := hc.end_le hj
  have h2 : w.cell? ⟨p.h, 2, none⟩ = some (.slice (some ⟨p.cb, 0, none⟩) nb nb) := hR.st.cell (by omega)
  have h3 : w.cell? ⟨p.h, 3, none⟩ = some (.slice (some ⟨p.ub, 0, none⟩) (1 + 32 * nb) (1 + 32 * nb)) := hR.st.cell (by omega)
  have hcb : w.cell? ⟨p.cb, b, none⟩ = some (.int .i64 (cn b)) := hR.cn.cell hb
  have hf1 := hR.us.frozen
  have hf2 := hR.cn.frozen b
  have hub : p.ub ≠ p.h := hR.ok.h4.symm
  have huc : p.ub ≠ p.cb := hR.ok.c1.symm
  have HU := Lib.hid hR.us
  have HNE := Lib.hid hne
  have hfree' : us (1 + b * 32 + c * j0) = false := by rw [← hfree]; congr 1; omega
  clear hne hR hfree
  have hcp := hc.pos
  have hcl := hc.le
  clear hc
  go_enter Try.func63, Try.ntmps63
  go_wp2_with (first | (go_at_call 90; refine (at_any _ _ (by omega) (by omega)).mono ?_; rintro e w' ⟨rfl, rfl⟩))
  go_loop [7] (fun a => ∃ j : Nat, j ≤ j0 ∧ a = .int .i64 ((1 + b * 32 + c * j : Nat) : Int)) (fun a => 1 + b * 32 + 32 - (intOf a).toNat)
  case atStart => exact ⟨0, Nat.zero_le _, by go_num⟩
  case round =>
    obtain ⟨j, hjj, rfl⟩ := hrel
    have hjc : c * j ≤ c * j0 := Nat.mul_le_mul_left _ hjj
    have hcell := HU.out.cell (i := 1 + b * 32 + c * j) (by omega)
    by_cases hlast : j = j0
    · subst hlast
      rw [hfree'] at hcell
      go_wp2_with (first | (go_at_call 90; refine (at_any _ _ (by omega) (by omega)).mono ?_; rintro e w' ⟨rfl, rfl⟩))
      go_ret
      exact ⟨by go_num, rfl⟩
    · have hlt : j < j0 := by omega
      rw [show 1 + b * 32 + c * j = 1 + 32 * b + c * j by omega, HNE.out j hlt, show 1 + 32 * b + c * j = 1 + b * 32 + c * j by omega] at hcell
      have hmul : c * j + c ≤ c * j0 := HS.mul_apart hlt
      go_wp2_with (first | (go_at_call 90; refine (at_any _ _ (by omega) (by omega)).mono ?_; rintro e w' ⟨rfl, rfl⟩))
      go_round
      case rel => exact ⟨j + 1, by omega, by rw [Nat.mul_add]; go_num⟩
      case measure => simp [intOf]; omega
end Go.Proofs.Ytjfpijoeddjgmaa
