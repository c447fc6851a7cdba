/- TableSizes: the walk. No condition. -/
import Derived.Test.YtdfbdjlcbjdabaaTop
namespace Go.Proofs.Ytdfbdjlcbjdabaa
open Go.RowKit
set_option linter.unusedVariables false
set_option linter.unusedSimpArgs false
theorem urem60 (x : Int) : ∃ y : Nat, wrap64 ((IntKind.u64.wrap x).tmod 60) = y ∧ (y : Int) < 60 := by
  have h : 0 ≤ IntKind.u64.wrap x := by
    simp only [IntKind.wrap, IntKind.bits, IntKind.signed]
    simp
    omega
  generalize IntKind.u64.wrap x = z at h
  rw [Int.tmod_eq_emod_of_nonneg h]
  have h1 := Int.emod_lt_of_pos z (show (0 : Int) < 60 by omega)
  have h2 := Int.emod_nonneg z (show (60 : Int) ≠ 0 by omega)
  obtain ⟨y, hy⟩ := Int.eq_ofNat_of_zero_le h2
  refine ⟨y, ?_, by omega⟩
  rw [hy]
  unfold wrap64
  omega
namespace tableSizes
set_option maxRecDepth 100000 in
set_option maxHeartbeats 8000000 in
theorem walk (k p n a t c o pk : Int) (nm : ByteArray) (m : Int) (w : World) : Calls Try.prog 5 #[.agg #[.int .i64 k, .int .i64 p, .int .i64 n, .int .i64 a, .int .i64 t, .int .i64 c, .int .i64 o, .int .i64 pk, .string nm], .int .i64 m] w fun e w' => e = .returned (.bool true) ∧ Below w.heap.size w w' := by
  obtain ⟨R, hR⟩ := bool_of (inRange p n a t c o pk ∧ restOf k p n a t c o pk)
  have HBX := Lib.hid (box_start w k p n a t c o pk nm)
  have HEND : Hid (∀ w', Box w.heap.size (w.alloc (.cells #[.int .i64 k, .int .i64 p, .int .i64 n, .int .i64 a, .int .i64 t, .int .i64 c, .int .i64 o, .int .i64 pk, .string nm] 31)) w' k p n a t c o pk nm → Below w.heap.size w w') := fun w' h => ((Below.refl _ w).alloc (Nat.le_refl _) _).trans (h.1.out.1.mono (by omega))
  obtain ⟨h6, h9, h11, h10⟩ := walks k p n a t c o pk nm R hR w.heap.size (w.alloc (.cells #[.int .i64 k, .int .i64 p, .int .i64 n, .int .i64 a, .int .i64 t, .int .i64 c, .int .i64 o, .int .i64 pk, .string nm] 31))
  obtain ⟨B, hB⟩ : ∃ B, B = w.heap.size := ⟨_, rfl⟩
  obtain ⟨W1, hW1⟩ : ∃ W1, W1 = (w.alloc (.cells #[.int .i64 k, .int .i64 p, .int .i64 n, .int .i64 a, .int .i64 t, .int .i64 c, .int .i64 o, .int .i64 pk, .string nm] 31)) := ⟨_, rfl⟩
  have HBW := Lib.hid (And.intro hB hW1)
  rw [← hB, ← hW1] at h6 h9 h10 h11 HEND
  rw [← hB]
  unfold Inf.val Inf.arr at *
  simp only at h9 h10 h11
  have HR := Lib.hid hR
  have HB1 : Hid (Box B W1 W1 k p n a t c o pk nm) := by rw [HBW.out.1, HBW.out.2]; exact HBX.out
  have A6 : Hid (∀ W, Hid (Box B W1 W k p n a t c o pk nm) → Calls Try.prog 6 #[] W fun e w' => e = .returned (.bool true) ∧ Hid (Box B W1 w' k p n a t c o pk nm) ∧ w'.cell? ⟨B, 0, none⟩ = some (.int .i64 k) ∧ w'.cell? ⟨B, 1, none⟩ = some (.int .i64 p) ∧ w'.cell? ⟨B, 2, none⟩ = some (.int .i64 n) ∧ w'.cell? ⟨B, 3, none⟩ = some (.int .i64 a) ∧ w'.cell? ⟨B, 4, none⟩ = some (.int .i64 t) ∧ w'.cell? ⟨B, 5, none⟩ = some (.int .i64 c) ∧ w'.cell? ⟨B, 6, none⟩ = some (.int .i64 o) ∧ w'.cell? ⟨B, 7, none⟩ = some (.int .i64 pk) ∧ w'.cell? ⟨B, 8, none⟩ = some (.string nm)) := fun W hW => (h6 W hW.out).mono fun e w' h => ⟨h.1, h.2, h.2.2⟩
  have A9 : Hid (∀ W, Hid (Box B W1 W k p n a t c o pk nm) → Calls Try.prog 9 #[.agg #[.int .i64 k, .int .i64 p, .int .i64 n, .int .i64 a, .int .i64 t, .int .i64 c, .int .i64 o, .int .i64 pk, .string nm]] W fun e w' => e = .returned (.bool R) ∧ Hid (Box B W1 w' k p n a t c o pk nm) ∧ w'.cell? ⟨B, 0, none⟩ = some (.int .i64 k) ∧ w'.cell? ⟨B, 1, none⟩ = some (.int .i64 p) ∧ w'.cell? ⟨B, 2, none⟩ = some (.int .i64 n) ∧ w'.cell? ⟨B, 3, none⟩ = some (.int .i64 a) ∧ w'.cell? ⟨B, 4, none⟩ = some (.int .i64 t) ∧ w'.cell? ⟨B, 5, none⟩ = some (.int .i64 c) ∧ w'.cell? ⟨B, 6, none⟩ = some (.int .i64 o) ∧ w'.cell? ⟨B, 7, none⟩ = some (.int .i64 pk) ∧ w'.cell? ⟨B, 8, none⟩ = some (.string nm)) := fun W hW => (h9 W hW.out).mono fun e w' h => ⟨h.1, h.2, h.2.2⟩
  have A11 : Hid (∀ W, Hid (Box B W1 W k p n a t c o pk nm) → Calls Try.prog 11 #[.agg #[.int .i64 k, .int .i64 p, .int .i64 n, .int .i64 a, .int .i64 t, .int .i64 c, .int .i64 o, .int .i64 pk, .string nm]] W fun e w' => e = .returned (.agg #[.int .i64 k, .int .i64 p, .int .i64 n, .int .i64 a, .int .i64 t, .int .i64 c, .int .i64 o, .int .i64 pk]) ∧ Hid (Box B W1 w' k p n a t c o pk nm) ∧ w'.cell? ⟨B, 0, none⟩ = some (.int .i64 k) ∧ w'.cell? ⟨B, 1, none⟩ = some (.int .i64 p) ∧ w'.cell? ⟨B, 2, none⟩ = some (.int .i64 n) ∧ w'.cell? ⟨B, 3, none⟩ = some (.int .i64 a) ∧ w'.cell? ⟨B, 4, none⟩ = some (.int .i64 t) ∧ w'.cell? ⟨B, 5, none⟩ = some (.int .i64 c) ∧ w'.cell? ⟨B, 6, none⟩ = some (.int .i64 o) ∧ w'.cell? ⟨B, 7, none⟩ = some (.int .i64 pk) ∧ w'.cell? ⟨B, 8, none⟩ = some (.string nm)) := fun W hW => (h11 W hW.out).mono fun e w' h => ⟨h.1, h.2, h.2.2⟩
  have A10 : Hid (∀ W, Hid (Box B W1 W k p n a t c o pk nm) → Calls Try.prog 10 #[.agg #[.int .i64 k, .int .i64 p, .int .i64 n, .int .i64 a, .int .i64 t, .int .i64 c, .int .i64 o, .int .i64 pk]] W fun e w' => e = .returned (.bool R) ∧ Hid (Box B W1 w' k p n a t c o pk nm) ∧ w'.cell? ⟨B, 0, none⟩ = some (.int .i64 k) ∧ w'.cell? ⟨B, 1, none⟩ = some (.int .i64 p) ∧ w'.cell? ⟨B, 2, none⟩ = some (.int .i64 n) ∧ w'.cell? ⟨B, 3, none⟩ = some (.int .i64 a) ∧ w'.cell? ⟨B, 4, none⟩ = some (.int .i64 t) ∧ w'.cell? ⟨B, 5, none⟩ = some (.int .i64 c) ∧ w'.cell? ⟨B, 6, none⟩ = some (.int .i64 o) ∧ w'.cell? ⟨B, 7, none⟩ = some (.int .i64 pk) ∧ w'.cell? ⟨B, 8, none⟩ = some (.string nm)) := fun W hW => (h10 W hW.out).mono fun e w' h => ⟨h.1, h.2, h.2.2⟩
  have HB1' := HB1.out.2
  clear h6 h9 h11 h10 hR hB hW1 HBX
  cases R with
  | false =>
    go_enter Try.func5, Try.ntmps5
    go_wp2_with fail
    rw [← HBW.out.2, ← HBW.out.1]
    obtain ⟨c0, c1, c2, c3, c4, c5, c6, c7, c8⟩ := HB1'
    go_wp2_with (first | (go_at_call 6; refine (A6.out _ ?_).mono ?_; (simp [*]); rintro e w9 ⟨rfl, h9, g0, g1, g2, g3, g4, g5, g6, g7, g8⟩) | (go_at_call 9; refine (A9.out _ ?_).mono ?_; (simp [*]); rintro e w9 ⟨rfl, h9, g0, g1, g2, g3, g4, g5, g6, g7, g8⟩) | (go_at_call 11; refine (A11.out _ ?_).mono ?_; (simp [*]); rintro e w9 ⟨rfl, h9, g0, g1, g2, g3, g4, g5, g6, g7, g8⟩) | (go_at_call 10; refine (A10.out _ ?_).mono ?_; (simp [*]); rintro e w9 ⟨rfl, h9, g0, g1, g2, g3, g4, g5, g6, g7, g8⟩))
    go_ret
    exact ⟨rfl, HEND.out _ h9.out⟩
  | true =>
    obtain ⟨hin, hrest⟩ := HR.out.1 rfl
    obtain ⟨h12, h13, h14, h15⟩ := walks2 k p n a t c o pk nm ((in_iff ..).2 hin).ok B W1
    obtain ⟨y, hy, hy60⟩ := urem60 m
    obtain ⟨Fy, hFy⟩ : ∃ F, F = Inf.fits ⟨k, p, n, a, t, c, o, pk, nm⟩ (1 + (y : Int)) := ⟨_, rfl⟩
    obtain ⟨Z, hZ⟩ : ∃ Z, Z = Inf.size ⟨k, p, n, a, t, c, o, pk, nm⟩ := ⟨_, rfl⟩
    obtain ⟨Fz, hFz⟩ : ∃ F, F = Inf.fits ⟨k, p, n, a, t, c, o, pk, nm⟩ Z := ⟨_, rfl⟩
    obtain ⟨Y, hY⟩ : ∃ Y, Y = Inf.pointers ⟨k, p, n, a, t, c, o, pk, nm⟩ (1 + (y : Int)) := ⟨_, rfl⟩
    have h13y := h13 (1 + (y : Int))
    have h13z := h13 Z
    have h13a := h13 0
    have h13b := h13 61
    have h15y := h15 (1 + (y : Int))
    have hsmall : (1 ≤ p + n ∨ p + n = 0) ∧ p + n ≤ 60 ∧ 0 ≤ p ∧ 0 ≤ n := by obtain ⟨⟨h1, h2, h3, h4, h5⟩, _⟩ := hin; omega
    have e0 : Inf.fits ⟨k, p, n, a, t, c, o, pk, nm⟩ 0 = false := by
      unfold Inf.fits Inf.size
      simp only
      by_cases k3 : k = 3
      · rw [if_pos k3]; simp
      · rw [if_neg k3]
        by_cases k67 : k = 7 ∨ k = 6
        · rw [if_pos k67]; simp
        · rw [if_neg k67, if_neg (by omega)]; simp; omega
    have e61 : Inf.fits ⟨k, p, n, a, t, c, o, pk, nm⟩ 61 = false := by
      unfold Inf.fits Inf.size
      simp only
      by_cases k3 : k = 3
      · rw [if_pos k3]; simp
      · rw [if_neg k3]
        by_cases k67 : k = 7 ∨ k = 6
        · rw [if_pos k67]; simp
        · rw [if_neg k67, if_neg (by omega)]; simp; omega
    have hFzT : 0 < Z → Fz = true := by
      intro hz
      rw [hFz]
      unfold Inf.fits Inf.size at *
      simp only at *
      by_cases k3 : k = 3
      · rw [if_pos (.inl k3)] at hZ; omega
      · rw [if_neg k3]
        by_cases k67 : k = 7 ∨ k = 6
        · rw [if_pos k67]
          simp only [decide_eq_true_eq]
          by_cases k7 : k = 7
          · rw [if_pos (.inr k7)] at hZ; omega
          · rw [if_neg (by omega)] at hZ; omega
        · rw [if_neg k67]; simp only [decide_eq_true_eq]; exact hZ
    have hZ60 : ¬ 60 < Z := by
      rw [hZ]; unfold Inf.size; simp only
      split <;> omega
    have hYy : Fy = true → Y ≤ 1 + (y : Int) := by
      intro hf
      rw [hFy] at hf
      rw [hY]
      unfold Inf.fits Inf.size at hf
      unfold Inf.pointers
      simp only at hf ⊢
      by_cases k3 : k = 3
      · rw [if_pos k3]; omega
      · rw [if_neg k3] at hf ⊢
        by_cases k67 : k = 7 ∨ k = 6
        · unfold restOf at hrest
          omega
        · rw [if_neg k67, if_neg (by omega)] at hf
          simp only [decide_eq_true_eq] at hf
          omega
    have hFyZ : k ≠ 3 → k ≠ 7 → k ≠ 6 → Fy = (1 + (y : Int) == Z) := by
      intro k3 k7 k6
      rw [hFy, hZ]
      unfold Inf.fits
      simp only
      rw [if_neg k3, if_neg (by omega)]
      rw [Bool.eq_iff_iff]; simp
    rw [← hFy] at h13y
    rw [← hZ] at h12
    rw [← hFz] at h13z
    rw [← hY] at h15y
    rw [e0] at h13a
    rw [e61] at h13b
    unfold Inf.val at h12 h13y h13z h13a h13b h15y
    have hzk : (k = 3 ∨ k = 7) → Z = 0 := fun h => by rw [hZ]; unfold Inf.size; simp only; rw [if_pos h]
    have hzk2 : ¬ (k = 3 ∨ k = 7) → 0 < Z := fun h => by rw [hZ]; unfold Inf.size; simp only; rw [if_neg h]; omega
    have A12 : Hid (∀ W, Hid (Box B W1 W k p n a t c o pk nm) → Calls Try.prog 12 #[.agg #[.int .i64 k, .int .i64 p, .int .i64 n, .int .i64 a, .int .i64 t, .int .i64 c, .int .i64 o, .int .i64 pk, .string nm]] W fun e w' => e = .returned (.int .i64 Z) ∧ Hid (Box B W1 w' k p n a t c o pk nm) ∧ w'.cell? ⟨B, 0, none⟩ = some (.int .i64 k) ∧ w'.cell? ⟨B, 1, none⟩ = some (.int .i64 p) ∧ w'.cell? ⟨B, 2, none⟩ = some (.int .i64 n) ∧ w'.cell? ⟨B, 3, none⟩ = some (.int .i64 a) ∧ w'.cell? ⟨B, 4, none⟩ = some (.int .i64 t) ∧ w'.cell? ⟨B, 5, none⟩ = some (.int .i64 c) ∧ w'.cell? ⟨B, 6, none⟩ = some (.int .i64 o) ∧ w'.cell? ⟨B, 7, none⟩ = some (.int .i64 pk) ∧ w'.cell? ⟨B, 8, none⟩ = some (.string nm)) := fun W hW => (h12 W hW.out).mono fun e w' h => ⟨h.1, h.2, h.2.2⟩
    have A13y : Hid (∀ W, Hid (Box B W1 W k p n a t c o pk nm) → Calls Try.prog 13 #[.agg #[.int .i64 k, .int .i64 p, .int .i64 n, .int .i64 a, .int .i64 t, .int .i64 c, .int .i64 o, .int .i64 pk, .string nm], .int .i64 (1 + (y : Int))] W fun e w' => e = .returned (.bool Fy) ∧ Hid (Box B W1 w' k p n a t c o pk nm) ∧ w'.cell? ⟨B, 0, none⟩ = some (.int .i64 k) ∧ w'.cell? ⟨B, 1, none⟩ = some (.int .i64 p) ∧ w'.cell? ⟨B, 2, none⟩ = some (.int .i64 n) ∧ w'.cell? ⟨B, 3, none⟩ = some (.int .i64 a) ∧ w'.cell? ⟨B, 4, none⟩ = some (.int .i64 t) ∧ w'.cell? ⟨B, 5, none⟩ = some (.int .i64 c) ∧ w'.cell? ⟨B, 6, none⟩ = some (.int .i64 o) ∧ w'.cell? ⟨B, 7, none⟩ = some (.int .i64 pk) ∧ w'.cell? ⟨B, 8, none⟩ = some (.string nm)) := fun W hW => (h13y W hW.out).mono fun e w' h => ⟨h.1, h.2, h.2.2⟩
    have A13z : Hid (∀ W, Hid (Box B W1 W k p n a t c o pk nm) → Calls Try.prog 13 #[.agg #[.int .i64 k, .int .i64 p, .int .i64 n, .int .i64 a, .int .i64 t, .int .i64 c, .int .i64 o, .int .i64 pk, .string nm], .int .i64 Z] W fun e w' => e = .returned (.bool Fz) ∧ Hid (Box B W1 w' k p n a t c o pk nm) ∧ w'.cell? ⟨B, 0, none⟩ = some (.int .i64 k) ∧ w'.cell? ⟨B, 1, none⟩ = some (.int .i64 p) ∧ w'.cell? ⟨B, 2, none⟩ = some (.int .i64 n) ∧ w'.cell? ⟨B, 3, none⟩ = some (.int .i64 a) ∧ w'.cell? ⟨B, 4, none⟩ = some (.int .i64 t) ∧ w'.cell? ⟨B, 5, none⟩ = some (.int .i64 c) ∧ w'.cell? ⟨B, 6, none⟩ = some (.int .i64 o) ∧ w'.cell? ⟨B, 7, none⟩ = some (.int .i64 pk) ∧ w'.cell? ⟨B, 8, none⟩ = some (.string nm)) := fun W hW => (h13z W hW.out).mono fun e w' h => ⟨h.1, h.2, h.2.2⟩
    have A13a : Hid (∀ W, Hid (Box B W1 W k p n a t c o pk nm) → Calls Try.prog 13 #[.agg #[.int .i64 k, .int .i64 p, .int .i64 n, .int .i64 a, .int .i64 t, .int .i64 c, .int .i64 o, .int .i64 pk, .string nm], .int .i64 0] W fun e w' => e = .returned (.bool false) ∧ Hid (Box B W1 w' k p n a t c o pk nm) ∧ w'.cell? ⟨B, 0, none⟩ = some (.int .i64 k) ∧ w'.cell? ⟨B, 1, none⟩ = some (.int .i64 p) ∧ w'.cell? ⟨B, 2, none⟩ = some (.int .i64 n) ∧ w'.cell? ⟨B, 3, none⟩ = some (.int .i64 a) ∧ w'.cell? ⟨B, 4, none⟩ = some (.int .i64 t) ∧ w'.cell? ⟨B, 5, none⟩ = some (.int .i64 c) ∧ w'.cell? ⟨B, 6, none⟩ = some (.int .i64 o) ∧ w'.cell? ⟨B, 7, none⟩ = some (.int .i64 pk) ∧ w'.cell? ⟨B, 8, none⟩ = some (.string nm)) := fun W hW => (h13a W hW.out).mono fun e w' h => ⟨h.1, h.2, h.2.2⟩
    have A13b : Hid (∀ W, Hid (Box B W1 W k p n a t c o pk nm) → Calls Try.prog 13 #[.agg #[.int .i64 k, .int .i64 p, .int .i64 n, .int .i64 a, .int .i64 t, .int .i64 c, .int .i64 o, .int .i64 pk, .string nm], .int .i64 61] W fun e w' => e = .returned (.bool false) ∧ Hid (Box B W1 w' k p n a t c o pk nm) ∧ w'.cell? ⟨B, 0, none⟩ = some (.int .i64 k) ∧ w'.cell? ⟨B, 1, none⟩ = some (.int .i64 p) ∧ w'.cell? ⟨B, 2, none⟩ = some (.int .i64 n) ∧ w'.cell? ⟨B, 3, none⟩ = some (.int .i64 a) ∧ w'.cell? ⟨B, 4, none⟩ = some (.int .i64 t) ∧ w'.cell? ⟨B, 5, none⟩ = some (.int .i64 c) ∧ w'.cell? ⟨B, 6, none⟩ = some (.int .i64 o) ∧ w'.cell? ⟨B, 7, none⟩ = some (.int .i64 pk) ∧ w'.cell? ⟨B, 8, none⟩ = some (.string nm)) := fun W hW => (h13b W hW.out).mono fun e w' h => ⟨h.1, h.2, h.2.2⟩
    have A15y : Hid (∀ W, Hid (Box B W1 W k p n a t c o pk nm) → Calls Try.prog 15 #[.agg #[.int .i64 k, .int .i64 p, .int .i64 n, .int .i64 a, .int .i64 t, .int .i64 c, .int .i64 o, .int .i64 pk, .string nm], .int .i64 (1 + (y : Int))] W fun e w' => e = .returned (.int .i64 Y) ∧ Hid (Box B W1 w' k p n a t c o pk nm) ∧ w'.cell? ⟨B, 0, none⟩ = some (.int .i64 k) ∧ w'.cell? ⟨B, 1, none⟩ = some (.int .i64 p) ∧ w'.cell? ⟨B, 2, none⟩ = some (.int .i64 n) ∧ w'.cell? ⟨B, 3, none⟩ = some (.int .i64 a) ∧ w'.cell? ⟨B, 4, none⟩ = some (.int .i64 t) ∧ w'.cell? ⟨B, 5, none⟩ = some (.int .i64 c) ∧ w'.cell? ⟨B, 6, none⟩ = some (.int .i64 o) ∧ w'.cell? ⟨B, 7, none⟩ = some (.int .i64 pk) ∧ w'.cell? ⟨B, 8, none⟩ = some (.string nm)) := fun W hW => (h15y W hW.out).mono fun e w' h => ⟨h.1, h.2, h.2.2⟩
    have A7 : Hid (∀ W, Calls Try.prog 7 #[.int .i64 7, .int .i64 (1 + (y : Int))] W fun e w' => e = .returned (.tuple #[.int .u64 (headOf 7 (1 + (y : Int))), .int .i64 0]) ∧ W = w') := head_ok 7 (1 + (y : Int)) (by omega)
    have A8 : Hid (∀ W, Calls Try.prog 8 #[.int .u64 (headOf 7 (1 + (y : Int)))] W fun e w' => e = .returned (.tuple #[.int .i64 7, .int .i64 (1 + (y : Int)), .int .i64 0]) ∧ W = w') := split_ok 7 (1 + (y : Int)) (by omega)
    obtain ⟨X, hX⟩ : ∃ X, X = headOf 7 (1 + (y : Int)) := ⟨_, rfl⟩
    rw [← hX] at A7 A8
    have hwy : wrap64 (1 + (y : Int)) = 1 + (y : Int) := by unfold wrap64; omega
    have HFyZ := Lib.hid hFyZ
    have HYy := Lib.hid hYy
    have HFzT := Lib.hid hFzT
    clear h12 h13 h14 h15 h13y h13z h13a h13b h15y hFy hFz hY hZ hin hrest HR hsmall e0 e61 hX hFyZ hYy hFzT
    obtain ⟨c0, c1, c2, c3, c4, c5, c6, c7, c8⟩ := HB1'
    have hHB1 := HB1
    cases Fy with
    | true =>
      have hle : decide (Y ≤ 1 + (y : Int)) = true := by simpa using HYy.out rfl
      by_cases k3 : k = 3
      · have hz := hzk (.inl k3)
        subst k3 hz
        clear hzk hzk2 hZ60
        go_enter Try.func5, Try.ntmps5
        go_wp2_with fail
        rw [← HBW.out.2, ← HBW.out.1]
        go_wp2_with fail
        clear c0 c1 c2 c3 c4 c5 c6 c7 c8
        refine (A6.out _ hHB1).mono ?_
        rintro e w1_ ⟨rfl, h1, g10, g11, g12, g13, g14, g15, g16, g17, g18⟩
        go_wp2_with fail
        clear g10 g11 g12 g13 g14 g15 g16 g17 g18
        refine (A9.out _ h1).mono ?_
        rintro e w2_ ⟨rfl, h2, g20, g21, g22, g23, g24, g25, g26, g27, g28⟩
        go_wp2_with fail
        clear g20 g21 g22 g23 g24 g25 g26 g27 g28
        refine (A12.out _ h2).mono ?_
        rintro e w3_ ⟨rfl, h3, g30, g31, g32, g33, g34, g35, g36, g37, g38⟩
        go_wp2_with fail
        refine (A7.out _).mono ?_
        rintro e w8 ⟨rfl, rfl⟩
        go_wp2_with fail
        refine (A8.out _).mono ?_
        rintro e w8 ⟨rfl, rfl⟩
        go_wp2_with fail
        clear g30 g31 g32 g33 g34 g35 g36 g37 g38
        refine (A13y.out _ h3).mono ?_
        rintro e w4_ ⟨rfl, h4, g40, g41, g42, g43, g44, g45, g46, g47, g48⟩
        go_wp2_with fail
        clear g40 g41 g42 g43 g44 g45 g46 g47 g48
        refine (A15y.out _ h4).mono ?_
        rintro e w5_ ⟨rfl, h5, g50, g51, g52, g53, g54, g55, g56, g57, g58⟩
        go_wp2_with fail
        clear g50 g51 g52 g53 g54 g55 g56 g57 g58
        refine (A13a.out _ h5).mono ?_
        rintro e w6_ ⟨rfl, h6, g60, g61, g62, g63, g64, g65, g66, g67, g68⟩
        go_wp2_with fail
        clear g60 g61 g62 g63 g64 g65 g66 g67 g68
        refine (A13b.out _ h6).mono ?_
        rintro e w7_ ⟨rfl, h7, g70, g71, g72, g73, g74, g75, g76, g77, g78⟩
        go_wp2
        go_ret
        exact ⟨rfl, HEND.out _ h7.out⟩
      · by_cases k7 : k = 7
        · have hz := hzk (.inr k7)
          subst k7 hz
          clear hzk hzk2 hZ60
          go_enter Try.func5, Try.ntmps5
          go_wp2_with fail
          rw [← HBW.out.2, ← HBW.out.1]
          go_wp2_with fail
          clear c0 c1 c2 c3 c4 c5 c6 c7 c8
          refine (A6.out _ hHB1).mono ?_
          rintro e w1_ ⟨rfl, h1, g10, g11, g12, g13, g14, g15, g16, g17, g18⟩
          go_wp2_with fail
          clear g10 g11 g12 g13 g14 g15 g16 g17 g18
          refine (A9.out _ h1).mono ?_
          rintro e w2_ ⟨rfl, h2, g20, g21, g22, g23, g24, g25, g26, g27, g28⟩
          go_wp2_with fail
          clear g20 g21 g22 g23 g24 g25 g26 g27 g28
          refine (A12.out _ h2).mono ?_
          rintro e w3_ ⟨rfl, h3, g30, g31, g32, g33, g34, g35, g36, g37, g38⟩
          go_wp2_with fail
          refine (A7.out _).mono ?_
          rintro e w8 ⟨rfl, rfl⟩
          go_wp2_with fail
          refine (A8.out _).mono ?_
          rintro e w8 ⟨rfl, rfl⟩
          go_wp2_with fail
          clear g30 g31 g32 g33 g34 g35 g36 g37 g38
          refine (A13y.out _ h3).mono ?_
          rintro e w4_ ⟨rfl, h4, g40, g41, g42, g43, g44, g45, g46, g47, g48⟩
          go_wp2_with fail
          clear g40 g41 g42 g43 g44 g45 g46 g47 g48
          refine (A15y.out _ h4).mono ?_
          rintro e w5_ ⟨rfl, h5, g50, g51, g52, g53, g54, g55, g56, g57, g58⟩
          go_wp2_with fail
          clear g50 g51 g52 g53 g54 g55 g56 g57 g58
          refine (A13a.out _ h5).mono ?_
          rintro e w6_ ⟨rfl, h6, g60, g61, g62, g63, g64, g65, g66, g67, g68⟩
          go_wp2_with fail
          clear g60 g61 g62 g63 g64 g65 g66 g67 g68
          refine (A13b.out _ h6).mono ?_
          rintro e w7_ ⟨rfl, h7, g70, g71, g72, g73, g74, g75, g76, g77, g78⟩
          go_wp2
          go_ret
          exact ⟨rfl, HEND.out _ h7.out⟩
        · have q3 : (k == 3) = false := by simpa using k3
          have q7 : (k == 7) = false := by simpa using k7
          have hz := hzk2 (by omega)
          have hz1 : decide (0 < Z) = true := by simpa using hz
          have hz2 : decide (60 < Z) = false := by simpa using hZ60
          have hft := HFzT.out hz
          subst hft
          by_cases k6 : k = 6
          · subst k6
            clear hzk hzk2 hZ60 hz k3 k7
            go_enter Try.func5, Try.ntmps5
            go_wp2_with fail
            rw [← HBW.out.2, ← HBW.out.1]
            go_wp2_with fail
            clear c0 c1 c2 c3 c4 c5 c6 c7 c8
            refine (A6.out _ hHB1).mono ?_
            rintro e w1_ ⟨rfl, h1, g10, g11, g12, g13, g14, g15, g16, g17, g18⟩
            go_wp2_with fail
            clear g10 g11 g12 g13 g14 g15 g16 g17 g18
            refine (A9.out _ h1).mono ?_
            rintro e w2_ ⟨rfl, h2, g20, g21, g22, g23, g24, g25, g26, g27, g28⟩
            go_wp2_with fail
            clear g20 g21 g22 g23 g24 g25 g26 g27 g28
            refine (A12.out _ h2).mono ?_
            rintro e w3_ ⟨rfl, h3, g30, g31, g32, g33, g34, g35, g36, g37, g38⟩
            go_wp2_with fail
            clear g30 g31 g32 g33 g34 g35 g36 g37 g38
            refine (A13z.out _ h3).mono ?_
            rintro e w4_ ⟨rfl, h4, g40, g41, g42, g43, g44, g45, g46, g47, g48⟩
            go_wp2_with fail
            refine (A7.out _).mono ?_
            rintro e w8 ⟨rfl, rfl⟩
            go_wp2_with fail
            refine (A8.out _).mono ?_
            rintro e w8 ⟨rfl, rfl⟩
            go_wp2_with fail
            clear g40 g41 g42 g43 g44 g45 g46 g47 g48
            refine (A13y.out _ h4).mono ?_
            rintro e w5_ ⟨rfl, h5, g50, g51, g52, g53, g54, g55, g56, g57, g58⟩
            go_wp2_with fail
            clear g50 g51 g52 g53 g54 g55 g56 g57 g58
            refine (A15y.out _ h5).mono ?_
            rintro e w6_ ⟨rfl, h6, g60, g61, g62, g63, g64, g65, g66, g67, g68⟩
            go_wp2_with fail
            clear g60 g61 g62 g63 g64 g65 g66 g67 g68
            refine (A13a.out _ h6).mono ?_
            rintro e w7_ ⟨rfl, h7, g70, g71, g72, g73, g74, g75, g76, g77, g78⟩
            go_wp2_with fail
            clear g70 g71 g72 g73 g74 g75 g76 g77 g78
            refine (A13b.out _ h7).mono ?_
            rintro e w8_ ⟨rfl, h8, g80, g81, g82, g83, g84, g85, g86, g87, g88⟩
            go_wp2
            go_ret
            exact ⟨rfl, HEND.out _ h8.out⟩
          · have q6 : (k == 6) = false := by simpa using k6
            have r3 : (k != 3) = true := by simpa using k3
            have r7 : (k != 7) = true := by simpa using k7
            have r6 : (k != 6) = true := by simpa using k6
            have hfz := HFyZ.out k3 k7 k6
            have hfz' : (1 + (y : Int) == Z) = true := hfz.symm
            clear hzk hzk2 hZ60 hz k3 k7 k6 hfz
            go_enter Try.func5, Try.ntmps5
            go_wp2_with fail
            rw [← HBW.out.2, ← HBW.out.1]
            go_wp2_with fail
            clear c0 c1 c2 c3 c4 c5 c6 c7 c8
            refine (A6.out _ hHB1).mono ?_
            rintro e w1_ ⟨rfl, h1, g10, g11, g12, g13, g14, g15, g16, g17, g18⟩
            go_wp2_with fail
            clear g10 g11 g12 g13 g14 g15 g16 g17 g18
            refine (A9.out _ h1).mono ?_
            rintro e w2_ ⟨rfl, h2, g20, g21, g22, g23, g24, g25, g26, g27, g28⟩
            go_wp2_with fail
            clear g20 g21 g22 g23 g24 g25 g26 g27 g28
            refine (A12.out _ h2).mono ?_
            rintro e w3_ ⟨rfl, h3, g30, g31, g32, g33, g34, g35, g36, g37, g38⟩
            go_wp2_with fail
            clear g30 g31 g32 g33 g34 g35 g36 g37 g38
            refine (A13z.out _ h3).mono ?_
            rintro e w4_ ⟨rfl, h4, g40, g41, g42, g43, g44, g45, g46, g47, g48⟩
            go_wp2_with fail
            clear g40 g41 g42 g43 g44 g45 g46 g47 g48
            refine (A13y.out _ h4).mono ?_
            rintro e w5_ ⟨rfl, h5, g50, g51, g52, g53, g54, g55, g56, g57, g58⟩
            go_wp2_with fail
            refine (A7.out _).mono ?_
            rintro e w8 ⟨rfl, rfl⟩
            go_wp2_with fail
            refine (A8.out _).mono ?_
            rintro e w8 ⟨rfl, rfl⟩
            go_wp2_with fail
            clear g50 g51 g52 g53 g54 g55 g56 g57 g58
            refine (A13y.out _ h5).mono ?_
            rintro e w6_ ⟨rfl, h6, g60, g61, g62, g63, g64, g65, g66, g67, g68⟩
            go_wp2_with fail
            clear g60 g61 g62 g63 g64 g65 g66 g67 g68
            refine (A15y.out _ h6).mono ?_
            rintro e w7_ ⟨rfl, h7, g70, g71, g72, g73, g74, g75, g76, g77, g78⟩
            go_wp2_with fail
            clear g70 g71 g72 g73 g74 g75 g76 g77 g78
            refine (A13a.out _ h7).mono ?_
            rintro e w8_ ⟨rfl, h8, g80, g81, g82, g83, g84, g85, g86, g87, g88⟩
            go_wp2_with fail
            clear g80 g81 g82 g83 g84 g85 g86 g87 g88
            refine (A13b.out _ h8).mono ?_
            rintro e w9_ ⟨rfl, h9, g90, g91, g92, g93, g94, g95, g96, g97, g98⟩
            go_wp2
            go_ret
            exact ⟨rfl, HEND.out _ h9.out⟩
    | false =>
      by_cases k3 : k = 3
      · have hz := hzk (.inl k3)
        subst k3 hz
        clear hzk hzk2 hZ60
        go_enter Try.func5, Try.ntmps5
        go_wp2_with fail
        rw [← HBW.out.2, ← HBW.out.1]
        go_wp2_with fail
        clear c0 c1 c2 c3 c4 c5 c6 c7 c8
        refine (A6.out _ hHB1).mono ?_
        rintro e w1_ ⟨rfl, h1, g10, g11, g12, g13, g14, g15, g16, g17, g18⟩
        go_wp2_with fail
        clear g10 g11 g12 g13 g14 g15 g16 g17 g18
        refine (A9.out _ h1).mono ?_
        rintro e w2_ ⟨rfl, h2, g20, g21, g22, g23, g24, g25, g26, g27, g28⟩
        go_wp2_with fail
        clear g20 g21 g22 g23 g24 g25 g26 g27 g28
        refine (A12.out _ h2).mono ?_
        rintro e w3_ ⟨rfl, h3, g30, g31, g32, g33, g34, g35, g36, g37, g38⟩
        go_wp2_with fail
        refine (A7.out _).mono ?_
        rintro e w8 ⟨rfl, rfl⟩
        go_wp2_with fail
        refine (A8.out _).mono ?_
        rintro e w8 ⟨rfl, rfl⟩
        go_wp2_with fail
        clear g30 g31 g32 g33 g34 g35 g36 g37 g38
        refine (A13y.out _ h3).mono ?_
        rintro e w4_ ⟨rfl, h4, g40, g41, g42, g43, g44, g45, g46, g47, g48⟩
        go_wp2_with fail
        clear g40 g41 g42 g43 g44 g45 g46 g47 g48
        refine (A13a.out _ h4).mono ?_
        rintro e w5_ ⟨rfl, h5, g50, g51, g52, g53, g54, g55, g56, g57, g58⟩
        go_wp2_with fail
        clear g50 g51 g52 g53 g54 g55 g56 g57 g58
        refine (A13b.out _ h5).mono ?_
        rintro e w6_ ⟨rfl, h6, g60, g61, g62, g63, g64, g65, g66, g67, g68⟩
        go_wp2
        go_ret
        exact ⟨rfl, HEND.out _ h6.out⟩
      · by_cases k7 : k = 7
        · have hz := hzk (.inr k7)
          subst k7 hz
          clear hzk hzk2 hZ60
          go_enter Try.func5, Try.ntmps5
          go_wp2_with fail
          rw [← HBW.out.2, ← HBW.out.1]
          go_wp2_with fail
          clear c0 c1 c2 c3 c4 c5 c6 c7 c8
          refine (A6.out _ hHB1).mono ?_
          rintro e w1_ ⟨rfl, h1, g10, g11, g12, g13, g14, g15, g16, g17, g18⟩
          go_wp2_with fail
          clear g10 g11 g12 g13 g14 g15 g16 g17 g18
          refine (A9.out _ h1).mono ?_
          rintro e w2_ ⟨rfl, h2, g20, g21, g22, g23, g24, g25, g26, g27, g28⟩
          go_wp2_with fail
          clear g20 g21 g22 g23 g24 g25 g26 g27 g28
          refine (A12.out _ h2).mono ?_
          rintro e w3_ ⟨rfl, h3, g30, g31, g32, g33, g34, g35, g36, g37, g38⟩
          go_wp2_with fail
          refine (A7.out _).mono ?_
          rintro e w8 ⟨rfl, rfl⟩
          go_wp2_with fail
          refine (A8.out _).mono ?_
          rintro e w8 ⟨rfl, rfl⟩
          go_wp2_with fail
          clear g30 g31 g32 g33 g34 g35 g36 g37 g38
          refine (A13y.out _ h3).mono ?_
          rintro e w4_ ⟨rfl, h4, g40, g41, g42, g43, g44, g45, g46, g47, g48⟩
          go_wp2_with fail
          clear g40 g41 g42 g43 g44 g45 g46 g47 g48
          refine (A13a.out _ h4).mono ?_
          rintro e w5_ ⟨rfl, h5, g50, g51, g52, g53, g54, g55, g56, g57, g58⟩
          go_wp2_with fail
          clear g50 g51 g52 g53 g54 g55 g56 g57 g58
          refine (A13b.out _ h5).mono ?_
          rintro e w6_ ⟨rfl, h6, g60, g61, g62, g63, g64, g65, g66, g67, g68⟩
          go_wp2
          go_ret
          exact ⟨rfl, HEND.out _ h6.out⟩
        · have q3 : (k == 3) = false := by simpa using k3
          have q7 : (k == 7) = false := by simpa using k7
          have hz := hzk2 (by omega)
          have hz1 : decide (0 < Z) = true := by simpa using hz
          have hz2 : decide (60 < Z) = false := by simpa using hZ60
          have hft := HFzT.out hz
          subst hft
          by_cases k6 : k = 6
          · subst k6
            clear hzk hzk2 hZ60 hz k3 k7
            go_enter Try.func5, Try.ntmps5
            go_wp2_with fail
            rw [← HBW.out.2, ← HBW.out.1]
            go_wp2_with fail
            clear c0 c1 c2 c3 c4 c5 c6 c7 c8
            refine (A6.out _ hHB1).mono ?_
            rintro e w1_ ⟨rfl, h1, g10, g11, g12, g13, g14, g15, g16, g17, g18⟩
            go_wp2_with fail
            clear g10 g11 g12 g13 g14 g15 g16 g17 g18
            refine (A9.out _ h1).mono ?_
            rintro e w2_ ⟨rfl, h2, g20, g21, g22, g23, g24, g25, g26, g27, g28⟩
            go_wp2_with fail
            clear g20 g21 g22 g23 g24 g25 g26 g27 g28
            refine (A12.out _ h2).mono ?_
            rintro e w3_ ⟨rfl, h3, g30, g31, g32, g33, g34, g35, g36, g37, g38⟩
            go_wp2_with fail
            clear g30 g31 g32 g33 g34 g35 g36 g37 g38
            refine (A13z.out _ h3).mono ?_
            rintro e w4_ ⟨rfl, h4, g40, g41, g42, g43, g44, g45, g46, g47, g48⟩
            go_wp2_with fail
            refine (A7.out _).mono ?_
            rintro e w8 ⟨rfl, rfl⟩
            go_wp2_with fail
            refine (A8.out _).mono ?_
            rintro e w8 ⟨rfl, rfl⟩
            go_wp2_with fail
            clear g40 g41 g42 g43 g44 g45 g46 g47 g48
            refine (A13y.out _ h4).mono ?_
            rintro e w5_ ⟨rfl, h5, g50, g51, g52, g53, g54, g55, g56, g57, g58⟩
            go_wp2_with fail
            clear g50 g51 g52 g53 g54 g55 g56 g57 g58
            refine (A13a.out _ h5).mono ?_
            rintro e w6_ ⟨rfl, h6, g60, g61, g62, g63, g64, g65, g66, g67, g68⟩
            go_wp2_with fail
            clear g60 g61 g62 g63 g64 g65 g66 g67 g68
            refine (A13b.out _ h6).mono ?_
            rintro e w7_ ⟨rfl, h7, g70, g71, g72, g73, g74, g75, g76, g77, g78⟩
            go_wp2
            go_ret
            exact ⟨rfl, HEND.out _ h7.out⟩
          · have q6 : (k == 6) = false := by simpa using k6
            have r3 : (k != 3) = true := by simpa using k3
            have r7 : (k != 7) = true := by simpa using k7
            have r6 : (k != 6) = true := by simpa using k6
            have hfz := HFyZ.out k3 k7 k6
            have hfz' : (1 + (y : Int) == Z) = false := hfz.symm
            clear hzk hzk2 hZ60 hz k3 k7 k6 hfz
            go_enter Try.func5, Try.ntmps5
            go_wp2_with fail
            rw [← HBW.out.2, ← HBW.out.1]
            go_wp2_with fail
            clear c0 c1 c2 c3 c4 c5 c6 c7 c8
            refine (A6.out _ hHB1).mono ?_
            rintro e w1_ ⟨rfl, h1, g10, g11, g12, g13, g14, g15, g16, g17, g18⟩
            go_wp2_with fail
            clear g10 g11 g12 g13 g14 g15 g16 g17 g18
            refine (A9.out _ h1).mono ?_
            rintro e w2_ ⟨rfl, h2, g20, g21, g22, g23, g24, g25, g26, g27, g28⟩
            go_wp2_with fail
            clear g20 g21 g22 g23 g24 g25 g26 g27 g28
            refine (A12.out _ h2).mono ?_
            rintro e w3_ ⟨rfl, h3, g30, g31, g32, g33, g34, g35, g36, g37, g38⟩
            go_wp2_with fail
            clear g30 g31 g32 g33 g34 g35 g36 g37 g38
            refine (A13z.out _ h3).mono ?_
            rintro e w4_ ⟨rfl, h4, g40, g41, g42, g43, g44, g45, g46, g47, g48⟩
            go_wp2_with fail
            clear g40 g41 g42 g43 g44 g45 g46 g47 g48
            refine (A13y.out _ h4).mono ?_
            rintro e w5_ ⟨rfl, h5, g50, g51, g52, g53, g54, g55, g56, g57, g58⟩
            go_wp2_with fail
            refine (A7.out _).mono ?_
            rintro e w8 ⟨rfl, rfl⟩
            go_wp2_with fail
            refine (A8.out _).mono ?_
            rintro e w8 ⟨rfl, rfl⟩
            go_wp2_with fail
            clear g50 g51 g52 g53 g54 g55 g56 g57 g58
            refine (A13y.out _ h5).mono ?_
            rintro e w6_ ⟨rfl, h6, g60, g61, g62, g63, g64, g65, g66, g67, g68⟩
            go_wp2_with fail
            clear g60 g61 g62 g63 g64 g65 g66 g67 g68
            refine (A13a.out _ h6).mono ?_
            rintro e w7_ ⟨rfl, h7, g70, g71, g72, g73, g74, g75, g76, g77, g78⟩
            go_wp2_with fail
            clear g70 g71 g72 g73 g74 g75 g76 g77 g78
            refine (A13b.out _ h7).mono ?_
            rintro e w8_ ⟨rfl, h8, g80, g81, g82, g83, g84, g85, g86, g87, g88⟩
            go_wp2
            go_ret
            exact ⟨rfl, HEND.out _ h8.out⟩
end tableSizes
end Go.Proofs.Ytdfbdjlcbjdabaa
