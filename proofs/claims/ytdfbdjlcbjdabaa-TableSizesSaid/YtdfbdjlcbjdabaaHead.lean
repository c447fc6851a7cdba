/- Head, Split, the law's example, the reference's Fits: what they answer. Conditions: small numbers, where it says so. -/
import Derived.Test.YtdfbdjlcbjdabaaTab
import Derived.Test.YtdfbdjlcbjdabaaRef
namespace Go.Proofs.Ytdfbdjlcbjdabaa
open Go.RowKit
set_option linter.unusedVariables false
set_option linter.unusedSimpArgs false
theorem uwrap_fit {x : Int} (h : 0 ≤ x ∧ x < 18446744073709551616) : IntKind.u64.wrap x = x := by
  simp only [IntKind.wrap, IntKind.bits, IntKind.signed]
  simp
  omega
theorem or_head (a b : Int) (ha : 0 ≤ a) (ha2 : a < 4294967296) (hb : 0 ≤ b) (hb2 : b < 4294967296) :
    Go.bits .or .u64 (a * 4294967296) b = a * 4294967296 + b := by
  rw [u64_or _ _ (by omega) (by omega) hb (by omega)]
  obtain ⟨m, rfl⟩ := Int.eq_ofNat_of_zero_le ha
  obtain ⟨n, rfl⟩ := Int.eq_ofNat_of_zero_le hb
  have e1 : ((m : Int) * 4294967296).toNat = 2 ^ 32 * m := by omega
  have e2 : ((n : Int)).toNat = n := by omega
  rw [e1, e2, ← Nat.two_pow_add_eq_or_of_lt (by omega)]
  omega
theorem and_low (a : Int) (ha : 0 ≤ a) (ha2 : a < 18446744073709551616) : Go.bits .and .u64 a 4294967295 = a % 4294967296 := by
  rw [u64_and _ _ ha ha2 (by omega) (by omega)]
  obtain ⟨m, rfl⟩ := Int.eq_ofNat_of_zero_le ha
  have e1 : ((4294967295 : Int)).toNat = 2 ^ 32 - 1 := by decide
  rw [e1, Int.toNat_natCast, Nat.and_two_pow_sub_one_eq_mod]
  omega
def headOf (sort size : Int) : Int := size * 4294967296 + sort
theorem head_ok (sort size : Int) (h : 0 ≤ sort ∧ sort < 2147483648 ∧ 1 ≤ size ∧ size ≤ 60) (w : World) : Calls Try.prog 7 #[.int .i64 sort, .int .i64 size] w fun e w' => e = .returned (.tuple #[.int .u64 (headOf sort size), .int .i64 0]) ∧ w = w' := by
  obtain ⟨h0, h1, h2, h3⟩ := h
  have e1 := uwrap_fit (x := sort) (by omega)
  have e2 := uwrap_fit (x := size) (by omega)
  have e3 := or_head size sort (by omega) (by omega) (by omega) (by omega)
  unfold headOf
  go_enter Try.func7, Try.ntmps7
  go_wp2
  go_ret2
  exact ⟨rfl, rfl⟩
theorem split_ok (S Z : Int) (h : 0 ≤ S ∧ S < 2147483648 ∧ 1 ≤ Z ∧ Z ≤ 60) (w : World) : Calls Try.prog 8 #[.int .u64 (headOf S Z)] w fun e w' => e = .returned (.tuple #[.int .i64 S, .int .i64 Z, .int .i64 0]) ∧ w = w' := by
  obtain ⟨x, hx⟩ : ∃ x, x = headOf S Z := ⟨_, rfl⟩
  rw [← hx]
  have hxx : x = Z * 4294967296 + S := hx
  have e1 := and_low x (by omega) (by omega)
  have hS : x % 4294967296 = S := by omega
  have hZ : x / 4294967296 = Z := by omega
  rw [hS] at e1
  have hb : 0 ≤ S ∧ S < 4294967296 ∧ 0 ≤ Z ∧ Z < 4294967296 := by omega
  have HC := Lib.hid (head_ok S Z h)
  clear hx hxx h
  go_enter Try.func8, Try.ntmps8
  go_wp2_with (first | (go_at_call 7; refine (HC.out _).mono ?_; rintro e w1 ⟨rfl, rfl⟩))
  go_ret3
  exact ⟨rfl, rfl⟩
theorem lives14 (w : World) : Calls Try.prog 6 #[] w fun e w' => e = .returned (.bool true) ∧ w = w' := by
  have HC := Lib.hid (head_ok 3 2 (by decide))
  have hv : headOf 3 2 = 8589934595 := rfl
  rw [hv] at HC
  go_enter Try.func6, Try.ntmps6
  go_wp2_with (first | (go_at_call 7; refine (HC.out _).mono ?_; rintro e w1 ⟨rfl, rfl⟩))
  go_ret
  exact ⟨rfl, rfl⟩
set_option maxHeartbeats 1000000 in
theorem ref_fits (k p n a t c o pk : Int) (nm : ByteArray) (m : Int) (hp : 0 ≤ p ∧ p ≤ 60) (hn : 0 ≤ n ∧ n ≤ 60) (R : Bool) (hR : R = true ↔ 1 ≤ m ∧ m ≤ 60 ∧ (k = 3 → 2 ≤ m) ∧ (k ≠ 3 ∧ k ≠ 6 ∧ k ≠ 7 → m = p + n ∨ (m = 1 ∧ p + n < 1))) (w : World) :
    Calls Try.prog 14 #[Inf.arr ⟨k, p, n, a, t, c, o, pk, nm⟩, .int .i64 m] w fun e w' => e = .returned (.bool R) ∧ Below w.heap.size w w' := by
  have HBW : Hid (Below w.heap.size w (w.alloc (Inf.obj ⟨k, p, n, a, t, c, o, pk, nm⟩))) := (Below.refl _ w).alloc (Nat.le_refl _) _
  have HR := Lib.hid hR
  have hs : wrap64 (p + n) = p + n := by unfold wrap64; omega
  have HPN := Lib.hid (And.intro hp hn)
  unfold Inf.obj at HBW
  unfold Inf.arr
  clear hR hp hn
  by_cases m1 : m < 1
  · go_enter Try.func14, Try.ntmps14
    go_wp2
    go_ret
    refine ⟨?_, HBW.out⟩
    cases R with
    | false => rfl
    | true => have := HR.out.1 rfl; omega
  · by_cases m2 : 60 < m
    · go_enter Try.func14, Try.ntmps14
      go_wp2
      go_ret
      refine ⟨?_, HBW.out⟩
      cases R with
      | false => rfl
      | true => have := HR.out.1 rfl; omega
    · by_cases k3 : k = 3
      · subst k3
        go_enter Try.func14, Try.ntmps14
        go_wp2
        go_ret
        refine ⟨congrArg (fun b => Ending.returned (Value.bool b)) (Bool.eq_iff_iff.2 ?_), HBW.out⟩
        rw [show (R = true ↔ _) from HR.out]
        simp; omega
      · by_cases k67 : k = 6
        · subst k67
          go_enter Try.func14, Try.ntmps14
          go_wp2
          go_ret
          refine ⟨congrArg (fun b => Ending.returned (Value.bool b)) (Bool.eq_iff_iff.2 ?_), HBW.out⟩
          rw [show (R = true ↔ _) from HR.out]
          simp; omega
        · by_cases k7 : k = 7
          · subst k7
            go_enter Try.func14, Try.ntmps14
            go_wp2
            go_ret
            refine ⟨congrArg (fun b => Ending.returned (Value.bool b)) (Bool.eq_iff_iff.2 ?_), HBW.out⟩
            rw [show (R = true ↔ _) from HR.out]
            simp; omega
          · have q3 : (k == 3) = false := by simpa using k3
            have q6 : (k == 6) = false := by simpa using k67
            have q7 : (k == 7) = false := by simpa using k7
            have HK := Lib.hid (And.intro k3 (And.intro k67 k7))
            clear k3 k67 k7
            go_enter Try.func14, Try.ntmps14
            go_wp2
            all_goals
              go_ret
              refine ⟨congrArg (fun b => Ending.returned (Value.bool b)) (Bool.eq_iff_iff.2 ?_), HBW.out⟩
              rw [show (R = true ↔ _) from HR.out]
              have := HK.out
              have := HPN.out
              clear hs
              first | (simp only [beq_iff_eq, decide_eq_true_eq, Bool.false_eq_true, false_iff, true_iff]; omega) | (simp; omega)
end Go.Proofs.Ytdfbdjlcbjdabaa
