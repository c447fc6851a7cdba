/- The table's functions: what they answer. Conditions: small numbers. -/
import Derived.Test.YtjfpijoeddjgmaaAid
import Derived.BigQuiet
import Derived.Laws.BitsAllLaws
namespace Go.Proofs.Ytjfpijoeddjgmaa
open Go.RowKit Hm
set_option linter.unusedVariables false
/-- A sort: its kind, its pointers, its other words, and the rest. -/
structure Inf where
  kind : Int
  ptrs : Int
  nons : Int
  ar : Int
  tag : Int
  code : Int
  of : Int
  pick : Int
def Inf.val (i : Inf) : Value := .agg #[.int .i64 i.kind, .int .i64 i.ptrs, .int .i64 i.nons, .int .i64 i.ar, .int .i64 i.tag, .int .i64 i.code, .int .i64 i.of, .int .i64 i.pick, .string ⟨#[]⟩]
structure Inf.Ok (i : Inf) : Prop where
  p0 : 0 ≤ i.ptrs
  p1 : i.ptrs ≤ 60
  n0 : 0 ≤ i.nons
  n1 : i.nons ≤ 60
  sum : i.ptrs + i.nons ≤ 60
def Inf.size (i : Inf) : Int := if i.kind = 3 ∨ i.kind = 7 then 0 else max (i.ptrs + i.nons) 1
def Inf.fits (i : Inf) (n : Int) : Bool := if i.kind = 3 then decide (2 ≤ n ∧ n ≤ 60) else if i.kind = 7 ∨ i.kind = 6 then decide (1 ≤ n ∧ n ≤ 60) else decide (n = i.size)
def Inf.pointers (i : Inf) (n : Int) : Int := if i.kind = 3 then n else i.ptrs

theorem size_any (i : Inf) (h : i.Ok) (w : World) : Calls Try.prog 67 #[i.val] w fun e w' => e = .returned (.int .i64 i.size) ∧ Below w.heap.size w w' := by
  obtain ⟨k, p, n, a, t, c, o, pk⟩ := i
  obtain ⟨p0, p1, n0, n1, _⟩ := h
  simp only at p0 p1 n0 n1
  unfold Inf.val Inf.size
  simp only
  have HF := Lib.hid (Below.refl w.heap.size w)
  by_cases hk : k = 3
  · subst hk
    go_enter Try.func67, Try.ntmps67
    go_wp2
    go_ret
    exact ⟨rfl, HF.out.alloc (Nat.le_refl _) _⟩
  · by_cases hk7 : k = 7
    · subst hk7
      go_enter Try.func67, Try.ntmps67
      go_wp2
      go_ret
      exact ⟨rfl, HF.out.alloc (Nat.le_refl _) _⟩
    · have h3 : (k == 3) = false := by simpa using hk
      have h7 : (k == 7) = false := by simpa using hk7
      rw [if_neg (by omega)]
      obtain ⟨M, hM⟩ : ∃ M, M = max (p + n) 1 := ⟨_, rfl⟩
      rw [← hM]
      have HM := Lib.hid hM
      clear hM
      go_enter Try.func67, Try.ntmps67
      go_wp2
      all_goals
        go_ret
        have := HM.out
        refine ⟨?_, HF.out.alloc (Nat.le_refl _) _⟩
        show Ending.returned (.int .i64 _) = _
        congr 2
        omega

theorem pointers_any (i : Inf) (m : Int) (w : World) : Calls Try.prog 93 #[i.val, .int .i64 m] w fun e w' => e = .returned (.int .i64 (i.pointers m)) ∧ Below w.heap.size w w' := by
  obtain ⟨k, p, n, a, t, c, o, pk⟩ := i
  unfold Inf.val Inf.pointers
  simp only
  have HF := Lib.hid (Below.refl w.heap.size w)
  by_cases hk : k = 3
  · subst hk
    go_enter Try.func93, Try.ntmps93
    go_wp2
    go_ret
    exact ⟨rfl, HF.out.alloc (Nat.le_refl _) _⟩
  · have h3 : (k == 3) = false := by simpa using hk
    rw [if_neg hk]
    clear hk
    go_enter Try.func93, Try.ntmps93
    go_wp2
    go_ret
    exact ⟨rfl, HF.out.alloc (Nat.le_refl _) _⟩

theorem fits_any (i : Inf) (h : i.Ok) (m : Int) (w : World) : Calls Try.prog 68 #[i.val, .int .i64 m] w fun e w' => e = .returned (.bool (i.fits m)) ∧ Below w.heap.size w w' := by
  have HS : Hid (∀ W, Below w.heap.size w W → w.heap.size ≤ W.heap.size → Calls Try.prog 67 #[i.val] W fun e w' => e = .returned (.int .i64 i.size) ∧ Below w.heap.size w w') := by
    intro W hW hs
    refine (size_any i h W).mono ?_
    rintro e w' ⟨rfl, h2⟩
    exact ⟨rfl, hW.trans (h2.mono hs)⟩
  obtain ⟨Z, hZ⟩ : ∃ Z, Z = i.size := ⟨_, rfl⟩
  obtain ⟨F, hF⟩ : ∃ F, F = i.fits m := ⟨_, rfl⟩
  rw [← hZ] at HS
  rw [← hF]
  unfold Inf.fits at hF
  rw [← hZ] at hF
  obtain ⟨k, p, n, a, t, c, o, pk⟩ := i
  unfold Inf.val at HS ⊢
  simp only at hF HS ⊢
  clear hZ h
  have HB := Lib.hid (Below.refl w.heap.size w)
  by_cases hk : k = 3
  · subst hk
    rw [if_pos rfl] at hF
    have HF := Lib.hid hF
    clear hF
    go_enter Try.func68, Try.ntmps68
    go_wp2
    all_goals
      go_ret
      refine ⟨?_, HB.out.alloc (Nat.le_refl _) _⟩
      rw [HF.out]
      first | (simp; done) | (simp; omega)
  · have h3 : (k == 3) = false := by simpa using hk
    rw [if_neg hk] at hF
    by_cases hk7 : k = 7
    · subst hk7
      rw [if_pos (.inl rfl)] at hF
      have HF := Lib.hid hF
      clear hF
      go_enter Try.func68, Try.ntmps68
      go_wp2
      all_goals
        go_ret
        refine ⟨?_, HB.out.alloc (Nat.le_refl _) _⟩
        rw [HF.out]
        first | (simp; done) | (simp; omega)
    · have h7 : (k == 7) = false := by simpa using hk7
      by_cases hk6 : k = 6
      · subst hk6
        rw [if_pos (.inr rfl)] at hF
        have HF := Lib.hid hF
        clear hF
        go_enter Try.func68, Try.ntmps68
        go_wp2
        all_goals
          go_ret
          refine ⟨?_, HB.out.alloc (Nat.le_refl _) _⟩
          rw [HF.out]
          first | (simp; done) | (simp; omega)
      · have h6 : (k == 6) = false := by simpa using hk6
        rw [if_neg (by omega)] at hF
        have HF := Lib.hid hF
        clear hF
        go_enter Try.func68, Try.ntmps68
        go_wp2_with (first | (go_at_call 67; refine (HS.out _ (HB.out.alloc (Nat.le_refl _) _) (by simp)).mono ?_; rintro e w1 ⟨rfl, hb⟩))
        go_ret
        rw [HF.out]
        refine ⟨?_, by assumption⟩
        first | rfl | (simp; done) | (simp; omega)

theorem or_head (a b : Int) (ha : 0 ≤ a) (ha2 : a < 4294967296) (hb : 0 ≤ b) (hb2 : b < 4294967296) :
    Go.bits .or .u64 (a * 4294967296) b = a * 4294967296 + b := by
  rw [u64_or _ _ (by omega) (by omega) hb (by omega)]
  obtain ⟨m, rfl⟩ := Int.eq_ofNat_of_zero_le ha
  obtain ⟨n, rfl⟩ := Int.eq_ofNat_of_zero_le hb
  have e1 : ((m : Int) * 4294967296).toNat = 2 ^ 32 * m := by omega
  have e2 : ((n : Int)).toNat = n := by omega
  rw [e1, e2, ← Nat.two_pow_add_eq_or_of_lt (by omega)]
  omega
theorem and_low (a : Int) (ha : 0 ≤ a) (ha2 : a < 18446744073709551616) : Go.bits .and .u64 a 4294967295 = a % 4294967296 := by
  rw [u64_and _ _ ha ha2 (by omega) (by omega)]
  obtain ⟨m, rfl⟩ := Int.eq_ofNat_of_zero_le ha
  have e1 : ((4294967295 : Int)).toNat = 2 ^ 32 - 1 := by decide
  rw [e1, Int.toNat_natCast, Nat.and_two_pow_sub_one_eq_mod]
  omega

/-- A head: its sort and how many words are behind it. -/
def headOk (sort size : Int) : Prop := 0 ≤ sort ∧ sort < 2147483648 ∧ 1 ≤ size ∧ size ≤ 60
instance (a b : Int) : Decidable (headOk a b) := by unfold headOk; exact inferInstance
def headOf (sort size : Int) : Int := size * 4294967296 + sort

theorem head_ok (sort size : Int) (h : headOk sort size) (w : World) : Calls Try.prog 69 #[.int .i64 sort, .int .i64 size] w fun e w' => e = .returned (.tuple #[.int .u64 (headOf sort size), .int .i64 0]) ∧ w = w' := by
  obtain ⟨h0, h1, h2, h3⟩ := h
  have e1 := uwrap_fit (x := sort) (by omega)
  have e2 := uwrap_fit (x := size) (by omega)
  have e3 := or_head size sort (by omega) (by omega) (by omega) (by omega)
  unfold headOf
  go_enter Try.func69, Try.ntmps69
  go_wp2
  go_ret2
  exact ⟨rfl, rfl⟩
theorem head_bad (sort size : Int) (h : ¬ headOk sort size) (w : World) : Calls Try.prog 69 #[.int .i64 sort, .int .i64 size] w fun e w' => e = .returned (.tuple #[.int .u64 0, .int .i64 1]) ∧ w = w' := by
  unfold headOk at h
  by_cases c0 : sort < 0
  · clear h
    go_enter Try.func69, Try.ntmps69
    go_wp2
    go_ret2
    exact ⟨rfl, rfl⟩
  · by_cases c1 : 2147483648 ≤ sort
    · clear h
      go_enter Try.func69, Try.ntmps69
      go_wp2
      go_ret2
      exact ⟨rfl, rfl⟩
    · by_cases c2 : size < 1
      · clear h
        go_enter Try.func69, Try.ntmps69
        go_wp2
        go_ret2
        exact ⟨rfl, rfl⟩
      · have c3 : 60 < size := by omega
        clear h
        go_enter Try.func69, Try.ntmps69
        go_wp2
        go_ret2
        exact ⟨rfl, rfl⟩
/-- What a word tells, if it is a head. -/
def wordSort (x : Int) : Int := x % 4294967296
def wordSize (x : Int) : Int := x / 4294967296
theorem split_any (x : Int) (h : 0 ≤ x ∧ x < 18446744073709551616) (w : World) : Calls Try.prog 73 #[.int .u64 x] w fun e w' =>
    e = .returned (if headOk (wordSort x) (wordSize x) then .tuple #[.int .i64 (wordSort x), .int .i64 (wordSize x), .int .i64 0] else .tuple #[.int .i64 0, .int .i64 0, .int .i64 12]) ∧ w = w' := by
  have e1 := and_low x h.1 h.2
  obtain ⟨S, hS⟩ : ∃ S, S = wordSort x := ⟨_, rfl⟩
  obtain ⟨Z, hZ⟩ : ∃ Z, Z = wordSize x := ⟨_, rfl⟩
  have hb : 0 ≤ S ∧ S < 4294967296 ∧ 0 ≤ Z ∧ Z < 4294967296 := by rw [hS, hZ]; unfold wordSort wordSize; omega
  unfold wordSort at hS
  unfold wordSize at hZ
  rw [← hS] at e1
  have hS' := hS.symm
  have hZ' := hZ.symm
  unfold wordSort wordSize
  rw [hS', hZ']
  clear hS hZ
  by_cases hh : headOk S Z
  · rw [if_pos hh]
    have HC := Lib.hid (head_ok S Z hh)
    clear hh
    go_enter Try.func73, Try.ntmps73
    go_wp2_with (first | (go_at_call 69; refine (HC.out _).mono ?_; rintro e w1 ⟨rfl, rfl⟩))
    go_ret3
    exact ⟨rfl, rfl⟩
  · rw [if_neg hh]
    have HC := Lib.hid (head_bad S Z hh)
    clear hh
    go_enter Try.func73, Try.ntmps73
    go_wp2_with (first | (go_at_call 69; refine (HC.out _).mono ?_; rintro e w1 ⟨rfl, rfl⟩))
    go_ret3
    exact ⟨rfl, rfl⟩
end Go.Proofs.Ytjfpijoeddjgmaa
