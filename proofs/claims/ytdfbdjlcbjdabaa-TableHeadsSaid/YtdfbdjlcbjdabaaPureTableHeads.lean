/- For every two ints and every word: Head gives the word size*2^32 + info just where info and size are in range, and Split takes apart just such words. No condition. -/
import Derived.Test.YtdfbdjlcbjdabaaPTableHeadsx1
import Derived.Laws.BitsAllLaws
namespace Go.Proofs.Ytdfbdjlcbjdabaa.Pure
open Go.RowKit Go.Proofs.Ytdfbdjlcbjdabaa.PTableHeads Go.Proofs.YtdfbdjlcbjdabaaW.PrintWords Go.Proofs.YtdfbdjlcbjdabaaW.PrintLast

theorem or_head (a b : Int) (ha : 0 ≤ a) (ha2 : a < 4294967296) (hb : 0 ≤ b) (hb2 : b < 4294967296) :
    Go.bits .or .u64 (a * 4294967296) b = a * 4294967296 + b := by
  rw [u64_or _ _ (by omega) (by omega) hb (by omega)]
  obtain ⟨m, rfl⟩ := Int.eq_ofNat_of_zero_le ha
  obtain ⟨n, rfl⟩ := Int.eq_ofNat_of_zero_le hb
  have e1 : ((m : Int) * 4294967296).toNat = 2 ^ 32 * m := by omega
  have e2 : ((n : Int)).toNat = n := by omega
  rw [e1, e2, ← Nat.two_pow_add_eq_or_of_lt (by omega)]
  omega

theorem and_low (a : Int) (ha : 0 ≤ a) (ha2 : a < 18446744073709551616) : Go.bits .and .u64 a 4294967295 = a % 4294967296 := by
  rw [u64_and _ _ ha ha2 (by omega) (by omega)]
  obtain ⟨m, rfl⟩ := Int.eq_ofNat_of_zero_le ha
  have e1 : ((4294967295 : Int)).toNat = 2 ^ 32 - 1 := by decide
  rw [e1, Int.toNat_natCast, Nat.and_two_pow_sub_one_eq_mod]
  omega

theorem wrapu {x : Int} (h0 : 0 ≤ x) (h1 : x < 18446744073709551616) : IntKind.u64.wrap x = x := by
  simp only [IntKind.wrap, IntKind.bits, IntKind.signed]
  simp
  omega

theorem wrap64_id {x : Int} (h0 : 0 ≤ x) (h1 : x < 9223372036854775808) : wrap64 x = x := by unfold wrap64; omega

theorem head_ok (a b : Int) (h1 : 0 ≤ a) (h2 : a < 2147483648) (h3 : 1 ≤ b) (h4 : b ≤ 60) : table_Head.f a b = some (b * 4294967296 + a, 0) := by
  unfold table_Head.f
  rw [if_neg (by omega), if_neg (by omega), if_neg (by omega), if_neg (by omega), wrapu (x := b) (by omega) (by omega), wrapu (x := a) (by omega) (by omega), wrapu (by omega) (by omega), or_head b a (by omega) (by omega) (by omega) (by omega)]

theorem head_no (a b : Int) (h : ¬ (0 ≤ a ∧ a < 2147483648 ∧ 1 ≤ b ∧ b ≤ 60)) : table_Head.f a b = some (0, 1) := by
  unfold table_Head.f
  by_cases h1 : a < 0
  · rw [if_pos h1]
  rw [if_neg h1]
  by_cases h2 : a ≥ 2147483648
  · rw [if_pos h2]
  rw [if_neg h2]
  by_cases h3 : b < 1
  · rw [if_pos h3]
  rw [if_neg h3]
  by_cases h4 : b > 60
  · rw [if_pos h4]
  exact absurd ⟨by omega, by omega, by omega, by omega⟩ h

theorem split_ok (w : Int) (h0 : 0 ≤ w) (h : w < 18446744073709551616) (h1 : w % 4294967296 < 2147483648) (h2 : 1 ≤ w / 4294967296) (h3 : w / 4294967296 ≤ 60) : table_Split.f w = some (w % 4294967296, w / 4294967296, 0) := by
  unfold table_Split.f
  rw [and_low w h0 h, wrap64_id (by omega) (by omega), wrap64_id (by omega) (by omega), head_ok _ _ (by omega) h1 h2 h3]
  rfl

theorem split_no (w : Int) (h0 : 0 ≤ w) (h : w < 18446744073709551616) (hn : ¬ (w % 4294967296 < 2147483648 ∧ 1 ≤ w / 4294967296 ∧ w / 4294967296 ≤ 60)) : table_Split.f w = some (0, 0, 12) := by
  unfold table_Split.f
  rw [and_low w h0 h, wrap64_id (by omega) (by omega), wrap64_id (by omega) (by omega), head_no _ _ (by omega)]
  rfl

theorem lives_true : reverielaw14_lives.f = some true := by
  unfold reverielaw14_lives.f
  rw [head_ok 3 2 (by omega) (by omega) (by omega) (by omega)]
  rfl

theorem last (w : Int) (h0 : 0 ≤ w) (h : w < 18446744073709551616) :
    ((table_Split.f w).bind fun bt111 => (if (Int.tmod w 4294967296) < 2147483648 then (if (IntKind.u64.wrap (Int.tdiv w 4294967296)) ≥ 1 then (if (IntKind.u64.wrap (Int.tdiv w 4294967296)) ≤ 60 then (if bt111.2.2 = 0 then (if (IntKind.u64.wrap (bt111.1)) = (Int.tmod w 4294967296) then (some ((IntKind.u64.wrap (bt111.2.1)) == (IntKind.u64.wrap (Int.tdiv w 4294967296)))) else (some false)) else (some false)) else (if bt111.2.2 = 12 then (if bt111.1 = 0 then (some (bt111.2.1 == 0)) else (some false)) else (some false))) else (if bt111.2.2 = 12 then (if bt111.1 = 0 then (some (bt111.2.1 == 0)) else (some false)) else (some false))) else (if bt111.2.2 = 12 then (if bt111.1 = 0 then (some (bt111.2.1 == 0)) else (some false)) else (some false)))) = some true := by
  have e1 : Int.tmod w 4294967296 = w % 4294967296 := Int.tmod_eq_emod_of_nonneg h0
  have e2 : Int.tdiv w 4294967296 = w / 4294967296 := Int.tdiv_eq_ediv_of_nonneg h0
  rw [e1, e2, wrapu (x := w / 4294967296) (by omega) (by omega)]
  by_cases hc : w % 4294967296 < 2147483648 ∧ 1 ≤ w / 4294967296 ∧ w / 4294967296 ≤ 60
  · obtain ⟨c1, c2, c3⟩ := hc
    rw [split_ok w h0 h c1 c2 c3]
    simp only [Option.bind_some]
    rw [if_pos c1, if_pos c2, if_pos c3, if_pos trivial, wrapu (x := w % 4294967296) (by omega) (by omega), if_pos rfl, wrapu (x := w / 4294967296) (by omega) (by omega)]
    simp
  · rw [split_no w h0 h hc]
    simp only [Option.bind_some]
    by_cases c1 : w % 4294967296 < 2147483648
    · rw [if_pos c1]
      by_cases c2 : w / 4294967296 ≥ 1
      · rw [if_pos c2]
        by_cases c3 : w / 4294967296 ≤ 60
        · exact absurd ⟨c1, c2, c3⟩ hc
        · rw [if_neg c3]; rfl
      · rw [if_neg c2]; rfl
    · rw [if_neg c1]; rfl

theorem j1_ok (k : Nat) (w : Int) (h0 : 0 ≤ w) (h : w < 18446744073709551616) : reverielaw14_TableHeads.j1 (k + 1) w false = some true := by
  simp only [reverielaw14_TableHeads.j1]
  exact last w h0 h
theorem j2_ok (k : Nat) (w : Int) (h0 : 0 ≤ w) (h : w < 18446744073709551616) : reverielaw14_TableHeads.j2 (k + 1) w false = some true := by
  simp only [reverielaw14_TableHeads.j2]
  exact last w h0 h

theorem j0_no (k : Nat) (a b w : Int) (h0 : 0 ≤ w) (h : w < 18446744073709551616) : reverielaw14_TableHeads.j0 (k + 2) a b w 0 1 false = some true := by
  simp only [reverielaw14_TableHeads.j0]
  exact j2_ok k w h0 h

theorem TableHeads : reverielaw14_TableHeads.Pure := by
  intro a b w ha hb hw
  have hw0 : 0 ≤ w ∧ w < 18446744073709551616 := by
    simp [Lit.wf, IntKind.min, IntKind.max, IntKind.bits, IntKind.signed] at hw
    omega
  refine ⟨2, ?_⟩
  unfold reverielaw14_TableHeads.f
  rw [lives_true]
  simp only [Option.bind_some, if_true]
  by_cases hc : 0 ≤ a ∧ a < 2147483648 ∧ 1 ≤ b ∧ b ≤ 60
  · obtain ⟨c1, c2, c3, c4⟩ := hc
    rw [head_ok a b c1 c2 c3 c4]
    simp only [Option.bind_some]
    rw [if_pos c1, if_pos c2, if_pos c3, decide_eq_true c4]
    simp only [reverielaw14_TableHeads.j0, if_true]
    have e1 : (b * 4294967296 + a) % 4294967296 = a := by omega
    have e2 : (b * 4294967296 + a) / 4294967296 = b := by omega
    rw [split_ok (b * 4294967296 + a) (by omega) (by omega) (by omega) (by omega) (by omega), e1, e2]
    simp only [Option.bind_some, if_true]
    rw [wrapu (x := b) (by omega) (by omega), wrapu (x := a) (by omega) (by omega), wrapu (x := b * 4294967296) (by omega) (by omega), wrapu (by omega) (by omega)]
    rw [show ((b * 4294967296 + a) != (b * 4294967296 + a)) = false by simp]
    exact j1_ok 0 w hw0.1 hw0.2
  · rw [head_no a b hc]
    simp only [Option.bind_some]
    by_cases c1 : a ≥ 0
    · rw [if_pos c1]
      by_cases c2 : a < 2147483648
      · rw [if_pos c2]
        by_cases c3 : b ≥ 1
        · rw [if_pos c3, decide_eq_false (by omega)]
          exact j0_no 0 a b w hw0.1 hw0.2
        · rw [if_neg c3]; exact j0_no 0 a b w hw0.1 hw0.2
      · rw [if_neg c2]; exact j0_no 0 a b w hw0.1 hw0.2
    · rw [if_neg c1]; exact j0_no 0 a b w hw0.1 hw0.2

end Go.Proofs.Ytdfbdjlcbjdabaa.Pure
