/- The plain heap: cells of one size, given back in any order. No condition. -/
import Derived.Test.YtjfpijoeddjgmaaLay
namespace Go.Proofs.Ytjfpijoeddjgmaa.Hm
open Go.RowKit
set_option linter.unusedVariables false
namespace HS
/-- Of J cells of e words, from the address 1 on, those are left that are not gone. -/
structure Left (n e J : Nat) (s : HS) (gone : Nat → Prop) : Prop where
  wf : s.WF
  cnt : s.n = n
  used : ∀ x, s.used x = true ↔ ∃ i, i < J ∧ x = 1 + e * i ∧ ¬ gone i
theorem WF.zero_no {s : HS} (h : s.WF) : s.used 0 = false := by
  cases hu : s.used 0 with
  | false => rfl
  | true => have := (h.in_ hu).1; omega
theorem at_inj {e i j : Nat} (he : 1 ≤ e) (h : 1 + e * i = 1 + e * j) : i = j := Nat.eq_of_mul_eq_mul_left (show 0 < e by omega) (by omega)
theorem Left.free {n e J : Nat} {s : HS} {gone : Nat → Prop} (h : Left n e J s gone) (he : 1 ≤ e) {i : Nat} (hi : i < J) (hg : ¬ gone i) :
    (s.free (1 + e * i)).1 = 0 ∧ Left n e J (s.free (1 + e * i)).2 (fun k => gone k ∨ k = i) := by
  have hu : s.used (1 + e * i) = true := (h.used _).2 ⟨i, hi, rfl, hg⟩
  obtain ⟨h1, h2⟩ := free_yes h.wf hu
  refine ⟨h1, h.wf.free _, h2.n.trans h.cnt, fun x => ?_⟩
  rw [h2.used]
  unfold upd
  by_cases hx : x = 1 + e * i
  · rw [if_pos hx]
    refine ⟨fun h => (by cases h), fun ⟨k, hk, h3, h4⟩ => ?_⟩
    have := at_inj he (hx.symm.trans h3)
    exact absurd (.inr this.symm) h4
  · rw [if_neg hx, h.used]
    refine ⟨fun ⟨k, hk, h3, h4⟩ => ⟨k, hk, h3, fun h5 => ?_⟩, fun ⟨k, hk, h3, h4⟩ => ⟨k, hk, h3, fun h5 => h4 (.inl h5)⟩⟩
    rcases h5 with h5 | rfl
    · exact h4 h5
    · exact hx h3
theorem Left.free_gone {n e J : Nat} {s : HS} {gone : Nat → Prop} (h : Left n e J s gone) (he : 1 ≤ e) {i : Nat} (hg : gone i) : s.free (1 + e * i) = (1, s) := by
  refine free_no ?_
  cases hu : s.used (1 + e * i) with
  | false => rfl
  | true =>
    obtain ⟨k, hk, h3, h4⟩ := (h.used _).1 hu
    have := at_inj he h3
    subst this
    exact absurd hg h4
theorem Left.congr {n e J : Nat} {s : HS} {g g' : Nat → Prop} (h : Left n e J s g) (hg : ∀ i, i < J → (g i ↔ g' i)) : Left n e J s g' :=
  ⟨h.wf, h.cnt, fun x => (h.used x).trans ⟨fun ⟨i, h1, h2, h3⟩ => ⟨i, h1, h2, fun h4 => h3 ((hg i h1).2 h4)⟩, fun ⟨i, h1, h2, h3⟩ => ⟨i, h1, h2, fun h4 => h3 ((hg i h1).1 h4)⟩⟩⟩
theorem Left.all {n e J : Nat} {s : HS} {gone : Nat → Prop} (h : Left n e J s gone) (ha : ∀ i, i < J → gone i) : s = empty n := by
  have := h.wf.eq_empty fun a => by
    cases hu : s.used a with
    | false => rfl
    | true => obtain ⟨i, h1, _, h3⟩ := (h.used a).1 hu; exact absurd (ha i h1) h3
  rw [this, h.cnt]
theorem lay_left {n c j : Nat} (hc : isCls c) (hj : j ≤ n * (32 / c)) : Left n c j (lay n 0 c j) (fun _ => False) := by
  refine ⟨lay_wf hc rfl (Nat.zero_le _) j (by simpa using hj), rfl, fun x => ?_⟩
  show decide _ = true ↔ _
  rw [decide_eq_true_iff]
  have hp := hc.pos
  constructor
  · rintro (⟨h1, h2⟩ | ⟨h1, h2, h3⟩)
    · omega
    · refine ⟨(x - (1 + 32 * 0)) / c, h3, ?_, id⟩
      have := Nat.div_add_mod (x - (1 + 32 * 0)) c
      rw [h2] at this
      omega
  · rintro ⟨i, hi, rfl, _⟩
    refine .inr ⟨by omega, ?_, ?_⟩
    · rw [show 1 + c * i - (1 + 32 * 0) = c * i by omega]; exact Nat.mul_mod_right c i
    · rw [show 1 + c * i - (1 + 32 * 0) = c * i by omega, Nat.mul_div_cancel_left _ (by omega)]; exact hi
theorem lay_left_large {n c i : Nat} (hc : isCls c) (hi : 2 * i ≤ n) : Left n 64 i (lay n (2 * i) c 0) (fun _ => False) := by
  refine ⟨lay_wf_large hc i hi, rfl, fun x => ?_⟩
  show decide _ = true ↔ _
  rw [decide_eq_true_iff]
  constructor
  · rintro (⟨h1, h2⟩ | ⟨h1, h2, h3⟩)
    · exact ⟨x / 64, by omega, by omega, id⟩
    · exact absurd h3 (Nat.not_lt_zero _)
  · rintro ⟨k, hk, rfl, _⟩
    exact .inl ⟨by omega, by omega⟩
theorem lay_cap {n c j size m0 : Nat} (hc : cls size = c) (h1 : 1 ≤ size) (h2 : size ≤ 32) (hm2 : m0 % 2 = 0) (hm : m0 ≤ n) (hj : j < (n - m0) * (32 / c)) : (lay n m0 c (j + 1)).cap (1 + 32 * m0 + c * j) = c := by
  have hcls : isCls c := hc ▸ cls_is size
  have h := alloc_cases (lay_wf hcls hm2 hm j (by omega)) (size : Int)
  rw [lay_small hc h1 h2 hm (by omega), if_pos hj] at h
  rcases h with ⟨h, _⟩ | ⟨_, _, _, _, h⟩
  · exact absurd rfl h
  · rw [if_neg (by omega), Int.toNat_natCast, hc] at h; exact h
theorem lay_cap_large {n c m0 : Nat} (hc : isCls c) (hm2 : m0 % 2 = 0) (hm : m0 + 2 ≤ n) : (lay n (m0 + 2) c 0).cap (1 + 32 * m0) = 64 := by
  have hwf := lay_wf_large (n := n) hc (m0 / 2) (by omega)
  rw [show 2 * (m0 / 2) = m0 by omega] at hwf
  have h := alloc_cases hwf 40
  rw [lay_large hm2 (by omega) (by omega) (by omega), if_pos hm] at h
  rcases h with ⟨h, _⟩ | ⟨_, _, _, _, h⟩
  · exact absurd rfl h
  · rw [if_pos (by omega)] at h; exact h
end HS
/-- Addresses one behind the other. -/
def row (e j : Nat) : List Int := (List.range j).map fun i => ((1 + e * i : Nat) : Int)
theorem row_len (e j : Nat) : (row e j).length = j := by simp [row]
theorem row_get (e : Nat) {j i : Nat} (h : i < j) : (row e j).getD i 0 = ((1 + e * i : Nat) : Int) := by simp [row, List.getD_eq_getElem?_getD, h]
theorem row_succ (e j : Nat) : row e (j + 1) = row e j ++ [((1 + e * j : Nat) : Int)] := by simp [row, List.range_succ]
end Go.Proofs.Ytjfpijoeddjgmaa.Hm
