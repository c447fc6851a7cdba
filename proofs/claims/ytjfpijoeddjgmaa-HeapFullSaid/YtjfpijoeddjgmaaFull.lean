/- Law 16, HeapFull, its plain part: a heap filled with cells of one size. No condition. -/
import Derived.Test.YtjfpijoeddjgmaaLeft
namespace Go.Proofs.Ytjfpijoeddjgmaa.Hm
open Go.RowKit
set_option linter.unusedVariables false
def each (size : Nat) : Nat := if size ≤ 32 then cls size else 64
theorem each_in (size : Nat) (h1 : 1 ≤ size) (h2 : size ≤ 64) : 2 ≤ each size ∧ each size ≤ 64 ∧ size ≤ each size := by
  unfold each
  split
  · have := (cls_is size).pos; have := (cls_is size).le; have := cls_ge size (by omega); omega
  · omega
def most (n size : Nat) : Nat := n * 32 / each size
theorem most_small {n size : Nat} (h : size ≤ 32) : most n size = n * (32 / cls size) := by
  unfold most each
  rw [if_pos h]
  have := cls_is size
  unfold isCls at this
  rcases this with e | e | e | e | e <;> rw [e] <;> omega
theorem most_large {n size : Nat} (h : ¬ size ≤ 32) : most n size = n / 2 := by
  unfold most each; rw [if_neg h]; omega
theorem most_fits {n size : Nat} : each size * most n size ≤ 32 * n := by
  unfold most
  have := Nat.mul_div_le (n * 32) (each size)
  omega
theorem most_le {n size : Nat} (h1 : 1 ≤ size) (h2 : size ≤ 64) : most n size ≤ 16 * n := by
  have h := (each_in size h1 h2).1
  have := @most_fits n size
  have h3 := Nat.mul_le_mul_right (most n size) h
  omega
theorem each_of {E size : Nat} (hE : E = 2 ∨ E = 4 ∨ E = 8 ∨ E = 16 ∨ E = 32 ∨ E = 64) (h1 : E = 2 ∨ E < 2 * size) (h2 : size ≤ E) (h0 : 1 ≤ size) : each size = E := by
  unfold each cls
  (repeat' split) <;> omega
namespace HS
def ful (n size j : Nat) : HS := if size ≤ 32 then lay n 0 (cls size) j else lay n (2 * j) 2 0
theorem ful_zero (n size : Nat) : ful n size 0 = empty n := by
  unfold ful; split
  · exact lay_empty n _
  · exact lay_empty n 2
theorem ful_alloc {n size j : Nat} (h1 : 1 ≤ size) (h2 : size ≤ 64) (hj : j ≤ most n size) :
    (ful n size j).alloc (size : Int) = if j < most n size then (1 + each size * j, 0, ful n size (j + 1)) else (0, 9, ful n size j) := by
  by_cases h : size ≤ 32
  · rw [most_small h] at hj ⊢
    unfold ful each
    rw [if_pos h, if_pos h, if_pos h]
    have := lay_small (n := n) (m0 := 0) (c := cls size) (j := j) (size := size) rfl h1 h (Nat.zero_le _) (by simpa using hj)
    simpa using this
  · rw [most_large h] at hj ⊢
    unfold ful each
    rw [if_neg h, if_neg h, if_neg h]
    have := lay_large (n := n) (m0 := 2 * j) (c := 2) (size := (size : Int)) (by omega) (by omega) (by omega) (by omega)
    rw [this]
    by_cases hl : j < n / 2
    · rw [if_pos hl, if_pos (by omega)]
      rw [show 1 + 32 * (2 * j) = 1 + 64 * j by omega, show 2 * j + 2 = 2 * (j + 1) by omega]
    · rw [if_neg hl, if_neg (by omega)]
theorem ful_cap {n size j : Nat} (h1 : 1 ≤ size) (h2 : size ≤ 64) (hj : j < most n size) : (ful n size (j + 1)).cap (1 + each size * j) = each size := by
  by_cases h : size ≤ 32
  · rw [most_small h] at hj
    unfold ful each
    rw [if_pos h, if_pos h]
    have := lay_cap (n := n) (m0 := 0) (c := cls size) (j := j) (size := size) rfl h1 h rfl (Nat.zero_le _) (by simpa using hj)
    simpa using this
  · rw [most_large h] at hj
    unfold ful each
    rw [if_neg h, if_neg h]
    have := lay_cap_large (n := n) (c := 2) (m0 := 2 * j) (.inl rfl) (by omega) (by omega)
    rw [show 1 + 32 * (2 * j) = 1 + 64 * j by omega, show 2 * j + 2 = 2 * (j + 1) by omega] at this
    exact this
theorem ful_left {n size j : Nat} (hj : j ≤ most n size) : Left n (each size) j (ful n size j) (fun _ => False) := by
  by_cases h : size ≤ 32
  · rw [most_small h] at hj
    unfold ful each
    rw [if_pos h, if_pos h]
    exact lay_left (cls_is size) hj
  · rw [most_large h] at hj
    unfold ful each
    rw [if_neg h, if_neg h]
    exact lay_left_large (.inl rfl) (by omega)

/-- Whatever Free answers: that cell is used no more, the others as they were. -/
theorem free_used {s : HS} (h : s.WF) (a x : Nat) : (s.free a).2.used x = (s.used x && decide (x ≠ a)) := by
  cases hu : s.used a with
  | false =>
    rw [free_no hu]
    by_cases hx : x = a
    · subst hx; simp [hu]
    · simp [hx]
  | true =>
    rw [(free_yes h hu).2.used]
    unfold upd
    by_cases hx : x = a
    · subst hx; simp
    · simp [hx]
theorem free_n {s : HS} (h : s.WF) (a : Nat) : (s.free a).2.n = s.n := by
  cases hu : s.used a with
  | false => rw [free_no hu]
  | true => exact (free_yes h hu).2.n

/-- The cells that Cells has told are given back. -/
structure Told (n : Nat) (s0 s : HS) (l : List Int) (q : Nat) : Prop where
  wf : s.WF
  cnt : s.n = n
  used : ∀ x : Nat, s.used x = true ↔ s0.used x = true ∧ ∀ i, i < q → l.getD i 0 ≠ (x : Int)
theorem Told.start {n : Nat} {s0 : HS} (h : s0.WF) (hn : s0.n = n) (l : List Int) : Told n s0 s0 l 0 := ⟨h, hn, fun x => ⟨fun hx => ⟨hx, fun i hi => absurd hi (Nat.not_lt_zero _)⟩, fun hx => hx.1⟩⟩
theorem Told.next {n : Nat} {s0 s : HS} {l : List Int} {q X : Nat} (h : Told n s0 s l q) (hX : l.getD q 0 = (X : Int)) : Told n s0 (s.free X).2 l (q + 1) := by
  refine ⟨h.wf.free X, (free_n h.wf X).trans h.cnt, fun x => ?_⟩
  rw [free_used h.wf, Bool.and_eq_true, h.used, decide_eq_true_iff]
  constructor
  · rintro ⟨⟨h1, h2⟩, h3⟩
    refine ⟨h1, fun i hi => ?_⟩
    rcases Nat.lt_succ_iff_lt_or_eq.1 hi with h4 | rfl
    · exact h2 i h4
    · rw [hX]; omega
  · rintro ⟨h1, h2⟩
    refine ⟨⟨h1, fun i hi => h2 i (by omega)⟩, fun he => ?_⟩
    have := h2 q (by omega)
    rw [hX] at this
    omega
theorem Told.all {n : Nat} {s0 s : HS} {l : List Int} (h : Told n s0 s l l.length) (h0 : s0.WF) (hn : s0.n = n) (hl : ∀ x : Nat, s0.used x = true → (x : Int) ∈ l) : s = empty n := by
  have := h.wf.eq_empty fun a => by
    cases hu : s.used a with
    | false => rfl
    | true =>
      obtain ⟨h1, h2⟩ := (h.used a).1 hu
      obtain ⟨i, hi, he⟩ := List.mem_iff_getElem.1 (hl a h1)
      refine absurd ?_ (h2 i hi)
      rw [List.getD_eq_getElem?_getD, List.getElem?_eq_getElem hi]
      exact he
  rw [this, h.cnt]
end HS

/-- Steps that share no factor with the number come to each place but once. -/
theorem steps_apart {k J i j : Nat} (hJ : 0 < J) (hg : Nat.gcd (k + 1) J = 1) (hi : i < J) (hj : j < i) : (i * k + i) % J ≠ (j * k + j) % J := by
  intro h
  have h1 : J ∣ (i * k + i) - (j * k + j) := Nat.dvd_of_mod_eq_zero (Nat.sub_mod_eq_zero_of_mod_eq h)
  have h2 : (i * k + i) - (j * k + j) = (k + 1) * (i - j) := by
    rw [Nat.mul_sub, Nat.add_mul, Nat.add_mul, Nat.one_mul, Nat.one_mul, Nat.mul_comm k i, Nat.mul_comm k j]
  rw [h2] at h1
  have h3 : J ∣ i - j := Nat.Coprime.dvd_of_dvd_mul_left (by unfold Nat.Coprime; rw [Nat.gcd_comm]; exact hg) h1
  have := Nat.le_of_dvd (by omega) h3
  omega
end Go.Proofs.Ytjfpijoeddjgmaa.Hm
