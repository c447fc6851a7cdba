/- The plain heap: cells of one size had one behind the other, behind some large ones. No condition. -/
import Derived.Test.YtjfpijoeddjgmaaHm3
namespace Go.Proofs.Ytjfpijoeddjgmaa.Hm
open Go.RowKit
set_option linter.unusedVariables false
namespace HS
/-- A heap of n blocks: m0 of them in large cells, then j cells of c words. -/
def lay (n m0 c j : Nat) : HS where
  n := n
  kind := fun b => if b < m0 then (if b % 2 = 0 then -1 else -2) else if (b - m0) * (32 / c) < j then (c : Int) else 0
  used := fun a => decide ((a < 1 + 32 * m0 ∧ a % 64 = 1) ∨ (1 + 32 * m0 ≤ a ∧ (a - (1 + 32 * m0)) % c = 0 ∧ (a - (1 + 32 * m0)) / c < j))
  word := fun _ => 0

theorem lay_empty (n c : Nat) : lay n 0 c 0 = empty n := by
  unfold lay empty
  congr 1
  funext a
  refine decide_eq_false ?_
  rintro (⟨h1, h2⟩ | ⟨_, _, h3⟩)
  · omega
  · exact Nat.not_lt_zero _ h3

theorem find_lit {m : Nat} {p : Nat → Bool} {j : Nat} (hj : j < m) (hp : p j = true) (hf : ∀ i, i < j → p i = false) : (List.range m).find? p = some j := by
  rw [List.find?_range_eq_some]
  exact ⟨hp, List.mem_range.2 hj, fun i hi => by simp [hf i hi]⟩

theorem lay_slot {n m0 c j b : Nat} (hc : isCls c) (hb : m0 ≤ b) (hj1 : (b - m0) * (32 / c) ≤ j) (hj2 : j < (b - m0) * (32 / c) + 32 / c) : (lay n m0 c j).slot c b = some (j - (b - m0) * (32 / c)) := by
  unfold slot
  refine find_lit (by omega) ?_ ?_
  · unfold isCls at hc
    rcases hc with rfl | rfl | rfl | rfl | rfl <;> simp only [lay, Bool.not_eq_true', decide_eq_false_iff_not] <;> omega
  · intro i hi
    unfold isCls at hc
    rcases hc with rfl | rfl | rfl | rfl | rfl <;> simp only [lay, Bool.not_eq_false', decide_eq_true_eq] <;> omega
theorem lay_slot_full {n m0 c j b : Nat} (hc : isCls c) (hb : m0 ≤ b) (hj : (b - m0) * (32 / c) + 32 / c ≤ j) : (lay n m0 c j).slot c b = none := by
  unfold slot
  rw [List.find?_eq_none]
  intro i hi
  have hi := List.mem_range.1 hi
  have hu : (lay n m0 c j).used (1 + 32 * b + c * i) = true := by
    unfold isCls at hc
    rcases hc with rfl | rfl | rfl | rfl | rfl <;> simp only [lay, decide_eq_true_eq] <;> omega
  simp [hu]

theorem lay_small {n m0 c j size : Nat} (hc : cls size = c) (h1 : 1 ≤ size) (h2 : size ≤ 32) (hm : m0 ≤ n) (hj : j ≤ (n - m0) * (32 / c)) :
    (lay n m0 c j).alloc (size : Nat) = if j < (n - m0) * (32 / c) then (1 + 32 * m0 + c * j, 0, lay n m0 c (j + 1)) else (0, 9, lay n m0 c j) := by
  have hcls : isCls c := hc ▸ cls_is size
  have hD : 1 ≤ 32 / c ∧ c * (32 / c) = 32 := by unfold isCls at hcls; rcases hcls with rfl | rfl | rfl | rfl | rfl <;> simp
  obtain ⟨D, hDe⟩ : ∃ D, D = 32 / c := ⟨_, rfl⟩
  have hq : j / D * D + j % D = j := by rw [Nat.mul_comm]; exact Nat.div_add_mod j D
  have hr : j % D < D := Nat.mod_lt _ (by omega)
  generalize j / D = Q at *
  generalize j % D = R at *
  unfold alloc
  rw [if_neg (by omega), if_neg (by omega)]
  simp only [Int.toNat_natCast]
  rw [hc]
  have hkc : ∀ b, (lay n m0 c j).kind b = (c : Int) → m0 ≤ b ∧ (b - m0) * (32 / c) < j := by
    intro b hk
    have := hcls.pos
    simp only [lay] at hk
    split at hk
    · split at hk <;> omega
    · split at hk
      · constructor <;> omega
      · omega
  have hk0 : ∀ b, (lay n m0 c j).kind b = 0 → m0 ≤ b ∧ j ≤ (b - m0) * (32 / c) := by
    intro b hk
    have := hcls.pos
    simp only [lay] at hk
    split at hk
    · split at hk <;> omega
    · split at hk
      · omega
      · constructor <;> omega
  have hmono : ∀ x y, x < y → x * (32 / c) + 32 / c ≤ y * (32 / c) := fun x y h => by
    have := Nat.mul_le_mul_right (32 / c) (show x + 1 ≤ y from h)
    rw [Nat.add_mul] at this; omega
  rw [← hDe] at hD
  have hmono2 : ∀ x y, x < y → x * D + D ≤ y * D := fun x y h => by have := hmono x y h; rwa [← hDe] at this
  by_cases hlt : j < (n - m0) * (32 / c)
  · rw [if_pos hlt]
    have hbn : m0 + Q < n := by
      refine Nat.lt_of_not_le fun hle => ?_
      have h3 := Nat.mul_le_mul_right D (show n - m0 ≤ Q by omega)
      rw [← hDe] at hlt; omega
    by_cases hz : R = 0
    · have hbl : (lay n m0 c j).blk c = none := by
        refine blk_no fun b hb hk => ?_
        obtain ⟨k1, k2⟩ := hkc b hk
        have : b - m0 < Q := by
          refine Nat.lt_of_not_le fun hle => ?_
          have := Nat.mul_le_mul_right D hle
          rw [← hDe] at k2; omega
        have h3 := hmono _ _ this
        exact lay_slot_full hcls k1 (by rw [← hDe] at h3 ⊢; omega)
      have hrun : (lay n m0 c j).run 1 = some (m0 + Q) := by
        refine run_of (by show _ ≤ n; omega) (fun i hi => ?_) (fun b' hb' => ⟨0, by omega, fun hk => ?_⟩)
        · have : i = 0 := by omega
          subst this
          simp only [lay, Nat.add_zero]
          rw [if_neg (by omega), if_neg]
          rw [show m0 + Q - m0 = Q by omega, ← hDe]; omega
        · obtain ⟨k1, k2⟩ := hk0 (b' + 0) hk
          have := hmono (b' - m0) (Q) (by omega)
          rw [← hDe] at this k2
          simp only [Nat.add_zero] at k2
          omega
      rw [hbl]
      simp only
      rw [hrun]
      have hadr : 1 + 32 * (m0 + Q) = 1 + 32 * m0 + c * j := by
        have : c * j = 32 * (Q) := by rw [← hD.2, Nat.mul_assoc, Nat.mul_comm D]; congr 1; omega
        omega
      simp only
      rw [hadr]
      refine Prod.ext rfl (Prod.ext rfl ?_)
      show takeNew _ _ _ = _
      unfold takeNew
      rw [hadr]
      unfold lay
      congr 1
      · funext b
        unfold upd
        dsimp only
        have hbq : ∀ x, x < Q → x * D + D ≤ Q * D := fun x hx => by have := hmono _ _ hx; rwa [← hDe] at this
        have hbq2 : ∀ x, Q < x → Q * D + D ≤ x * D := fun x hx => by have := hmono _ _ hx; rwa [← hDe] at this
        rw [← hDe]
        by_cases hb : b = m0 + Q
        · subst hb
          rw [if_pos rfl, if_neg (by omega), if_pos]
          rw [show m0 + Q - m0 = Q by omega]; omega
        · rw [if_neg hb]
          by_cases hb2 : b < m0
          · rw [if_pos hb2, if_pos hb2]
          · rw [if_neg hb2, if_neg hb2]
            rcases Nat.lt_or_gt_of_ne hb with h | h
            · have := hbq (b - m0) (by omega)
              rw [if_pos (by omega), if_pos (by omega)]
            · have := hbq2 (b - m0) (by omega)
              rw [if_neg (by omega), if_neg (by omega)]
      · funext a
        unfold upd
        clear hkc hk0 hmono hbl hrun hadr
        by_cases ha : a = 1 + 32 * m0 + c * j
        · subst ha
          rw [if_pos rfl]
          refine (decide_eq_true ?_).symm
          refine .inr ⟨by omega, ?_, ?_⟩
          · rw [show 1 + 32 * m0 + c * j - (1 + 32 * m0) = c * j by omega]; exact Nat.mul_mod_right c j
          · rw [show 1 + 32 * m0 + c * j - (1 + 32 * m0) = c * j by omega, Nat.mul_div_cancel_left _ (by have := hcls.pos; omega)]; omega
        · rw [if_neg ha]
          refine decide_eq_decide.2 ?_
          clear hz hq hr hD hDe hbn hlt hj
          unfold isCls at hcls
          rcases hcls with rfl | rfl | rfl | rfl | rfl <;> omega
    · have hsl : (lay n m0 c j).slot c (m0 + Q) = some (R) := by
        rw [lay_slot hcls (by omega) (by rw [← hDe, show m0 + Q - m0 = Q by omega]; omega) (by rw [← hDe, show m0 + Q - m0 = Q by omega]; omega)]
        rw [← hDe, show m0 + Q - m0 = Q by omega]
        congr 1; omega
      have hbl : (lay n m0 c j).blk c = some (m0 + Q) := by
        refine blk_of (by show _ < n; omega) ?_ hsl fun b' hb' hk => ?_
        · simp only [lay]
          rw [if_neg (by omega), if_pos]
          rw [← hDe, show m0 + Q - m0 = Q by omega]; omega
        · obtain ⟨k1, k2⟩ := hkc b' hk
          have := hmono (b' - m0) (Q) (by omega)
          exact lay_slot_full hcls k1 (by rw [← hDe] at this ⊢; omega)
      rw [hbl]
      simp only
      rw [hsl]
      have hadr : 1 + 32 * (m0 + Q) + c * (R) = 1 + 32 * m0 + c * j := by
        have : c * j = 32 * (Q) + c * (R) := by
          rw [← hD.2, Nat.mul_assoc, Nat.mul_comm D, ← Nat.mul_add]; congr 1; omega
        omega
      simp only [Option.getD_some]
      rw [hadr]
      refine Prod.ext rfl (Prod.ext rfl ?_)
      show takeSlot _ _ = _
      unfold takeSlot lay
      congr 1
      · funext b
        simp only
        rw [← hDe]
        by_cases hb2 : b < m0
        · rw [if_pos hb2, if_pos hb2]
        · rw [if_neg hb2, if_neg hb2]
          by_cases h3 : (b - m0) * D < j
          · rw [if_pos h3, if_pos (by omega)]
          · rw [if_neg h3, if_neg]
            intro h4
            have h5 : (b - m0) * D = j := by omega
            rcases Nat.lt_or_ge Q (b - m0) with h6 | h6
            · have := hmono2 _ _ h6; omega
            · have := Nat.mul_le_mul_right D h6; omega
      · funext a
        simp only
        unfold upd
        clear hkc hk0 hmono hbl hsl hadr
        by_cases ha : a = 1 + 32 * m0 + c * j
        · subst ha
          rw [if_pos rfl]
          refine (decide_eq_true ?_).symm
          refine .inr ⟨by omega, ?_, ?_⟩
          · rw [show 1 + 32 * m0 + c * j - (1 + 32 * m0) = c * j by omega]; exact Nat.mul_mod_right c j
          · rw [show 1 + 32 * m0 + c * j - (1 + 32 * m0) = c * j by omega, Nat.mul_div_cancel_left _ (by have := hcls.pos; omega)]; omega
        · rw [if_neg ha]
          refine decide_eq_decide.2 ?_
          clear hz hq hr hD hDe hbn hlt hj
          unfold isCls at hcls
          rcases hcls with rfl | rfl | rfl | rfl | rfl <;> omega
  · rw [if_neg hlt]
    have hjeq : j = (n - m0) * (32 / c) := by omega
    have hbl : (lay n m0 c j).blk c = none := by
      refine blk_no fun b hb hk => ?_
      obtain ⟨k1, k2⟩ := hkc b hk
      have := hmono (b - m0) (n - m0) (by have : b < n := hb; omega)
      exact lay_slot_full hcls k1 (by omega)
    have hrun : (lay n m0 c j).run 1 = none := by
      refine run_no fun b' hb' => ⟨0, by omega, fun hk => ?_⟩
      obtain ⟨k1, k2⟩ := hk0 (b' + 0) hk
      have := hmono (b' - m0) (n - m0) (by have : b' + 1 ≤ n := hb'; omega)
      simp only [Nat.add_zero] at k2
      rw [← hDe] at this k2 hjeq
      omega
    rw [hbl]
    simp only
    rw [hrun]

theorem lay_large {n m0 c : Nat} {size : Int} (hm2 : m0 % 2 = 0) (h1 : 32 < size) (h2 : size ≤ 64) (hm : m0 ≤ n) :
    (lay n m0 c 0).alloc size = if m0 + 2 ≤ n then (1 + 32 * m0, 0, lay n (m0 + 2) c 0) else (0, 9, lay n m0 c 0) := by
  unfold alloc
  rw [if_neg (by omega), if_pos h1]
  by_cases h : m0 + 2 ≤ n
  · rw [if_pos h]
    have hrun : (lay n m0 c 0).run 2 = some m0 := by
      refine run_of (by show _ ≤ n; omega) (fun i hi => ?_) (fun b' hb' => ⟨0, by omega, ?_⟩)
      · simp only [lay]; rw [if_neg (by omega), if_neg (by omega)]
      · simp only [lay, Nat.add_zero]; rw [if_pos hb']; split <;> omega
    rw [hrun]
    simp only
    refine Prod.ext rfl (Prod.ext rfl ?_)
    show takeLarge _ _ = _
    unfold takeLarge lay
    congr 1
    · funext b
      unfold upd
      simp only [Nat.not_lt_zero, if_false]
      by_cases h4 : b = m0 + 1
      · subst h4; rw [if_pos rfl, if_pos (by omega), if_neg (by omega)]
      · rw [if_neg h4]
        by_cases h5 : b = m0
        · subst h5; rw [if_pos rfl, if_pos (show b < b + 2 by omega), if_pos hm2]
        · rw [if_neg h5]
          by_cases h6 : b < m0
          · rw [if_pos h6, if_pos (show b < m0 + 2 by omega)]
          · rw [if_neg h6, if_neg (show ¬ b < m0 + 2 by omega)]
    · funext a
      unfold upd
      simp only
      by_cases h4 : a = 1 + 32 * m0
      · subst h4; rw [if_pos rfl]; exact (decide_eq_true (.inl ⟨by omega, by omega⟩)).symm
      · rw [if_neg h4]; refine decide_eq_decide.2 ?_; simp only [Nat.not_lt_zero, and_false, or_false]; omega
  · rw [if_neg h]
    have hrun : (lay n m0 c 0).run 2 = none := by
      refine run_no fun b' hb' => ⟨0, by omega, ?_⟩
      have : b' + 2 ≤ n := hb'
      simp only [lay, Nat.add_zero]; rw [if_pos (by omega)]; split <;> omega
    rw [hrun]

theorem lay_wf_large {n c : Nat} (hc : isCls c) : ∀ i, 2 * i ≤ n → (lay n (2 * i) c 0).WF
  | 0, _ => by rw [show 2 * 0 = 0 from rfl, lay_empty]; exact empty_wf n
  | i + 1, h => by
    have := (lay_wf_large (n := n) hc i (by omega)).alloc 40
    rw [lay_large (by omega) (by omega) (by omega) (by omega), if_pos (by omega)] at this
    exact this
theorem lay_wf {n c m0 : Nat} (hc : isCls c) (hm2 : m0 % 2 = 0) (hm : m0 ≤ n) : ∀ j, j ≤ (n - m0) * (32 / c) → (lay n m0 c j).WF
  | 0, _ => by
    have := lay_wf_large (n := n) hc (m0 / 2) (by omega)
    rwa [show 2 * (m0 / 2) = m0 by omega] at this
  | j + 1, h => by
    have h1 := (lay_wf hc hm2 hm j (by omega)).alloc (c : Int)
    have hcc : cls c = c := by unfold isCls at hc; rcases hc with rfl | rfl | rfl | rfl | rfl <;> rfl
    rw [lay_small hcc (by have := hc.pos; omega) hc.le hm (by omega), if_pos (by omega)] at h1
    exact h1
theorem lay_free {n m0 c : Nat} (hc : isCls c) (hm2 : m0 % 2 = 0) (hm : m0 + 2 ≤ n) : (lay n (m0 + 2) c 0).free (1 + 32 * m0) = (0, lay n m0 c 0) := by
  have hu : (lay n (m0 + 2) c 0).used (1 + 32 * m0) = true := decide_eq_true (.inl ⟨by omega, by omega⟩)
  have hk : (lay n (m0 + 2) c 0).kind m0 = -1 := by simp only [lay]; rw [if_pos (by omega), if_pos hm2]
  rw [free_large hu hk]
  refine Prod.ext rfl ?_
  show HS.mk _ _ _ _ = _
  unfold lay
  congr 1
  · funext b
    unfold upd
    simp only [Nat.not_lt_zero, if_false]
    by_cases h4 : b = m0 + 1
    · subst h4; rw [if_pos rfl, if_neg (by omega)]
    · rw [if_neg h4]
      by_cases h5 : b = m0
      · subst h5; rw [if_pos rfl, if_neg (by omega)]
      · rw [if_neg h5]
        by_cases h6 : b < m0
        · rw [if_pos (by omega), if_pos h6]
        · rw [if_neg (by omega), if_neg h6]
  · funext a
    unfold upd
    simp only
    by_cases h4 : a = 1 + 32 * m0
    · subst h4; rw [if_pos rfl]; exact (decide_eq_false (by simp only [Nat.not_lt_zero, and_false, or_false]; omega)).symm
    · rw [if_neg h4]; refine decide_eq_decide.2 ?_; simp only [Nat.not_lt_zero, and_false, or_false]; omega
  · funext a; simp
end HS
end Go.Proofs.Ytjfpijoeddjgmaa.Hm
