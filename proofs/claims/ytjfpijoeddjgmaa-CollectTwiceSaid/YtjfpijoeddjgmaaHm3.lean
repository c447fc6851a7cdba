/- The plain heap: what Alloc and Free leave of the other cells. No condition. -/
import Derived.Test.YtjfpijoeddjgmaaHm2
namespace Go.Proofs.Ytjfpijoeddjgmaa.Hm
open Go.RowKit
set_option linter.unusedVariables false
namespace HS

theorem WF.in_block {s : HS} (h : s.WF) {a : Nat} (ha : s.used a = true) : ∃ b i, i < 32 ∧ a = 1 + 32 * b + i ∧ s.kind b ≠ 0 ∧ s.kind b ≠ -2 ∧ (a - 1) / 32 = b := by
  rcases h.used_cases ha with ⟨b, _, hk, _, rfl, _⟩ | ⟨b, c, j, _, hc, hk, hj, rfl, _⟩
  · exact ⟨b, 0, by omega, by omega, by omega, by omega, by omega⟩
  · have := hc.pos
    exact ⟨b, c * j, hj, rfl, by omega, by omega, by omega⟩

theorem cap_val {t : HS} {a b : Nat} {K : Int} (hu : t.used a = true) (hb : (a - 1) / 32 = b) (hk : t.kind b = K) : t.cap a = if K = -1 then 64 else K.toNat := by
  unfold cap; subst hk; rw [if_pos hu, hb]

structure New (s t : HS) (a : Nat) : Prop where
  fresh : s.used a = false
  used : t.used = upd s.used a true
  word : t.word = s.word
  n : t.n = s.n
  caps : ∀ x, s.used x = true → t.cap x = s.cap x
  pos : 1 ≤ a

theorem New.slot {s : HS} (h : s.WF) {b c j : Nat} (hc : isCls c) (hk : s.kind b = (c : Int)) (hj : s.slot c b = some j) : New s (s.takeSlot (1 + 32 * b + c * j)) (1 + 32 * b + c * j) where
  fresh := (slot_some hj).2.1
  used := rfl
  word := rfl
  n := rfl
  caps := fun x hx => cap_kinds (by show upd s.used _ true x = _; rw [upd_other]; rintro rfl; rw [(slot_some hj).2.1] at hx; cases hx) rfl
  pos := by omega
theorem New.new {s : HS} (h : s.WF) {b c : Nat} (hk : s.kind b = 0) : New s (s.takeNew b c) (1 + 32 * b) := by
  have hf : s.used (1 + 32 * b) = false := by have := h.unused (b := b) (i := 0) (.inl hk) (by omega); simpa using this
  refine ⟨hf, rfl, rfl, rfl, fun x hx => cap_kinds ?_ ?_, by omega⟩
  · show upd s.used _ true x = _; rw [upd_other]; rintro rfl; rw [hf] at hx; cases hx
  · obtain ⟨b', i, hi, rfl, h1, h2, h3⟩ := h.in_block hx
    rw [h3]
    show upd s.kind b c b' = _
    rw [upd_other]; rintro rfl; exact h1 hk
theorem New.large {s : HS} (h : s.WF) {b : Nat} (hk : s.kind b = 0) (hk1 : s.kind (b + 1) = 0) : New s (s.takeLarge b) (1 + 32 * b) := by
  have hf : s.used (1 + 32 * b) = false := by have := h.unused (b := b) (i := 0) (.inl hk) (by omega); simpa using this
  refine ⟨hf, rfl, rfl, rfl, fun x hx => cap_kinds ?_ ?_, by omega⟩
  · show upd s.used _ true x = _; rw [upd_other]; rintro rfl; rw [hf] at hx; cases hx
  · obtain ⟨b', i, hi, rfl, h1, h2, h3⟩ := h.in_block hx
    rw [h3]
    show upd (upd s.kind b (-1)) (b + 1) (-2) b' = _
    rw [upd_other, upd_other] <;> rintro rfl
    · exact h1 hk
    · exact h1 hk1

/-- What Alloc leaves: an error and the heap as it was, or a new cell. -/
theorem alloc_cases {s : HS} (h : s.WF) (n : Int) :
    ((s.alloc n).2.1 ≠ 0 ∧ (s.alloc n).1 = 0 ∧ (s.alloc n).2.2 = s) ∨
    ((s.alloc n).2.1 = 0 ∧ 1 ≤ n ∧ n ≤ 64 ∧ New s (s.alloc n).2.2 (s.alloc n).1 ∧ (s.alloc n).2.2.cap (s.alloc n).1 = if 32 < n then 64 else cls n.toNat) := by
  unfold alloc
  by_cases hb : n < 1 ∨ 64 < n
  · rw [if_pos hb]; exact .inl ⟨by simp, rfl, rfl⟩
  rw [if_neg hb]
  by_cases hl : 32 < n
  · rw [if_pos hl]
    cases hr : s.run 2 with
    | none => exact .inl ⟨by simp, rfl, rfl⟩
    | some b =>
      have hf := run_free hr
      refine .inr ⟨rfl, by omega, by omega, New.large h (hf 0 (by omega)) (hf 1 (by omega)), ?_⟩
      rw [if_pos hl]
      refine (cap_val (b := b) (K := -1) (by simp [takeLarge, upd]) (by show (1 + 32 * b - 1) / 32 = b; omega) (by simp [takeLarge, upd])).trans (by simp)
  · rw [if_neg hl]
    have hc := cls_is n.toNat
    have hcp := hc.pos
    cases hbk : s.blk (cls n.toNat) with
    | some b =>
      obtain ⟨h1, h2, ⟨j, hj⟩, _⟩ := blk_some hbk
      have hg : (s.slot (cls n.toNat) b).getD 0 = j := by rw [hj]; rfl
      have hj1 := (slot_some hj).1
      have hj2 := hc.lt_iff.2 hj1
      refine .inr ⟨rfl, by omega, by omega, ?_, ?_⟩
      · show New s (s.takeSlot (1 + 32 * b + cls n.toNat * (s.slot (cls n.toNat) b).getD 0)) (1 + 32 * b + cls n.toNat * (s.slot (cls n.toNat) b).getD 0)
        rw [hg]; exact New.slot h hc h2 hj
      · rw [if_neg hl]
        show (s.takeSlot (1 + 32 * b + cls n.toNat * (s.slot (cls n.toNat) b).getD 0)).cap (1 + 32 * b + cls n.toNat * (s.slot (cls n.toNat) b).getD 0) = _
        rw [hg]
        rw [cap_val (t := s.takeSlot (1 + 32 * b + cls n.toNat * j)) (a := 1 + 32 * b + cls n.toNat * j) (b := b) (K := (cls n.toNat : Nat)) (by simp [takeSlot, upd]) (by omega) h2, if_neg (by omega)]
        rfl
    | none =>
      cases hr : s.run 1 with
      | none => exact .inl ⟨by simp, rfl, rfl⟩
      | some b =>
        have hf := run_free hr 0 (by omega)
        refine .inr ⟨rfl, by omega, by omega, New.new h hf, ?_⟩
        rw [if_neg hl]
        refine (cap_val (b := b) (K := (cls n.toNat : Nat)) (by simp [takeNew, upd]) (by show (1 + 32 * b - 1) / 32 = b; omega) (by simp [takeNew, upd])).trans ?_
        rw [if_neg (by omega)]; rfl

theorem New.zero {s t : HS} {a : Nat} (hs : s.WF) (ht : t.WF) (h : New s t a) {k : Nat} (hk : k < t.cap a) : t.word (a + k) = 0 := by
  refine Classical.byContradiction fun hn => ?_
  rw [h.word] at hn
  obtain ⟨x, hx, h1, h2⟩ := hs.zero _ hn
  have hne : x ≠ a := by rintro rfl; rw [h.fresh] at hx; cases hx
  have hxt : t.used x = true := by rw [h.used, upd_other _ _ hne]; exact hx
  have hat : t.used a = true := by rw [h.used, upd_same]
  rw [← h.caps x hx] at h2
  rcases Nat.lt_or_gt_of_ne hne with hl | hl
  · have := ht.apart hxt hat hl; omega
  · have := ht.apart hat hxt hl; omega

structure Gone (s t : HS) (a : Nat) : Prop where
  used : t.used = upd s.used a false
  n : t.n = s.n
  caps : ∀ x, x ≠ a → s.used x = true → t.cap x = s.cap x
  words : ∀ y, t.word y = if a ≤ y ∧ y < a + s.cap a then 0 else s.word y
theorem free_no {s : HS} {a : Nat} (hu : s.used a = false) : s.free a = (1, s) := by unfold free; rw [if_neg (by simp [hu])]
theorem free_yes {s : HS} (h : s.WF) {a : Nat} (hu : s.used a = true) : (s.free a).1 = 0 ∧ Gone s (s.free a).2 a := by
  rcases h.used_cases hu with ⟨b, hb, hk, hk1, rfl, e⟩ | ⟨b, c, j, hb, hc, hk, hj, rfl, e⟩
  · rw [free_large hu hk]
    refine ⟨rfl, rfl, rfl, fun x hne hx => cap_kinds ?_ ?_, fun y => rfl⟩
    · show upd s.used _ false x = _; rw [upd_other _ _ hne]
    · obtain ⟨b', i, hi, he, h1, h2, h3⟩ := h.in_block hx
      rw [h3]
      show upd (upd s.kind b 0) (b + 1) 0 b' = _
      rw [upd_other, upd_other]
      · rintro rfl
        rcases h.used_cases hx with ⟨b2, _, k2, _, rfl, _⟩ | ⟨b2, c2, j2, _, hc2, k2, _, rfl, _⟩
        · omega
        · have : b2 = b' := by have := hc2.pos; have := hc2.le; omega
          subst this
          have := hc2.pos
          omega
      · rintro rfl; exact h2 hk1
  · rw [free_small hu hj hc hk]
    refine ⟨rfl, rfl, rfl, fun x hne hx => cap_kinds ?_ ?_, fun y => rfl⟩
    · show upd s.used _ false x = _; rw [upd_other _ _ hne]
    · obtain ⟨b', i, hi, he, h1, h2, h3⟩ := h.in_block hx
      rw [h3]
      show (if _ then upd s.kind b 0 else s.kind) b' = _
      split
      · rename_i h0
        rw [upd_other]
        rintro rfl
        rcases h.used_cases hx with ⟨b2, _, k2, _, e2, _⟩ | ⟨b2, c2, j2, _, hc2, k2, hj2, e2, _⟩
        · have : b2 = b' := by omega
          subst this
          have := hc.pos
          omega
        · have : b2 = b' := by have := hc2.pos; omega
          subst this
          have : c2 = c := by omega
          subst this
          have := (cnt_zero_iff hc _ _).1 h0 j2 hj2
          rw [← e2, upd_other _ _ hne, hx] at this
          cases this
      · rfl
end HS
end Go.Proofs.Ytjfpijoeddjgmaa.Hm
