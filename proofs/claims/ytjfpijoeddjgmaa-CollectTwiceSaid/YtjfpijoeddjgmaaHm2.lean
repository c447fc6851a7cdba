/- The heap's plain model: the counts and the hints behind Alloc and Free. No condition. -/
import Derived.Test.YtjfpijoeddjgmaaHm
namespace Go.Proofs.Ytjfpijoeddjgmaa.Hm.HS
open Go.Proofs.Ytjfpijoeddjgmaa.Hm
set_option linter.unusedVariables false

theorem cnt_takeSlot {s : HS} (h : s.WF) {b c j : Nat} (hc : isCls c) (hk : s.kind b = (c : Int)) (hj : c * j < 32) (hu : s.used (1 + 32 * b + c * j) = false) (b' : Nat) :
    (s.takeSlot (1 + 32 * b + c * j)).cnt b' = if b' = b then s.cnt b + 1 else s.cnt b' := by
  unfold cnt takeSlot
  simp only []
  by_cases e : b' = b
  · subst e; rw [if_pos rfl, hk, cnt_take hc hj hu]
  · rw [if_neg e, cnt_far (h.kind_le b') (.inl (by omega))]
theorem cnt_takeNew {s : HS} (h : s.WF) {b c : Nat} (hc : isCls c) (hk : s.kind b = 0) (b' : Nat) : (s.takeNew b c).cnt b' = if b' = b then 1 else s.cnt b' := by
  unfold cnt takeNew
  simp only []
  by_cases e : b' = b
  · subst e
    have hu := h.unused (i := 0) (.inl hk) (by omega)
    have h0 : cntF (c : Int) s.used b' = 0 := by
      rw [cnt_zero_iff hc]
      intro j hj
      exact h.unused (.inl hk) hj
    have := cnt_take (j := 0) (b := b') hc (u := s.used) (by omega) (by simpa using hu)
    rw [h0] at this
    rw [if_pos rfl, upd_same]
    simpa using this
  · rw [if_neg e, upd_other _ _ e, cnt_far (h.kind_le b') (.inl (by omega))]
theorem cnt_takeLarge {s : HS} (h : s.WF) {b : Nat} (hk1 : s.kind (b + 1) = 0) (b' : Nat) : (s.takeLarge b).cnt b' = if b' = b then 1 else s.cnt b' := by
  unfold cnt takeLarge
  simp only []
  by_cases e : b' = b
  · subst e
    rw [if_pos rfl, upd_other _ _ (by omega), upd_same]; rfl
  · rw [if_neg e]
    by_cases e1 : b' = b + 1
    · subst e1; rw [upd_same, hk1]; rfl
    · rw [upd_other _ _ e1, upd_other _ _ e, cnt_far (h.kind_le b') (.inl (by omega))]
theorem cnt_freeLarge {s : HS} (h : s.WF) {b : Nat} (hu : s.used (1 + 32 * b) = true) (hk : s.kind b = -1) (b' : Nat) : (s.free (1 + 32 * b)).2.cnt b' = if b' = b then 0 else s.cnt b' := by
  rw [free_large hu hk]
  unfold cnt
  simp only []
  by_cases e : b' = b
  · subst e
    rw [if_pos rfl, upd_other _ _ (by omega), upd_same]; rfl
  · rw [if_neg e]
    by_cases e1 : b' = b + 1
    · subst e1; rw [upd_same, h.head b hk]; rfl
    · rw [upd_other _ _ e1, upd_other _ _ e, cnt_far (h.kind_le b') (.inl (by omega))]
theorem cnt_freeSmall {s : HS} (h : s.WF) {b c j : Nat} (hu : s.used (1 + 32 * b + c * j) = true) (hj : c * j < 32) (hc : isCls c) (hk : s.kind b = (c : Int)) (b' : Nat) :
    (s.free (1 + 32 * b + c * j)).2.cnt b' = if b' = b then s.cnt b - 1 else s.cnt b' := by
  rw [free_small hu hj hc hk]
  have hd := cnt_drop hc hj hu
  unfold cnt
  simp only []
  by_cases e : b' = b
  · subst e
    rw [if_pos rfl, hk]
    split
    · rename_i h0
      rw [upd_same, hd, h0]; rfl
    · rw [hk]; omega
  · rw [if_neg e]
    have : (if cntF (c : Int) (upd s.used (1 + 32 * b + c * j) false) b = 0 then upd s.kind b 0 else s.kind) b' = s.kind b' := by
      split
      · exact upd_other _ _ e
      · rfl
    rw [this, cnt_far (h.kind_le b') (.inl (by omega))]

/-! ### the hints -/
theorem HintF.of {s t : HS} {fr fr' : Int → Int} (h : s.HintF fr) (hn : t.n = s.n)
    (hh : ∀ c : Nat, isCls c → (0 ≤ fr' c ∧ fr' c ≤ s.n) ∧ ∀ b : Nat, (b : Int) < fr' c → t.kind b = (c : Int) → 32 / c ≤ t.cnt b) : t.HintF fr' :=
  fun c hc => ⟨(hh c hc).1.1, by rw [hn]; exact (hh c hc).1.2, (hh c hc).2⟩
/-- A cell is taken where the hint now points. -/
theorem HintF.takeSlot {s : HS} {fr : Int → Int} (h : s.HintF fr) (hwf : s.WF) {b c j : Nat} (hc : isCls c) (hk : s.kind b = (c : Int)) (hj : c * j < 32) (hu : s.used (1 + 32 * b + c * j) = false)
    (hfull : ∀ b', b' < b → s.kind b' = (c : Int) → 32 / c ≤ s.cnt b') : (s.takeSlot (1 + 32 * b + c * j)).HintF (fun k => if k = (c : Int) then (b : Int) else fr k) := by
  intro c' hc'
  have hb : b < s.n := hwf.lt (by rw [hk]; have := hc.pos; omega)
  have e0 : (s.takeSlot (1 + 32 * b + c * j)).kind = s.kind := rfl
  have e1 : (s.takeSlot (1 + 32 * b + c * j)).n = s.n := rfl
  rw [e0, e1]
  by_cases e : (c' : Int) = c
  · simp only [e, if_true]
    refine ⟨by omega, by omega, fun b' hb' hk' => ?_⟩
    rw [cnt_takeSlot hwf hc hk hj hu, if_neg (by omega)]
    have : c' = c := by omega
    subst this
    exact hfull b' (by omega) hk'
  · simp only [if_neg e]
    obtain ⟨h1, h2, h3⟩ := h c' hc'
    refine ⟨h1, h2, fun b' hb' hk' => ?_⟩
    rw [cnt_takeSlot hwf hc hk hj hu, if_neg (fun e2 => by subst e2; rw [hk] at hk'; omega)]
    exact h3 b' hb' hk'
theorem HintF.takeNew {s : HS} {fr : Int → Int} (h : s.HintF fr) (hwf : s.WF) {b c : Nat} (hc : isCls c) (hb : b < s.n) (hk : s.kind b = 0)
    (hfull : ∀ b', b' < s.n → s.kind b' = (c : Int) → 32 / c ≤ s.cnt b') : (s.takeNew b c).HintF (fun k => if k = (c : Int) then (b : Int) else fr k) := by
  intro c' hc'
  have e0 : (s.takeNew b c).kind = upd s.kind b c := rfl
  have e1 : (s.takeNew b c).n = s.n := rfl
  rw [e0, e1]
  by_cases e : (c' : Int) = c
  · simp only [e, if_true]
    refine ⟨by omega, by omega, fun b' hb' hk' => ?_⟩
    have hne : b' ≠ b := by omega
    rw [upd_other _ _ hne] at hk'
    rw [cnt_takeNew hwf hc hk, if_neg hne]
    have : c' = c := by omega
    subst this
    exact hfull b' (by omega) hk'
  · simp only [if_neg e]
    obtain ⟨h1, h2, h3⟩ := h c' hc'
    refine ⟨h1, h2, fun b' hb' hk' => ?_⟩
    have hne : b' ≠ b := fun e2 => by subst e2; rw [upd_same] at hk'; omega
    rw [upd_other _ _ hne] at hk'
    rw [cnt_takeNew hwf hc hk, if_neg hne]
    exact h3 b' hb' hk'
theorem HintF.none {s : HS} {fr : Int → Int} (h : s.HintF fr) {c : Nat} (hc : isCls c)
    (hfull : ∀ b', b' < s.n → s.kind b' = (c : Int) → 32 / c ≤ s.cnt b') : s.HintF (fun k => if k = (c : Int) then (s.n : Int) else fr k) := by
  intro c' hc'
  by_cases e : (c' : Int) = c
  · simp only [e, if_true]
    refine ⟨by omega, by omega, fun b' hb' hk' => ?_⟩
    have : c' = c := by omega
    subst this
    exact hfull b' (by omega) hk'
  · simp only [if_neg e]
    exact h c' hc'
theorem HintF.takeLarge {s : HS} {fr : Int → Int} (h : s.HintF fr) (hwf : s.WF) {b : Nat} (hk1 : s.kind (b + 1) = 0) : (s.takeLarge b).HintF fr := by
  intro c' hc'
  obtain ⟨h1, h2, h3⟩ := h c' hc'
  refine ⟨h1, h2, fun b' hb' hk' => ?_⟩
  have e0 : (s.takeLarge b).kind = upd (upd s.kind b (-1)) (b + 1) (-2) := rfl
  rw [e0] at hk'
  have hp := hc'.pos
  have hne1 : b' ≠ b + 1 := fun e => by subst e; rw [upd_same] at hk'; omega
  have hne : b' ≠ b := fun e => by subst e; rw [upd_other _ _ hne1, upd_same] at hk'; omega
  rw [upd_other _ _ hne1, upd_other _ _ hne] at hk'
  rw [cnt_takeLarge hwf hk1, if_neg hne]
  exact h3 b' hb' hk'
theorem HintF.freeLarge {s : HS} {fr : Int → Int} (h : s.HintF fr) (hwf : s.WF) {b : Nat} (hu : s.used (1 + 32 * b) = true) (hk : s.kind b = -1) : (s.free (1 + 32 * b)).2.HintF fr := by
  have hc := cnt_freeLarge hwf hu hk
  intro c' hc'
  obtain ⟨h1, h2, h3⟩ := h c' hc'
  have hp := hc'.pos
  have e0 : (s.free (1 + 32 * b)).2.kind = upd (upd s.kind b 0) (b + 1) 0 := by rw [free_large hu hk]
  have e1 : (s.free (1 + 32 * b)).2.n = s.n := by rw [free_large hu hk]
  refine ⟨h1, by rw [e1]; exact h2, fun b' hb' hk' => ?_⟩
  rw [e0] at hk'
  have hne1 : b' ≠ b + 1 := fun e => by subst e; rw [upd_same] at hk'; omega
  have hne : b' ≠ b := fun e => by subst e; rw [upd_other _ _ hne1, upd_same] at hk'; omega
  rw [upd_other _ _ hne1, upd_other _ _ hne] at hk'
  rw [hc, if_neg hne]
  exact h3 b' hb' hk'
theorem HintF.freeSmall {s : HS} {fr : Int → Int} (h : s.HintF fr) (hwf : s.WF) {b c j : Nat} (hu : s.used (1 + 32 * b + c * j) = true) (hj : c * j < 32) (hc : isCls c) (hk : s.kind b = (c : Int)) :
    (s.free (1 + 32 * b + c * j)).2.HintF (fun k => if k = (c : Int) then min (fr k) (b : Int) else fr k) := by
  have hcn := cnt_freeSmall hwf hu hj hc hk
  have hb : b < s.n := hwf.lt (by rw [hk]; have := hc.pos; omega)
  have e1 : (s.free (1 + 32 * b + c * j)).2.n = s.n := by rw [free_small hu hj hc hk]
  have hkk : ∀ b', b' ≠ b → (s.free (1 + 32 * b + c * j)).2.kind b' = s.kind b' := fun b' hne => by
    rw [free_small hu hj hc hk]; simp only []; split
    · exact upd_other _ _ hne
    · rfl
  have hkb : ∀ c' : Nat, isCls c' → (s.free (1 + 32 * b + c * j)).2.kind b = (c' : Int) → c' = c := fun c' hc' hk' => by
    rw [free_small hu hj hc hk] at hk'
    simp only [] at hk'
    have := hc'.pos
    split at hk'
    · rw [upd_same] at hk'; omega
    · omega
  intro c' hc'
  rw [e1]
  by_cases e : (c' : Int) = c
  · have : c' = c := by omega
    subst this
    simp only [if_true]
    obtain ⟨h1, h2, h3⟩ := h c' hc'
    refine ⟨by omega, by omega, fun b' hb' hk' => ?_⟩
    have hne : b' ≠ b := by omega
    rw [hkk b' hne] at hk'
    rw [hcn, if_neg hne]
    exact h3 b' (by omega) hk'
  · simp only [if_neg e]
    obtain ⟨h1, h2, h3⟩ := h c' hc'
    refine ⟨h1, h2, fun b' hb' hk' => ?_⟩
    have hne : b' ≠ b := fun e2 => by subst e2; exact e (by rw [hkb c' hc' hk'])
    rw [hkk b' hne] at hk'
    rw [hcn, if_neg hne]
    exact h3 b' hb' hk'

theorem HintC.takeSlot {s : HS} {cl : Int} (h : s.HintC cl) (a : Nat) : (s.takeSlot a).HintC cl := h
theorem HintC.takeNew {s : HS} {b c : Nat} (hc : isCls c) (hb : b < s.n) (hf : ∀ b', b' < b → s.kind b' ≠ 0) : (s.takeNew b c).HintC b := by
  refine ⟨by omega, by show (b : Int) ≤ s.n; omega, fun b' hb' => ?_⟩
  show upd s.kind b c b' ≠ 0
  rw [upd_other _ _ (by omega)]
  exact hf b' (by omega)
theorem HintC.takeLarge {s : HS} {cl : Int} (h : s.HintC cl) (b : Nat) : (s.takeLarge b).HintC cl := by
  obtain ⟨h1, h2, h3⟩ := h
  refine ⟨h1, h2, fun b' hb' => ?_⟩
  show upd (upd s.kind b (-1)) (b + 1) (-2) b' ≠ 0
  unfold upd
  split
  · decide
  · split
    · decide
    · exact h3 b' hb'
theorem HintC.freeLarge {s : HS} {cl : Int} (h : s.HintC cl) {b : Nat} (hu : s.used (1 + 32 * b) = true) (hk : s.kind b = -1) : (s.free (1 + 32 * b)).2.HintC (min cl b) := by
  obtain ⟨h1, h2, h3⟩ := h
  rw [free_large hu hk]
  refine ⟨by omega, by show min cl (b : Int) ≤ s.n; omega, fun b' hb' => ?_⟩
  show upd (upd s.kind b 0) (b + 1) 0 b' ≠ 0
  rw [upd_other _ _ (by omega), upd_other _ _ (by omega)]
  exact h3 b' (by omega)
theorem HintC.freeSmall {s : HS} {cl : Int} (h : s.HintC cl) {b c j : Nat} (hu : s.used (1 + 32 * b + c * j) = true) (hj : c * j < 32) (hc : isCls c) (hk : s.kind b = (c : Int)) :
    (s.free (1 + 32 * b + c * j)).2.HintC (if s.cnt b = 1 then min cl b else cl) := by
  obtain ⟨h1, h2, h3⟩ := h
  have hd := cnt_drop hc hj hu
  have hcb : s.cnt b = cntF (c : Int) s.used b := by unfold cnt; rw [hk]
  rw [free_small hu hj hc hk]
  refine ⟨by split <;> omega, by show _ ≤ (s.n : Int); split <;> omega, fun b' hb' => ?_⟩
  show (if cntF (c : Int) (upd s.used (1 + 32 * b + c * j) false) b = 0 then upd s.kind b 0 else s.kind) b' ≠ 0
  split
  · rename_i h0
    rw [if_pos (by omega)] at hb'
    rw [upd_other _ _ (by omega)]
    exact h3 b' (by omega)
  · rename_i h0
    rw [if_neg (by omega)] at hb'
    exact h3 b' hb'
end Go.Proofs.Ytjfpijoeddjgmaa.Hm.HS
