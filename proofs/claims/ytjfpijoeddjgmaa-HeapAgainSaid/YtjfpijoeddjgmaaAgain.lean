/- Law 16, HeapAgain, its plain part: cells of any sizes, filled, read, given back: then the heap is empty again. No condition. -/
import Derived.Test.YtjfpijoeddjgmaaHm3
namespace Go.Proofs.Ytjfpijoeddjgmaa.Hm
open Go.RowKit
set_option linter.unusedVariables false
namespace HS
def fill (s : HS) (a i : Nat) : Nat → HS
  | 0 => s
  | k + 1 => (fill s a i k).write a k (1000 * i + k + 1)
theorem fill_used (s : HS) (a i : Nat) : ∀ k, (fill s a i k).used = s.used
  | 0 => rfl
  | k + 1 => fill_used s a i k
theorem fill_kind (s : HS) (a i : Nat) : ∀ k, (fill s a i k).kind = s.kind
  | 0 => rfl
  | k + 1 => fill_kind s a i k
theorem fill_n (s : HS) (a i : Nat) : ∀ k, (fill s a i k).n = s.n
  | 0 => rfl
  | k + 1 => fill_n s a i k
theorem fill_cap (s : HS) (a i k x : Nat) : (fill s a i k).cap x = s.cap x := cap_kinds (by rw [fill_used]) (by rw [fill_kind])
theorem fill_word (s : HS) (a i : Nat) : ∀ k y, (fill s a i k).word y = if a ≤ y ∧ y < a + k then 1000 * (i : Int) + ((y - a : Nat) : Int) + 1 else s.word y
  | 0, y => by rw [if_neg (by omega)]; rfl
  | k + 1, y => by
    show upd (fill s a i k).word (a + k) (1000 * (i : Int) + k + 1) y = _
    unfold upd
    by_cases h : y = a + k
    · rw [if_pos h, if_pos (by omega)]; subst h; rw [show a + k - a = k by omega]
    · rw [if_neg h, fill_word s a i k y]
      by_cases h2 : a ≤ y ∧ y < a + k
      · rw [if_pos h2, if_pos (by omega)]
      · rw [if_neg h2, if_neg (by omega)]
theorem fill_wf {s : HS} (h : s.WF) (a i : Nat) (hi : i < 1000) : ∀ k, k ≤ s.cap a → (fill s a i k).WF
  | 0, _ => h
  | k + 1, hk => (fill_wf h a i hi k (by omega)).write (by rw [fill_cap]; omega) (by have := h.cap_le a; omega)

/-- The heap behind i allocations, each cell filled; where the i-th lies (0: nowhere). -/
def st (n : Nat) (zs : List Int) : Nat → HS
  | 0 => empty n
  | i + 1 => fill ((st n zs i).alloc (1 + zs.getD i 0 % 64)).2.2 ((st n zs i).alloc (1 + zs.getD i 0 % 64)).1 i (((st n zs i).alloc (1 + zs.getD i 0 % 64)).2.2.cap ((st n zs i).alloc (1 + zs.getD i 0 % 64)).1)
def ad (n : Nat) (zs : List Int) (i : Nat) : Nat := ((st n zs i).alloc (1 + zs.getD i 0 % 64)).1

structure StI (n : Nat) (zs : List Int) (i : Nat) : Prop where
  wf : (st n zs i).WF
  cnt : (st n zs i).n = n
  cell : ∀ j, j < i → ad n zs j = 0 ∨ ((st n zs i).used (ad n zs j) = true ∧ ∀ k, k < (st n zs i).cap (ad n zs j) → (st n zs i).word (ad n zs j + k) = 1000 * (j : Int) + k + 1)
  inj : ∀ j j', j < i → j' < i → ad n zs j = ad n zs j' → ad n zs j ≠ 0 → j = j'
  all : ∀ x, (st n zs i).used x = true → ∃ j, j < i ∧ ad n zs j = x

theorem WF.zero_unused {s : HS} (h : s.WF) : s.used 0 = false := by
  cases hu : s.used 0 with
  | false => rfl
  | true => have := (h.in_ hu).1; omega

theorem stI (n : Nat) (zs : List Int) : ∀ i, i < 1000 → StI n zs i
  | 0, _ => ⟨empty_wf n, rfl, fun j hj => by omega, fun j _ hj => by omega, fun x hx => by cases hx⟩
  | i + 1, hi => by
    have I := stI n zs i (by omega)
    have hst : st n zs (i + 1) = fill ((st n zs i).alloc (1 + zs.getD i 0 % 64)).2.2 (ad n zs i) i (((st n zs i).alloc (1 + zs.getD i 0 % 64)).2.2.cap (ad n zs i)) := rfl
    have hwf := I.wf.alloc (1 + zs.getD i 0 % 64)
    rcases alloc_cases I.wf (1 + zs.getD i 0 % 64) with ⟨h1, h2, h3⟩ | ⟨h1, _, _, h2, h3⟩
    · have ha : ad n zs i = 0 := h2
      rw [h3] at hst hwf
      rw [ha, cap_none hwf.zero_unused] at hst
      have hs : st n zs (i + 1) = st n zs i := hst
      refine ⟨by rw [hs]; exact I.wf, by rw [hs]; exact I.cnt, fun j hj => ?_, fun j j' hj hj' e hne => ?_, fun x hx => ?_⟩
      · by_cases he : j = i
        · subst he; exact .inl ha
        · rw [hs]; exact I.cell j (by omega)
      · by_cases he : j = i
        · subst he; exact absurd ha hne
        · by_cases he' : j' = i
          · subst he'; rw [ha] at e; exact absurd e hne
          · exact I.inj j j' (by omega) (by omega) e hne
      · rw [hs] at hx
        obtain ⟨j, hj, e⟩ := I.all x hx
        exact ⟨j, by omega, e⟩
    · have had : ((st n zs i).alloc (1 + zs.getD i 0 % 64)).1 = ad n zs i := rfl
      rw [had] at h2 h3
      generalize ((st n zs i).alloc (1 + zs.getD i 0 % 64)).2.2 = t at *
      have hu : ∀ x, (st n zs (i + 1)).used x = upd (st n zs i).used (ad n zs i) true x := fun x => by rw [hst, fill_used, h2.used]
      have hcap : ∀ x, (st n zs (i + 1)).cap x = t.cap x := fun x => by rw [hst, fill_cap]
      have hpos := h2.pos
      have hwf2 : (st n zs (i + 1)).WF := by rw [hst]; exact fill_wf hwf _ i (by omega) _ (Nat.le_refl _)
      have hnot : ∀ j, j < i → ad n zs j = ad n zs i → False := fun j hj e => by
        rcases I.cell j hj with h | ⟨h, _⟩
        · omega
        · rw [e, h2.fresh] at h; cases h
      have hua : (st n zs (i + 1)).used (ad n zs i) = true := by rw [hu, upd_same]
      refine ⟨hwf2, by rw [hst, fill_n, h2.n]; exact I.cnt, fun j hj => ?_, fun j j' hj hj' e hne => ?_, fun x hx => ?_⟩
      · by_cases he : j = i
        · subst he
          refine .inr ⟨hua, fun k hk => ?_⟩
          rw [hcap] at hk
          rw [hst, fill_word, if_pos (by omega), show ad n zs j + k - ad n zs j = k by omega]
        · rcases I.cell j (by omega) with h | ⟨h, h'⟩
          · exact .inl h
          · have hne : ad n zs j ≠ ad n zs i := fun e => hnot j (by omega) e
            have huj : (st n zs (i + 1)).used (ad n zs j) = true := by rw [hu, upd_other _ _ hne]; exact h
            refine .inr ⟨huj, fun k hk => ?_⟩
            have hk2 := hk
            rw [hcap, h2.caps _ h] at hk2
            rw [← h' k hk2, hst, fill_word, h2.word, if_neg]
            rintro ⟨a1, a2⟩
            rcases Nat.lt_or_gt_of_ne hne with hl | hl
            · have := hwf2.apart huj hua hl
              omega
            · have := hwf2.apart hua huj hl
              rw [hcap] at this
              omega
      · by_cases he : j = i
        · by_cases he' : j' = i
          · omega
          · subst he; exact (hnot j' (by omega) e.symm).elim
        · by_cases he' : j' = i
          · subst he'; exact (hnot j (by omega) e).elim
          · exact I.inj j j' (by omega) (by omega) e hne
      · rw [hu] at hx
        by_cases he : x = ad n zs i
        · exact ⟨i, by omega, he.symm⟩
        · rw [upd_other _ _ he] at hx
          obtain ⟨j, hj, e⟩ := I.all x hx
          exact ⟨j, by omega, e⟩

/-- While the i-th cell is filled: its next word is 0. -/
theorem fill_next {n : Nat} {zs : List Int} {i k : Nat} (hi : i < 1000) (hk : k < ((st n zs i).alloc (1 + zs.getD i 0 % 64)).2.2.cap (ad n zs i)) :
    (fill ((st n zs i).alloc (1 + zs.getD i 0 % 64)).2.2 (ad n zs i) i k).word (ad n zs i + k) = 0 := by
  have I := stI n zs i hi
  have hwf := I.wf.alloc (1 + zs.getD i 0 % 64)
  rw [fill_word, if_neg (by omega)]
  rcases alloc_cases I.wf (1 + zs.getD i 0 % 64) with ⟨h1, h2, h3⟩ | ⟨h1, _, _, h2, h3⟩
  · rw [show ad n zs i = 0 from h2, h3, cap_none I.wf.zero_unused] at hk; omega
  · exact h2.zero I.wf hwf hk
theorem err_iff {n : Nat} {zs : List Int} {i : Nat} (hi : i < 1000) : ((st n zs i).alloc (1 + zs.getD i 0 % 64)).2.1 ≠ 0 → ad n zs i = 0 := by
  intro h
  rcases alloc_cases (stI n zs i hi).wf (1 + zs.getD i 0 % 64) with ⟨h1, h2, h3⟩ | ⟨h1, _⟩
  · exact h2
  · exact absurd h1 h

/-- All given back, one behind the other. -/
def back (n : Nat) (zs : List Int) (m : Nat) : Nat → HS
  | 0 => st n zs m
  | j + 1 => ((back n zs m j).free (ad n zs j)).2
structure BackI (n : Nat) (zs : List Int) (m j : Nat) : Prop where
  wf : (back n zs m j).WF
  cnt : (back n zs m j).n = n
  used : ∀ x, (back n zs m j).used x = true ↔ x ≠ 0 ∧ ∃ i, j ≤ i ∧ i < m ∧ ad n zs i = x
theorem backI (n : Nat) (zs : List Int) (m : Nat) (hm : m < 1000) : ∀ j, j ≤ m → BackI n zs m j
  | 0, _ => by
    have I := stI n zs m hm
    refine ⟨I.wf, I.cnt, fun x => ⟨fun hx => ?_, fun ⟨h0, i, _, hi, e⟩ => ?_⟩⟩
    · obtain ⟨j, hj, e⟩ := I.all x hx
      exact ⟨by have := (I.wf.in_ hx).1; omega, j, by omega, hj, e⟩
    · rcases I.cell i hi with h | ⟨h, _⟩
      · omega
      · subst e; exact h
  | j + 1, hj => by
    have I := stI n zs m hm
    have J := backI n zs m hm j (by omega)
    have hwf := J.wf.free (ad n zs j)
    by_cases h0 : ad n zs j = 0
    · have hb : back n zs m (j + 1) = back n zs m j := by
        show ((back n zs m j).free (ad n zs j)).2 = _
        rw [h0, free_no J.wf.zero_unused]
      refine ⟨by rw [hb]; exact J.wf, by rw [hb]; exact J.cnt, fun x => ?_⟩
      rw [hb, J.used]
      refine and_congr_right fun hx => ⟨fun ⟨i, h1, h2, h3⟩ => ⟨i, ?_, h2, h3⟩, fun ⟨i, h1, h2, h3⟩ => ⟨i, by omega, h2, h3⟩⟩
      rcases Nat.lt_or_eq_of_le h1 with h | rfl
      · exact h
      · omega
    · have hu : (back n zs m j).used (ad n zs j) = true := (J.used _).2 ⟨h0, j, Nat.le_refl _, by omega, rfl⟩
      have hg := (free_yes J.wf hu).2
      refine ⟨hwf, hg.n.trans J.cnt, fun x => ?_⟩
      show ((back n zs m j).free (ad n zs j)).2.used x = true ↔ _
      rw [hg.used]
      unfold upd
      by_cases hx : x = ad n zs j
      · rw [if_pos hx]
        refine ⟨fun h => (by cases h), fun ⟨_, i, h1, h2, h3⟩ => ?_⟩
        have := I.inj i j h2 (by omega) (by omega) (by omega)
        omega
      · rw [if_neg hx, J.used]
        refine and_congr_right fun _ => ⟨fun ⟨i, h1, h2, h3⟩ => ⟨i, ?_, h2, h3⟩, fun ⟨i, h1, h2, h3⟩ => ⟨i, by omega, h2, h3⟩⟩
        rcases Nat.lt_or_eq_of_le h1 with h | rfl
        · exact h
        · exact absurd h3.symm hx
theorem back_ok {n : Nat} {zs : List Int} {m j : Nat} (hm : m < 1000) (hj : j < m) : ((back n zs m j).free (ad n zs j)).1 = if 0 < ad n zs j then 0 else 1 := by
  have J := backI n zs m hm j (by omega)
  by_cases h0 : ad n zs j = 0
  · rw [if_neg (by omega), h0, free_no J.wf.zero_unused]
  · rw [if_pos (by omega)]; exact (free_yes J.wf ((J.used _).2 ⟨h0, j, Nat.le_refl _, by omega, rfl⟩)).1
theorem back_all (n : Nat) (zs : List Int) (m : Nat) (hm : m < 1000) : back n zs m m = empty n := by
  have J := backI n zs m hm m (Nat.le_refl _)
  have := J.wf.eq_empty fun a => by
    cases hu : (back n zs m m).used a with
    | false => rfl
    | true => obtain ⟨_, i, h1, h2, _⟩ := (J.used a).1 hu; omega
  rw [this, J.cnt]
end HS
/-- The list of where the first i cells lie. -/
def atl (n : Nat) (zs : List Int) (i : Nat) : List Int := (List.range i).map fun j => (HS.ad n zs j : Int)
theorem atl_len (n : Nat) (zs : List Int) (i : Nat) : (atl n zs i).length = i := by simp [atl]
theorem atl_get (n : Nat) (zs : List Int) {i j : Nat} (h : j < i) : (atl n zs i).getD j 0 = HS.ad n zs j := by simp [atl, List.getD_eq_getElem?_getD, h]
theorem atl_succ (n : Nat) (zs : List Int) (i : Nat) : atl n zs (i + 1) = atl n zs i ++ [(HS.ad n zs i : Int)] := by simp [atl, List.range_succ]
end Go.Proofs.Ytjfpijoeddjgmaa.Hm
