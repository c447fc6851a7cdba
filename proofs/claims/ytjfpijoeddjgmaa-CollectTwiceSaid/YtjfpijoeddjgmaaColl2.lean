/- What Collect leaves; errors; how many cells there are. No condition. -/
import Derived.Test.YtjfpijoeddjgmaaSimp
import Derived.Test.YtjfpijoeddjgmaaColl
import Derived.Test.YtjfpijoeddjgmaaGraph
namespace Go.Proofs.Ytjfpijoeddjgmaa
open Go.RowKit Hm
set_option linter.unusedVariables false

structure CollI (cs ks : List Int) (s : HS) (r : HS × Nat × Nat) : Prop where
  wf : r.1.WF
  n : r.1.n = s.n
  kept : r.2.1 = ks.length
  sum : r.2.1 + r.2.2 = cs.length
  used : ∀ a : Nat, r.1.used a = true ↔ s.used a = true ∧ ((a : Int) ∉ cs ∨ (a : Int) ∈ ks)
  cap : ∀ a : Nat, r.1.used a = true → r.1.cap a = s.cap a
  word : ∀ a k : Nat, r.1.used a = true → k < s.cap a → r.1.word (a + k) = s.word (a + k)
theorem coll_law : ∀ (cs ks : List Int) (s : HS), s.WF → cs.Pairwise (· < ·) → ks.Pairwise (· < ·) → (∀ k ∈ ks, k ∈ cs) → (∀ c ∈ cs, ∃ a : Nat, c = a ∧ s.used a = true) → CollI cs ks s (coll cs ks s)
  | [], ks, s, h, _, _, hk, _ => by
    have hks : ks = [] := List.eq_nil_iff_forall_not_mem.2 fun k hk' => by have := hk k hk'; cases this
    subst hks
    exact ⟨h, rfl, rfl, rfl, fun a => by simp [coll], fun a _ => rfl, fun a k _ _ => rfl⟩
  | c :: cs, ks, s, h, hcs, hks, hk, hu => by
    rw [List.pairwise_cons] at hcs
    obtain ⟨a, rfl, hua⟩ := hu c (List.mem_cons_self ..)
    by_cases hkeep : ∃ l, ks = (a : Int) :: l
    · obtain ⟨l, rfl⟩ := hkeep
      rw [List.pairwise_cons] at hks
      have hk2 : ∀ k ∈ l, k ∈ cs := fun k hkl => by
        rcases List.mem_cons.1 (hk k (List.mem_cons_of_mem _ hkl)) with e | e
        · have := hks.1 k hkl; omega
        · exact e
      have ih := coll_law cs l s h hcs.2 hks.2 hk2 (fun c hc => hu c (List.mem_cons_of_mem _ hc))
      rw [coll_keep]
      refine ⟨ih.wf, ih.n, by simp [ih.kept], by have := ih.sum; simp; omega, fun x => ?_, ih.cap, ih.word⟩
      rw [ih.used x]
      refine and_congr_right fun hx => ?_
      by_cases hxa : x = a
      · subst hxa
        refine ⟨fun _ => .inr (List.mem_cons_self ..), fun _ => .inl fun hm => ?_⟩
        have := hcs.1 _ hm; omega
      · have hne : (x : Int) ≠ (a : Int) := by omega
        simp only [List.mem_cons, hne, false_or]
    · have hne : ∀ k l, ks = k :: l → k ≠ (a : Int) := fun k l e h => hkeep ⟨l, by rw [e, h]⟩
      have hak : (a : Int) ∉ ks := fun hm => by
        cases ks with
        | nil => cases hm
        | cons k l =>
          rcases List.mem_cons.1 hm with e | e
          · exact hne k l rfl e.symm
          · rw [List.pairwise_cons] at hks
            have h1 := hks.1 _ e
            rcases List.mem_cons.1 (hk k (List.mem_cons_self ..)) with e2 | e2
            · omega
            · have := hcs.1 _ e2; omega
      have hk2 : ∀ k ∈ ks, k ∈ cs := fun k hkl => by
        rcases List.mem_cons.1 (hk k hkl) with e | e
        · rw [e] at hkl; exact absurd hkl hak
        · exact e
      rw [coll_free hne, Int.toNat_natCast]
      have hg := (HS.free_yes h hua).2
      have hwf := h.free a
      have hu2 : ∀ c ∈ cs, ∃ x : Nat, c = x ∧ (s.free a).2.used x = true := fun c hc => by
        obtain ⟨x, rfl, hx⟩ := hu c (List.mem_cons_of_mem _ hc)
        have := hcs.1 _ hc
        exact ⟨x, rfl, by rw [hg.used, upd_other _ _ (by omega)]; exact hx⟩
      have ih := coll_law cs ks (s.free a).2 hwf hcs.2 hks hk2 hu2
      have hxa : ∀ x : Nat, (coll cs ks (s.free a).2).1.used x = true → x ≠ a ∧ s.used x = true := fun x hx => by
        have h1 := ((ih.used x).1 hx).1
        rw [hg.used] at h1
        by_cases e : x = a
        · subst e; rw [upd_same] at h1; cases h1
        · rw [upd_other _ _ e] at h1; exact ⟨e, h1⟩
      refine ⟨ih.wf, ih.n.trans hg.n, ih.kept, by have := ih.sum; simp; omega, fun x => ?_, fun x hx => ?_, fun x k hx hkk => ?_⟩
      · show (coll cs ks (s.free a).2).1.used x = true ↔ _
        rw [ih.used x, hg.used]
        by_cases e : x = a
        · subst e
          rw [upd_same]
          refine ⟨fun h => (by cases h.1), fun h => ?_⟩
          rcases h.2 with h2 | h2
          · exact absurd (List.mem_cons_self ..) h2
          · exact absurd h2 hak
        · rw [upd_other _ _ e]
          have hne' : (x : Int) ≠ (a : Int) := by omega
          simp only [List.mem_cons, hne', false_or]
      · obtain ⟨h1, h2⟩ := hxa x hx
        exact (ih.cap x hx).trans (hg.caps x h1 h2)
      · obtain ⟨h1, h2⟩ := hxa x hx
        have hc2 := hg.caps x h1 h2
        refine (ih.word x k hx (by rw [hc2]; exact hkk)).trans ?_
        rw [hg.words, if_neg]
        rintro ⟨b1, b2⟩
        rcases Nat.lt_or_gt_of_ne h1 with hl | hl
        · have := h.apart h2 hua hl; omega
        · have := h.apart hua h2 hl; omega

/-! ### Cells -/
theorem cells_pair (u : Nat → Bool) (m : Nat) : (cellsTo u m).Pairwise (· < ·) := by
  unfold cellsTo
  rw [List.pairwise_map]
  refine (List.pairwise_lt_range.filter u).imp fun {a b} h => ?_
  show (a : Int) < (b : Int)
  omega
theorem mem_cells {u : Nat → Bool} {m : Nat} {x : Int} : x ∈ cellsTo u m ↔ ∃ a : Nat, x = a ∧ a < m ∧ u a = true := by
  unfold cellsTo
  rw [List.mem_map]
  constructor
  · rintro ⟨a, ha, rfl⟩
    rw [List.mem_filter, List.mem_range] at ha
    exact ⟨a, rfl, ha.1, ha.2⟩
  · rintro ⟨a, rfl, h1, h2⟩
    exact ⟨a, by rw [List.mem_filter, List.mem_range]; exact ⟨h1, h2⟩, rfl⟩
theorem sorted_pair {l : List Int} (h : l.Nodup) : (sorted l).Pairwise (· < ·) := by
  have tr : ∀ a b c : Int, decide (a ≤ b) = true → decide (b ≤ c) = true → decide (a ≤ c) = true := fun a b c h1 h2 => by simp only [decide_eq_true_eq] at *; omega
  have to' : ∀ a b : Int, (decide (a ≤ b) || decide (b ≤ a)) = true := fun a b => by simp only [Bool.or_eq_true, decide_eq_true_eq]; omega
  have h1 := List.pairwise_mergeSort tr to' l
  have h2 : (sorted l).Nodup := (List.mergeSort_perm l _).nodup_iff.2 h
  unfold List.Nodup at h2
  refine (h1.and h2).imp fun {a b} h => ?_
  have := of_decide_eq_true h.1
  have := h.2
  omega
theorem Net.cells {srt : List Inf} {kinds : Nat} {nds : List Nd} {V : Nat → Nat → Int} {s : HS} (h : Net srt kinds nds V s) : (cellsTo s.used (1 + 32 * s.n)).length = nds.length := by
  have hp : (cellsTo s.used (1 + 32 * s.n)).Perm ((List.range nds.length).map fun j => (adr srt kinds nds j : Int)) := by
    refine (List.perm_ext_iff_of_nodup ?_ ?_).2 fun x => ?_
    · exact (cells_pair _ _).imp fun {a b} h => by omega
    · unfold List.Nodup
      rw [List.pairwise_map]
      refine (List.nodup_range (n := nds.length)).imp_of_mem fun {a b} ha hb hne e => hne ?_
      rw [List.mem_range] at ha hb
      exact h.inj a b ha hb (by omega)
    · rw [mem_cells, List.mem_map]
      constructor
      · rintro ⟨a, rfl, _, h2⟩
        obtain ⟨j, hj, e⟩ := h.all a h2
        exact ⟨j, List.mem_range.2 hj, by rw [e]⟩
      · rintro ⟨j, hj, rfl⟩
        rw [List.mem_range] at hj
        have := (h.wf.in_ (h.used j hj)).2
        have := h.wf.cap_pos (h.used j hj)
        exact ⟨_, rfl, by omega, h.used j hj⟩
  rw [hp.length_eq]; simp

/-! ### The error -/
def E12 (m : MK) : Prop := m.e = 0 ∨ m.e = 12
theorem E12.look {srt : List Inf} {m : MK} {a : Int} (h : E12 m) : E12 (m.look srt a) := by
  by_cases hok : okAt srt m.s a
  · rw [look_ok hok]; exact h
  · rw [look_bad hok]
    unfold E12 MK.fail at *
    simp only
    rcases h with h | h
    · rw [if_pos h]; exact .inr rfl
    · rw [if_neg (by omega)]; exact .inr h
theorem E12.aim {srt : List Inf} {m : MK} {a l q : Int} (h : E12 m) : E12 (m.aim srt a l q) := by unfold E12; rw [aim_e]; exact h
theorem Rch.e12 {srt : List Inf} {q p : Int} {seen : List Int} {m m' : MK} {r : Bool} (h : Rch srt q seen p m r m') : E12 m → E12 m' := by
  induction h with
  | stop h => exact id
  | no h hk => exact E12.look
  | go h hk hn ih => exact ih
theorem Thr.e12 {srt : List Inf} {d : Nat} {p r : Int} {seen : List Int} {m m' : MK} (h : Thr srt d seen p m r m') : E12 m → E12 m' := by
  induction h with
  | stop h => exact id
  | bad h hb => exact E12.look
  | ind h ok hk hn ih => exact ih
  | plain h ok hk hp => exact id
  | none h ok hk hp h1 ih => exact fun he => (ih he).aim
  | cant h ok hk hp h1 hq hc ih => exact fun he => (ih he).aim.look
  | ring h ok hk hp h1 hq hc hr ih => exact fun he => hr.e12 (ih he).aim
  | go h ok hk hp h1 hq hc hr hn ih1 ih2 => exact fun he => ih2 (hr.e12 (ih1 he).aim)
theorem Rea.e12 {srt : List Inf} {most a r : Int} {m m' : MK} (h : Rea srt most a m r m') (he : E12 m) : E12 m' := by
  cases h with
  | old h ho => exact h.e12 he
  | new h ho => unfold E12; rw [note_e]; exact h.e12 he
theorem Bel.e12 {srt : List Inf} {most a : Int} {i : Nat} {l : List Int} {m m' : MK} (h : Bel srt most a i l m m') : E12 m → E12 m' := by
  induction h with
  | nil => exact id
  | cons h hn ih =>
    intro he
    refine ih ?_
    split
    · exact h.e12 he
    · exact h.e12 he
theorem Dra.e12 {srt : List Inf} {most : Int} {m m' : MK} (h : Dra srt most m m') : E12 m → E12 m' := by
  induction h with
  | stop h => exact id
  | step hw he h hn ih => exact fun hi => ih (Bel.e12 h (E12.look (show E12 _ from hi)))
theorem Rts.e12 {srt : List Inf} {most : Int} {l os : List Int} {m m' : MK} (h : Rts srt most l m os m') : E12 m → E12 m' := by
  induction h with
  | nil => exact id
  | cons h hd hn ih => exact fun he => ih (hd.e12 (h.e12 he))
theorem Swp.e12 {srt : List Inf} {most : Int} {l : List Int} {m m' : MK} (h : Swp srt most l m m') : E12 m → E12 m' := by
  induction h with
  | nil => exact id
  | cons h hd hn ih => exact fun he => ih (hd.e12 (Bel.e12 h he.look))
theorem Agn.e12 {srt : List Inf} {most : Int} {m m' : MK} (h : Agn srt most m m') : E12 m → E12 m' := by
  induction h with
  | stop h => exact id
  | step ho he h hn ih => exact fun hi => ih (h.e12 (show E12 _ from hi))
theorem Rds.e12 {srt : List Inf} {most : Int} {roots o o' : List Int} {m m' : MK} (h : Rds srt most roots o m o' m') : E12 m → E12 m' := by
  induction h with
  | stop h => exact id
  | step hm he h hn ih =>
    obtain ⟨m1, h1, h2⟩ := h
    exact fun hi => ih (h2.e12 (h1.e12 (show E12 _ from hi)))
end Go.Proofs.Ytjfpijoeddjgmaa
