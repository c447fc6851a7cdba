/- Mark's last round, in which nothing moves: what is seen is what is reached then. Conditions: as each says. -/
import Derived.Test.YtjfpijoeddjgmaaTerm
namespace Go.Proofs.Ytjfpijoeddjgmaa
open Go.RowKit Hm
set_option linter.unusedVariables false

/-! ### Once moved, moved -/
theorem aim_mv {srt : List Inf} {m : MK} {a l q : Int} (h : (m.aim srt a l q).moved = false) : m.moved = false ∧ (m.aim srt a l q).s = m.s ∧ (q = l ∨ m.e ≠ 0) := by
  unfold MK.aim at h ⊢
  by_cases hc : q ≠ l ∧ m.e = 0
  · rw [if_pos hc] at h; cases h
  · rw [if_neg hc] at h ⊢
    refine ⟨h, rfl, ?_⟩
    by_cases hq : q = l
    · exact .inl hq
    · exact .inr fun he => hc ⟨hq, he⟩
theorem Thr.mv {srt : List Inf} {d : Nat} {seen : List Int} {p r : Int} {m m' : MK} (h : Thr srt d seen p m r m') : m'.moved = false → m.moved = false ∧ m'.s = m.s := by
  induction h with
  | stop h => exact fun h => ⟨h, rfl⟩
  | bad h hb => exact fun h => ⟨by rw [look_moved] at h; exact h, look_s _ _ _⟩
  | ind h ok hk hn ih => exact ih
  | plain h ok hk hp => exact fun h => ⟨h, rfl⟩
  | none h ok hk hp h1 ih =>
    intro hm
    obtain ⟨k1, k2, _⟩ := aim_mv hm
    exact ⟨(ih k1).1, k2.trans (ih k1).2⟩
  | cant h ok hk hp h1 hq hc ih =>
    intro hm
    rw [look_moved] at hm
    obtain ⟨k1, k2, _⟩ := aim_mv hm
    exact ⟨(ih k1).1, by rw [look_s, k2, (ih k1).2]⟩
  | ring h ok hk hp h1 hq hc hr ih =>
    intro hm
    rw [hr.kept.2.2] at hm
    obtain ⟨k1, k2, _⟩ := aim_mv hm
    exact ⟨(ih k1).1, by rw [hr.kept.2.1, k2, (ih k1).2]⟩
  | go h ok hk hp h1 hq hc hr hn ih1 ih2 =>
    intro hm
    have := (ih2 hm).1
    cases this
theorem note_s (most : Int) (m : MK) (r : Int) : (m.note most r).s = m.s := by unfold MK.note; split <;> rfl
theorem note_moved (most : Int) (m : MK) (r : Int) : (m.note most r).moved = m.moved := by unfold MK.note; split <;> rfl
theorem Rea.mv {srt : List Inf} {most p r : Int} {m m' : MK} (h : Rea srt most p m r m') (hm : m'.moved = false) : m.moved = false ∧ m'.s = m.s := by
  cases h with
  | old h ho => exact h.mv hm
  | new h ho =>
    rw [note_moved] at hm
    rw [note_s]
    exact h.mv hm
theorem Bel.mv {srt : List Inf} {most a : Int} {i : Nat} {l : List Int} {m m' : MK} (h : Bel srt most a i l m m') : m'.moved = false → m.moved = false ∧ m'.s = m.s := by
  induction h with
  | nil => exact fun h => ⟨h, rfl⟩
  | cons h hn ih =>
    intro hm
    have h1 := ih hm
    split at h1
    · cases h1.1
    · obtain ⟨k1, k2⟩ := h.mv h1.1
      exact ⟨k1, h1.2.trans k2⟩
theorem Below'.mv {srt : List Inf} {most a : Int} {m m' : MK} (h : Below' srt most a m m') (hm : m'.moved = false) : m.moved = false ∧ m'.s = m.s := by
  obtain ⟨k1, k2⟩ := Bel.mv h hm
  rw [look_moved] at k1
  rw [look_s] at k2
  exact ⟨k1, k2⟩
theorem Dra.mv {srt : List Inf} {most : Int} {m m' : MK} (h : Dra srt most m m') : m'.moved = false → m.moved = false ∧ m'.s = m.s := by
  induction h with
  | stop h => exact fun h => ⟨h, rfl⟩
  | step hw he h hn ih =>
    intro hm
    obtain ⟨k1, k2⟩ := Below'.mv h (ih hm).1
    exact ⟨k1, (ih hm).2.trans k2⟩
theorem Rts.mv {srt : List Inf} {most : Int} {l os : List Int} {m m' : MK} (h : Rts srt most l m os m') : m'.moved = false → m.moved = false ∧ m'.s = m.s := by
  induction h with
  | nil => exact fun h => ⟨h, rfl⟩
  | cons h hd hn ih =>
    intro hm
    obtain ⟨k1, k2⟩ := hd.mv (ih hm).1
    obtain ⟨l1, l2⟩ := h.mv k1
    exact ⟨l1, ((ih hm).2.trans k2).trans l2⟩
theorem Swp.mv {srt : List Inf} {most : Int} {l : List Int} {m m' : MK} (h : Swp srt most l m m') : m'.moved = false → m.moved = false ∧ m'.s = m.s := by
  induction h with
  | nil => exact fun h => ⟨h, rfl⟩
  | cons h hd hn ih =>
    intro hm
    obtain ⟨k1, k2⟩ := hd.mv (ih hm).1
    obtain ⟨l1, l2⟩ := Below'.mv h k1
    exact ⟨l1, ((ih hm).2.trans k2).trans l2⟩
theorem Agn.mv {srt : List Inf} {most : Int} {m m' : MK} (h : Agn srt most m m') : m'.moved = false → m.moved = false ∧ m'.s = m.s := by
  induction h with
  | stop h => exact fun h => ⟨h, rfl⟩
  | step ho he h hn ih =>
    intro hm
    obtain ⟨k1, k2⟩ := h.mv (ih hm).1
    exact ⟨k1, (ih hm).2.trans k2⟩

/-! ### What is seen -/
/-- What a pointer tells of, while nothing moves. -/
def TF (srt : List Inf) (s : HS) (p r : Int) : Prop := ∃ ma mb, Thr srt 0 [] p ma r mb ∧ ma.s = s ∧ mb.s = s ∧ mb.moved = false ∧ ma.e = 0 ∧ mb.e = 0
structure LI (srt : List Inf) (s : HS) (G : Int → Prop) (pend : List Int) (m : MK) : Prop where
  st : m.s = s
  e : m.e = 0
  sound : ∀ x ∈ m.seen, G x ∧ x ≠ 0
  wait : ∀ x ∈ m.wait, x ∈ m.seen
  comp : m.over = true ∨ ∀ x ∈ m.seen, x ∈ m.wait ∨ x ∈ pend ∨ ∀ q ∈ ptrAt srt s x, q ≠ 0 → q ∈ m.seen
section
variable {srt : List Inf} {most : Int} {s : HS} {G : Int → Prop}
theorem LI.kept {pend : List Int} {m m' : MK} (h : LI srt s G pend m) (k : Kept m m') (hs : m'.s = m.s) (he : m'.e = 0) : LI srt s G pend m' :=
  ⟨hs.trans h.st, he, by rw [k.seen]; exact h.sound, by rw [k.wait, k.seen]; exact h.wait, by rw [k.over, k.wait, k.seen]; exact h.comp⟩
theorem Rea.lst {pend : List Int} {p r : Int} {m m' : MK} (h : Rea srt most p m r m') (hI : LI srt s G pend m) (he : m'.e = 0) (hm : m'.moved = false) (hr : r ≠ 0 → TF srt s p r → G r) :
    LI srt s G pend m' ∧ TF srt s p r ∧ (∀ x ∈ m.seen, x ∈ m'.seen) ∧ (r ≠ 0 → r ∈ m'.seen) := by
  cases h with
  | old h ho =>
    have hk := h.kept
    obtain ⟨k1, k2⟩ := h.mv hm
    refine ⟨hI.kept hk k2 he, ⟨m, m', h, hI.st, k2.trans hI.st, hm, hI.e, he⟩, fun x hx => by rw [hk.seen]; exact hx, fun h0 => ?_⟩
    rcases ho with h1 | h1 | h1
    · exact absurd h1 h0
    · exact h1
    · exact absurd he h1
  | new h ho =>
    rename_i m1
    rw [note_e] at he
    rw [note_moved] at hm
    have hk := h.kept
    obtain ⟨k1, k2⟩ := h.mv hm
    have h1 := hI.kept hk k2 he
    have hT : TF srt s p r := ⟨m, m1, h, hI.st, k2.trans hI.st, hm, hI.e, he⟩
    have h0 : r ≠ 0 := fun h => ho (.inl h)
    have hsound : ∀ x ∈ m1.seen ++ [r], G x ∧ x ≠ 0 := fun x hx => by
      rcases List.mem_append.1 hx with hx | hx
      · exact h1.sound x hx
      · rw [List.mem_singleton] at hx; subst hx; exact ⟨hr h0 hT, h0⟩
    refine ⟨?_, hT, ?_, ?_⟩
    · unfold MK.note
      split
      · exact ⟨h1.st, h1.e, hsound, fun x hx => List.mem_append_left _ (h1.wait x hx), .inl rfl⟩
      · refine ⟨h1.st, h1.e, hsound, fun x hx => ?_, h1.comp.imp id fun hc x hx => ?_⟩
        · rcases List.mem_append.1 hx with hx | hx
          · exact List.mem_append_left _ (h1.wait x hx)
          · exact List.mem_append_right _ hx
        · rcases List.mem_append.1 hx with hx | hx
          · rcases hc x hx with h | h | h
            · exact .inl (List.mem_append_left _ h)
            · exact .inr (.inl h)
            · exact .inr (.inr fun q hq hq0 => List.mem_append_left _ (h q hq hq0))
          · exact .inl (List.mem_append_right _ hx)
    · unfold MK.note
      split <;> exact fun x hx => List.mem_append_left _ (by rw [hk.seen]; exact hx)
    · unfold MK.note
      split <;> exact fun _ => List.mem_append_right _ (List.mem_singleton_self _)
theorem Bel.lst {pend : List Int} {p : Int} {i : Nat} {l : List Int} {m m' : MK} (h : Bel srt most p i l m m') : LI srt s G pend m → (∀ q ∈ l, q ≠ 0 → TF srt s q q → G q) → m'.e = 0 → m'.moved = false →
    LI srt s G pend m' ∧ (∀ x ∈ m.seen, x ∈ m'.seen) ∧ ∀ q ∈ l, q ≠ 0 → q ∈ m'.seen := by
  induction h with
  | nil => exact fun hI _ _ _ => ⟨hI, fun _ h => h, fun q hq => by cases hq⟩
  | @cons i q l m r m1 m' h hn ih =>
    intro hI hG he hm
    have he1 := hn.e0 he
    have hm1 := (hn.mv hm).1
    by_cases hc : r ≠ q ∧ m1.e = 0
    · rw [if_pos hc] at hm1; cases hm1
    · rw [if_neg hc] at he1 hm1 ih
      have hrq : r = q := Classical.byContradiction fun hne => hc ⟨hne, he1⟩
      subst hrq
      obtain ⟨h1, _, h3, h4⟩ := h.lst hI he1 hm1 (hG r (List.mem_cons_self ..))
      obtain ⟨k1, k2, k3⟩ := ih h1 (fun q hq => hG q (List.mem_cons_of_mem _ hq)) he hm
      refine ⟨k1, fun x hx => k2 x (h3 x hx), fun q' hq' hq0 => ?_⟩
      rcases List.mem_cons.1 hq' with rfl | hq'
      · exact k2 _ (h4 hq0)
      · exact k3 q' hq' hq0
variable (hB : ∀ x, G x → ∀ q ∈ ptrAt srt s x, q ≠ 0 → TF srt s q q → G q)
include hB
theorem Below'.lst {pend : List Int} {p : Int} {m m' : MK} (h : Below' srt most p m m') (hI : LI srt s G (p :: pend) m) (hp : G p) (he : m'.e = 0) (hm : m'.moved = false) : LI srt s G pend m' ∧ (∀ x ∈ m.seen, x ∈ m'.seen) := by
  have hl := look_id (h.e0 he)
  unfold Below' at h
  rw [hl, hI.st] at h
  obtain ⟨h1, h2, h3⟩ := Bel.lst h hI (hB p hp) he hm
  refine ⟨⟨h1.st, h1.e, h1.sound, h1.wait, h1.comp.imp id fun hc x hx => ?_⟩, h2⟩
  rcases hc x hx with h | h | h
  · exact .inl h
  · rcases List.mem_cons.1 h with rfl | h
    · exact .inr (.inr h3)
    · exact .inr (.inl h)
  · exact .inr (.inr h)
theorem Dra.lst {m m' : MK} (h : Dra srt most m m') {pend : List Int} : LI srt s G pend m → m'.e = 0 → m'.moved = false → LI srt s G pend m' ∧ m'.wait = [] ∧ ∀ x ∈ m.seen, x ∈ m'.seen := by
  induction h with
  | stop h => exact fun hI he _ => ⟨hI, h.resolve_right fun hn => hn he, fun _ h => h⟩
  | @step m ws p m1 m' hw he0 h hn ih =>
    intro hI he hm
    have he1 := hn.e0 he
    have hm1 := (hn.mv hm).1
    have hp : p ∈ m.seen := hI.wait p (by rw [hw]; exact List.mem_append_right _ (List.mem_singleton_self _))
    have hI2 : LI srt s G (p :: pend) { m with wait := ws } := by
      refine ⟨hI.st, hI.e, hI.sound, fun x hx => hI.wait x (by rw [hw]; exact List.mem_append_left _ hx), hI.comp.imp id fun hc x hx => ?_⟩
      rcases hc x hx with h | h | h
      · rw [hw] at h
        rcases List.mem_append.1 h with h | h
        · exact .inl h
        · rw [List.mem_singleton] at h; subst h; exact .inr (.inl (List.mem_cons_self ..))
      · exact .inr (.inl (List.mem_cons_of_mem _ h))
      · exact .inr (.inr h)
    obtain ⟨h1, h2⟩ := Below'.lst hB h hI2 (hI.sound p hp).1 he1 hm1
    obtain ⟨h3, h4, h5⟩ := ih h1 he hm
    exact ⟨h3, h4, fun x hx => h5 x (h2 x hx)⟩
theorem Rts.lst {l os : List Int} {m m' : MK} (h : Rts srt most l m os m') : LI srt s G [] m → m.wait = [] → (∀ p ∈ l, ∀ o ∈ os, o ≠ 0 → TF srt s p o → G o) → m'.e = 0 → m'.moved = false →
    LI srt s G [] m' ∧ m'.wait = [] ∧ (∀ x ∈ m.seen, x ∈ m'.seen) ∧ (∀ o ∈ os, o ≠ 0 → o ∈ m'.seen) ∧ os.length = l.length ∧ ∀ i, i < l.length → TF srt s (l.getD i 0) (os.getD i 0) := by
  induction h with
  | nil => exact fun hI hw _ _ _ => ⟨hI, hw, fun _ h => h, fun r hr => (by cases hr), rfl, fun i hi => absurd hi (Nat.not_lt_zero _)⟩
  | @cons r rs m o m1 m2 os m' h hd hn ih =>
    intro hI hw hG he hm
    have he2 := hn.e0 he
    have hm2 := (hn.mv hm).1
    have he1 := hd.e0 he2
    have hm1 := (hd.mv hm2).1
    obtain ⟨h1, h2, h3, h4⟩ := h.lst hI he1 hm1 (hG r (List.mem_cons_self ..) o (List.mem_cons_self ..))
    obtain ⟨k1, k2, k3⟩ := Dra.lst hB hd h1 he2 hm2
    obtain ⟨l1, l2, l3, l4, l5, l6⟩ := ih k1 k2 (fun p hp o ho => hG p (List.mem_cons_of_mem _ hp) o (List.mem_cons_of_mem _ ho)) he hm
    refine ⟨l1, l2, fun x hx => l3 x (k3 x (h3 x hx)), fun o' ho' h0 => ?_, by rw [List.length_cons, List.length_cons, l5], fun i hi => ?_⟩
    · rcases List.mem_cons.1 ho' with rfl | ho'
      · exact l3 _ (k3 _ (h4 h0))
      · exact l4 o' ho' h0
    · match i, hi with
      | 0, _ => exact h2
      | i + 1, hi => exact l6 i (by simpa using hi)
theorem Swp.lst {l : List Int} {m m' : MK} (h : Swp srt most l m m') : LI srt s G l m → m.wait = [] → (∀ p ∈ l, G p) → m'.e = 0 → m'.moved = false → LI srt s G [] m' ∧ m'.wait = [] ∧ ∀ x ∈ m.seen, x ∈ m'.seen := by
  induction h with
  | nil => exact fun hI hw _ _ _ => ⟨hI, hw, fun _ h => h⟩
  | cons h hd hn ih =>
    intro hI hw hR he hm
    have he2 := hn.e0 he
    have hm2 := (hn.mv hm).1
    have he1 := hd.e0 he2
    have hm1 := (hd.mv hm2).1
    obtain ⟨h1, h2⟩ := Below'.lst hB h hI (hR _ (List.mem_cons_self ..)) he1 hm1
    obtain ⟨h3, h4, h5⟩ := Dra.lst hB hd h1 he2 hm2
    obtain ⟨h6, h7, h8⟩ := ih h3 h4 (fun r hr => hR r (List.mem_cons_of_mem _ hr)) he hm
    exact ⟨h6, h7, fun x hx => h8 x (h5 x (h2 x hx))⟩
theorem Agn.lst {m m' : MK} (h : Agn srt most m m') : LI srt s G [] m → m.wait = [] → m'.e = 0 → m'.moved = false → LI srt s G [] m' ∧ m'.wait = [] ∧ m'.over = false ∧ ∀ x ∈ m.seen, x ∈ m'.seen := by
  induction h with
  | stop h => exact fun hI hw he _ => ⟨hI, hw, h.resolve_right fun hn => hn he, fun _ h => h⟩
  | @step m m1 m' ho he0 h hn ih =>
    intro hI hw he hm
    have he1 := hn.e0 he
    have hm1 := (hn.mv hm).1
    have hI2 : LI srt s G (sorted m.seen) { m with over := false } := ⟨hI.st, hI.e, hI.sound, hI.wait, .inr fun x hx => .inr (.inl (mem_sorted.2 hx))⟩
    obtain ⟨h1, h2, h3⟩ := Swp.lst hB h hI2 hw (fun p hp => (hI.sound p (mem_sorted.1 hp)).1) he1 hm1
    obtain ⟨h4, h5, h6, h7⟩ := ih h1 h2 he hm
    exact ⟨h4, h5, h6, fun x hx => h7 x (h3 x hx)⟩
end
/-- What the last round has seen. -/
structure Lasted (srt : List Inf) (s : HS) (roots out : List Int) (m' : MK) : Prop where
  outs : ∀ o ∈ out, o ≠ 0 → o ∈ m'.seen
  closed : ∀ x ∈ m'.seen, x ≠ 0 ∧ ∀ q ∈ ptrAt srt s x, q ≠ 0 → q ∈ m'.seen
  gen : ∀ G : Int → Prop, (∀ p ∈ roots, ∀ o ∈ out, o ≠ 0 → TF srt s p o → G o) → (∀ x, G x → ∀ q ∈ ptrAt srt s x, q ≠ 0 → TF srt s q q → G q) → ∀ x ∈ m'.seen, G x
  len : out.length = roots.length
  each : ∀ i, i < roots.length → TF srt s (roots.getD i 0) (out.getD i 0)
theorem Rnd.last {srt : List Inf} {most : Int} {roots out : List Int} {m m' : MK} (h : Rnd srt most roots m out m') (hw : m.wait = []) (he0 : m.e = 0) (he : m'.e = 0) (hm : m'.moved = false) : m'.s = m.s ∧ Lasted srt m.s roots out m' := by
  obtain ⟨m1, h1, h2⟩ := h
  have he1 := h2.e0 he
  obtain ⟨hm1, hs2⟩ := h2.mv hm
  obtain ⟨_, hs1⟩ := h1.mv hm1
  have key : ∀ G : Int → Prop, (∀ p ∈ roots, ∀ o ∈ out, o ≠ 0 → TF srt m.s p o → G o) → (∀ x, G x → ∀ q ∈ ptrAt srt m.s x, q ≠ 0 → TF srt m.s q q → G q) →
      LI srt m.s G [] m' ∧ m'.wait = [] ∧ m'.over = false ∧ (∀ o ∈ out, o ≠ 0 → o ∈ m'.seen) ∧ out.length = roots.length ∧ ∀ i, i < roots.length → TF srt m.s (roots.getD i 0) (out.getD i 0) := fun G hO hB => by
    have hI : LI srt m.s G [] { m with seen := [], over := false, moved := false } := ⟨rfl, he0, (fun x hx => by cases hx), (fun x hx => by
      have hx' : x ∈ m.wait := hx
      rw [hw] at hx'
      cases hx'), .inr (fun x hx => by cases hx)⟩
    obtain ⟨a1, a2, a3, a4, a5, a6⟩ := Rts.lst hB h1 hI hw hO he1 hm1
    obtain ⟨b1, b2, b3, b4⟩ := Agn.lst hB h2 a1 a2 he hm
    exact ⟨b1, b2, b3, fun o ho h0 => b4 o (a4 o ho h0), a5, a6⟩
  obtain ⟨b1, b2, b3, b4, b5, b6⟩ := key (fun _ => True) (fun _ _ _ _ _ _ => trivial) (fun _ _ _ _ _ _ => trivial)
  refine ⟨hs2.trans hs1, ⟨b4, fun x hx => ⟨(b1.sound x hx).2, ?_⟩, fun G hO hB x hx => ((key G hO hB).1.sound x hx).1, b5, b6⟩⟩
  rcases b1.comp with hc | hc
  · rw [b3] at hc; cases hc
  · rcases hc x hx with h | h | h
    · rw [b2] at h; cases h
    · cases h
    · exact h
end Go.Proofs.Ytjfpijoeddjgmaa
