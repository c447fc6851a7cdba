/- A marker where no closure stands for another one: nothing turns; just what is reached is seen. No condition. -/
import Derived.Test.YtjfpijoeddjgmaaMarkM
import Derived.Test.YtjfpijoeddjgmaaMarkW3
namespace Go.Proofs.Ytjfpijoeddjgmaa
open Go.RowKit Hm
set_option linter.unusedVariables false

/-! ### An error stays -/
theorem look_e0 {srt : List Inf} {m : MK} {a : Int} (h : (m.look srt a).e = 0) : m.e = 0 := by rw [look_id h] at h; exact h
theorem aim_e (srt : List Inf) (m : MK) (a l q : Int) : (m.aim srt a l q).e = m.e := by unfold MK.aim; split <;> rfl
theorem Rch.e0 {srt : List Inf} {q p : Int} {seen : List Int} {m m' : MK} {r : Bool} (h : Rch srt q seen p m r m') : m'.e = 0 → m.e = 0 := by
  induction h with
  | stop h => exact id
  | no h hk => exact look_e0
  | go h hk hn ih => exact ih
theorem Thr.e0 {srt : List Inf} {d : Nat} {p r : Int} {seen : List Int} {m m' : MK} (h : Thr srt d seen p m r m') : m'.e = 0 → m.e = 0 := by
  induction h with
  | stop h => exact id
  | bad h hb => exact look_e0
  | ind h ok hk hn ih => exact ih
  | plain h ok hk hp => exact id
  | none h ok hk hp h1 ih => intro he; rw [aim_e] at he; exact ih he
  | cant h ok hk hp h1 hq hc ih => intro he; have := look_e0 he; rw [aim_e] at this; exact ih this
  | ring h ok hk hp h1 hq hc hr ih => intro he; have := hr.e0 he; rw [aim_e] at this; exact ih this
  | go h ok hk hp h1 hq hc hr hn ih1 ih2 => intro he; have h2 : _ = (0 : Int) := hr.e0 (ih2 he); rw [aim_e] at h2; exact ih1 h2
theorem note_e (most : Int) (m : MK) (r : Int) : (m.note most r).e = m.e := by unfold MK.note; split <;> rfl
theorem Rea.e0 {srt : List Inf} {most a r : Int} {m m' : MK} (h : Rea srt most a m r m') (he : m'.e = 0) : m.e = 0 := by
  cases h with
  | old h ho => exact h.e0 he
  | new h ho => rw [note_e] at he; exact h.e0 he
theorem Bel.e0 {srt : List Inf} {most a : Int} {i : Nat} {l : List Int} {m m' : MK} (h : Bel srt most a i l m m') : m'.e = 0 → m.e = 0 := by
  induction h with
  | nil => exact id
  | cons h hn ih =>
    intro he
    have h1 := ih he
    refine h.e0 ?_
    split at h1
    · exact h1
    · exact h1
theorem Below'.e0 {srt : List Inf} {most a : Int} {m m' : MK} (h : Below' srt most a m m') (he : m'.e = 0) : (m.look srt a).e = 0 := Bel.e0 h he
theorem Dra.e0 {srt : List Inf} {most : Int} {m m' : MK} (h : Dra srt most m m') : m'.e = 0 → m.e = 0 := by
  induction h with
  | stop h => exact id
  | step hw he h hn ih => exact fun _ => he
theorem Rts.e0 {srt : List Inf} {most : Int} {l os : List Int} {m m' : MK} (h : Rts srt most l m os m') : m'.e = 0 → m.e = 0 := by
  induction h with
  | nil => exact id
  | cons h hd hn ih => exact fun he => h.e0 (hd.e0 (ih he))
theorem Swp.e0 {srt : List Inf} {most : Int} {l : List Int} {m m' : MK} (h : Swp srt most l m m') : m'.e = 0 → m.e = 0 := by
  induction h with
  | nil => exact id
  | cons h hd hn ih => exact fun he => look_e0 (h.e0 (hd.e0 (ih he)))
theorem Agn.e0 {srt : List Inf} {most : Int} {m m' : MK} (h : Agn srt most m m') : m'.e = 0 → m.e = 0 := by
  induction h with
  | stop h => exact id
  | step ho he h hn ih => exact fun _ => he

/-! ### Nothing stands for another one -/
def Plain (srt : List Inf) (s : HS) : Prop := ∀ a, (infAt srt s a).kind ≠ 6 ∧ ((infAt srt s a).kind = 2 → (infAt srt s a).pick = 0)
theorem Thr.plain_ok {srt : List Inf} {p r : Int} {m m' : MK} (h : Thr srt 0 [] p m r m') (hP : Plain srt m.s) (he : m'.e = 0) : r = p ∧ m' = m ∧ (p ≠ 0 → okAt srt m.s p) := by
  cases h with
  | stop h =>
    refine ⟨rfl, rfl, fun hp => ?_⟩
    rcases h with h | h | h
    · exact absurd h hp
    · exact absurd he h
    · cases h
  | bad h hb => rw [look_bad hb] at he; exact absurd he (fail_e m)
  | ind h ok hk hn => exact absurd hk (hP p).1
  | plain h ok hk hp => exact ⟨rfl, rfl, fun _ => ok⟩
  | none h ok hk hp h1 => exact absurd (.inl ((hP p).2 hk)) hp
  | cant h ok hk hp h1 hq hc => exact absurd (.inl ((hP p).2 hk)) hp
  | ring h ok hk hp h1 hq hc hr => exact absurd (.inl ((hP p).2 hk)) hp
  | go h ok hk hp h1 hq hc hr hn => exact absurd (.inl ((hP p).2 hk)) hp
/-- While it marks: what is seen, what is still to be gone through. -/
structure SI (srt : List Inf) (s : HS) (R : Int → Prop) (pend : List Int) (m : MK) : Prop where
  st : m.s = s
  e : m.e = 0
  moved : m.moved = false
  sound : ∀ x ∈ m.seen, R x ∧ x ≠ 0 ∧ okAt srt s x
  wait : ∀ x ∈ m.wait, x ∈ m.seen
  comp : m.over = true ∨ ∀ x ∈ m.seen, x ∈ m.wait ∨ x ∈ pend ∨ ∀ q ∈ ptrAt srt s x, q ≠ 0 → q ∈ m.seen
section
variable {srt : List Inf} {most : Int} {s : HS} {R : Int → Prop}
theorem Rea.simple {pend : List Int} {p r : Int} {m m' : MK} (h : Rea srt most p m r m') (hP : Plain srt s) (hI : SI srt s R pend m) (hR : p ≠ 0 → R p) (he : m'.e = 0) :
    r = p ∧ SI srt s R pend m' ∧ (∀ x ∈ m.seen, x ∈ m'.seen) ∧ (p ≠ 0 → p ∈ m'.seen) := by
  cases h with
  | old h ho =>
    obtain ⟨rfl, rfl, _⟩ := h.plain_ok (by rw [hI.st]; exact hP) he
    refine ⟨rfl, hI, fun _ h => h, fun hp => ?_⟩
    rcases ho with h | h | h
    · exact absurd h hp
    · exact h
    · exact absurd he h
  | new h ho =>
    rename_i m1
    have he1 : m1.e = 0 := by rw [note_e] at he; exact he
    obtain ⟨rfl, rfl, hok⟩ := h.plain_ok (by rw [hI.st]; exact hP) he1
    have hp0 : r ≠ 0 := fun h => ho (.inl h)
    have hok' := hok hp0
    rw [hI.st] at hok'
    have hsound : ∀ x ∈ m1.seen ++ [r], R x ∧ x ≠ 0 ∧ okAt srt s x := fun x hx => by
      rcases List.mem_append.1 hx with hx | hx
      · exact hI.sound x hx
      · rw [List.mem_singleton] at hx; subst hx; exact ⟨hR hp0, hp0, hok'⟩
    refine ⟨rfl, ?_, ?_, ?_⟩
    · unfold MK.note
      split
      · exact ⟨hI.st, hI.e, hI.moved, hsound, fun x hx => List.mem_append_left _ (hI.wait x hx), .inl rfl⟩
      · refine ⟨hI.st, hI.e, hI.moved, hsound, fun x hx => ?_, hI.comp.imp id fun hc x hx => ?_⟩
        · rcases List.mem_append.1 hx with hx | hx
          · exact List.mem_append_left _ (hI.wait x hx)
          · exact List.mem_append_right _ hx
        · rcases List.mem_append.1 hx with hx | hx
          · rcases hc x hx with h | h | h
            · exact .inl (List.mem_append_left _ h)
            · exact .inr (.inl h)
            · exact .inr (.inr fun q hq hq0 => List.mem_append_left _ (h q hq hq0))
          · exact .inl (List.mem_append_right _ hx)
    · unfold MK.note
      split <;> exact fun x hx => List.mem_append_left _ hx
    · unfold MK.note
      split <;> exact fun _ => List.mem_append_right _ (List.mem_singleton_self _)
theorem Bel.simple {pend : List Int} {p : Int} {i : Nat} {l : List Int} {m m' : MK} (h : Bel srt most p i l m m') (hP : Plain srt s) : SI srt s R pend m → (∀ q ∈ l, q ≠ 0 → R q) → m'.e = 0 →
    SI srt s R pend m' ∧ (∀ x ∈ m.seen, x ∈ m'.seen) ∧ ∀ q ∈ l, q ≠ 0 → q ∈ m'.seen := by
  induction h with
  | nil => exact fun hI _ _ => ⟨hI, fun _ h => h, fun q hq => by cases hq⟩
  | @cons i q l m r m1 m' h hn ih =>
    intro hI hR he
    have he1 := hn.e0 he
    have he2 : m1.e = 0 := by split at he1 <;> exact he1
    obtain ⟨hr, hI1, hs1, hp1⟩ := h.simple hP hI (hR q (List.mem_cons_self ..)) he2
    rw [if_neg (fun hh => hh.1 hr)] at ih
    obtain ⟨h1, h2, h3⟩ := ih hI1 (fun q hq => hR q (List.mem_cons_of_mem _ hq)) he
    refine ⟨h1, fun x hx => h2 x (hs1 x hx), fun q' hq' hq0 => ?_⟩
    rcases List.mem_cons.1 hq' with rfl | hq'
    · exact h2 _ (hp1 hq0)
    · exact h3 q' hq' hq0
theorem Below'.simple {pend : List Int} {p : Int} {m m' : MK} (h : Below' srt most p m m') (hP : Plain srt s) (hI : SI srt s R (p :: pend) m) (hR : ∀ q ∈ ptrAt srt s p, q ≠ 0 → R q) (he : m'.e = 0) :
    SI srt s R pend m' ∧ (∀ x ∈ m.seen, x ∈ m'.seen) := by
  have hl := look_id (h.e0 he)
  unfold Below' at h
  rw [hl, hI.st] at h
  obtain ⟨h1, h2, h3⟩ := Bel.simple h hP hI hR he
  refine ⟨⟨h1.st, h1.e, h1.moved, h1.sound, h1.wait, h1.comp.imp id fun hc x hx => ?_⟩, h2⟩
  rcases hc x hx with h | h | h
  · exact .inl h
  · rcases List.mem_cons.1 h with rfl | h
    · exact .inr (.inr h3)
    · exact .inr (.inl h)
  · exact .inr (.inr h)
theorem Dra.simple {m m' : MK} (h : Dra srt most m m') (hP : Plain srt s) (hC : ∀ p, R p → ∀ q ∈ ptrAt srt s p, q ≠ 0 → R q) {pend : List Int} : SI srt s R pend m → m'.e = 0 →
    SI srt s R pend m' ∧ m'.wait = [] ∧ ∀ x ∈ m.seen, x ∈ m'.seen := by
  induction h with
  | stop h =>
    intro hI he
    refine ⟨hI, ?_, fun _ h => h⟩
    rcases h with h | h
    · exact h
    · exact absurd he h
  | @step m ws p m1 m' hw he0 h hn ih =>
    intro hI he
    have he1 := hn.e0 he
    have hp : p ∈ m.seen := hI.wait p (by rw [hw]; exact List.mem_append_right _ (List.mem_singleton_self _))
    have hI2 : SI srt s R (p :: pend) { m with wait := ws } := by
      refine ⟨hI.st, hI.e, hI.moved, hI.sound, fun x hx => hI.wait x (by rw [hw]; exact List.mem_append_left _ hx), hI.comp.imp id fun hc x hx => ?_⟩
      rcases hc x hx with h | h | h
      · rw [hw] at h
        rcases List.mem_append.1 h with h | h
        · exact .inl h
        · rw [List.mem_singleton] at h; subst h; exact .inr (.inl (List.mem_cons_self ..))
      · exact .inr (.inl (List.mem_cons_of_mem _ h))
      · exact .inr (.inr h)
    obtain ⟨h1, h2⟩ := Below'.simple h hP hI2 (hC p (hI.sound p hp).1) he1
    obtain ⟨h3, h4, h5⟩ := ih h1 he
    exact ⟨h3, h4, fun x hx => h5 x (h2 x hx)⟩
theorem Rts.simple {l os : List Int} {m m' : MK} (h : Rts srt most l m os m') (hP : Plain srt s) (hC : ∀ p, R p → ∀ q ∈ ptrAt srt s p, q ≠ 0 → R q) : SI srt s R [] m → m.wait = [] → (∀ r ∈ l, r ≠ 0 → R r) → m'.e = 0 →
    SI srt s R [] m' ∧ m'.wait = [] ∧ os = l ∧ (∀ x ∈ m.seen, x ∈ m'.seen) ∧ ∀ r ∈ l, r ≠ 0 → r ∈ m'.seen := by
  induction h with
  | nil => exact fun hI hw _ _ => ⟨hI, hw, rfl, fun _ h => h, fun r hr => by cases hr⟩
  | cons h hd hn ih =>
    intro hI hw hR he
    have he2 := hn.e0 he
    have he1 := hd.e0 he2
    obtain ⟨hr, h1, h2, h3⟩ := h.simple hP hI (hR _ (List.mem_cons_self ..)) he1
    obtain ⟨h4, h5, h6⟩ := hd.simple hP hC h1 he2
    obtain ⟨h7, h8, h9, h10, h11⟩ := ih h4 h5 (fun r hr => hR r (List.mem_cons_of_mem _ hr)) he
    refine ⟨h7, h8, by rw [hr, h9], fun x hx => h10 x (h6 x (h2 x hx)), fun r hr' hr0 => ?_⟩
    rcases List.mem_cons.1 hr' with rfl | hr'
    · exact h10 _ (h6 _ (h3 hr0))
    · exact h11 r hr' hr0
theorem Swp.simple {l : List Int} {m m' : MK} (h : Swp srt most l m m') (hP : Plain srt s) (hC : ∀ p, R p → ∀ q ∈ ptrAt srt s p, q ≠ 0 → R q) : SI srt s R l m → m.wait = [] → (∀ p ∈ l, R p) → m'.e = 0 →
    SI srt s R [] m' ∧ m'.wait = [] ∧ ∀ x ∈ m.seen, x ∈ m'.seen := by
  induction h with
  | nil => exact fun hI hw _ _ => ⟨hI, hw, fun _ h => h⟩
  | cons h hd hn ih =>
    intro hI hw hR he
    have he2 := hn.e0 he
    have he1 := hd.e0 he2
    obtain ⟨h1, h2⟩ := h.simple hP hI (hC _ (hR _ (List.mem_cons_self ..))) he1
    obtain ⟨h3, h4, h5⟩ := hd.simple hP hC h1 he2
    obtain ⟨h6, h7, h8⟩ := ih h3 h4 (fun r hr => hR r (List.mem_cons_of_mem _ hr)) he
    exact ⟨h6, h7, fun x hx => h8 x (h5 x (h2 x hx))⟩
theorem mem_sorted {l : List Int} {x : Int} : x ∈ sorted l ↔ x ∈ l := by unfold sorted; exact (List.mergeSort_perm l _).mem_iff
theorem Agn.simple {m m' : MK} (h : Agn srt most m m') (hP : Plain srt s) (hC : ∀ p, R p → ∀ q ∈ ptrAt srt s p, q ≠ 0 → R q) : SI srt s R [] m → m.wait = [] → m'.e = 0 →
    SI srt s R [] m' ∧ m'.wait = [] ∧ m'.over = false ∧ ∀ x ∈ m.seen, x ∈ m'.seen := by
  induction h with
  | stop h =>
    intro hI hw he
    refine ⟨hI, hw, ?_, fun _ h => h⟩
    rcases h with h | h
    · exact h
    · exact absurd he h
  | @step m m1 m' ho he0 h hn ih =>
    intro hI hw he
    have he1 := hn.e0 he
    have hI2 : SI srt s R (sorted m.seen) { m with over := false } := ⟨hI.st, hI.e, hI.moved, hI.sound, hI.wait, .inr fun x hx => .inr (.inl (mem_sorted.2 hx))⟩
    obtain ⟨h1, h2, h3⟩ := h.simple hP hC hI2 hw (fun p hp => (hI.sound p (mem_sorted.1 hp)).1) he1
    obtain ⟨h4, h5, h6, h7⟩ := ih h1 h2 he
    exact ⟨h4, h5, h6, fun x hx => h7 x (h3 x hx)⟩
/-- A round, where no closure stands for another one. -/
theorem Rnd.simple {roots out : List Int} {m m' : MK} (h : Rnd srt most roots m out m') (hP : Plain srt m.s) (hw : m.wait = []) (he0 : m.e = 0) (he : m'.e = 0) (R : Int → Prop) (hR : ∀ r ∈ roots, r ≠ 0 → R r) (hC : ∀ p, R p → ∀ q ∈ ptrAt srt m.s p, q ≠ 0 → R q) :
    m'.s = m.s ∧ m'.moved = false ∧ m'.wait = [] ∧ out = roots ∧ (∀ r ∈ roots, r ≠ 0 → r ∈ m'.seen) ∧ ∀ x ∈ m'.seen, R x ∧ x ≠ 0 ∧ okAt srt m.s x ∧ ∀ q ∈ ptrAt srt m.s x, q ≠ 0 → q ∈ m'.seen := by
  obtain ⟨m1, h1, h2⟩ := h
  have he1 := h2.e0 he
  have hI : SI srt m.s R [] { m with seen := [], over := false, moved := false } := ⟨rfl, he0, rfl, (fun x hx => by cases hx), (fun x hx => by
    have hx' : x ∈ m.wait := hx
    rw [hw] at hx'
    cases hx'), .inr (fun x hx => by cases hx)⟩
  obtain ⟨h3, h4, h5, _, h6⟩ := h1.simple hP hC hI hw hR he1
  obtain ⟨h7, h8, h9, h10⟩ := h2.simple hP hC h3 h4 he
  refine ⟨h7.st, h7.moved, h8, h5, fun r hr hr0 => h10 r (h6 r hr hr0), fun x hx => ?_⟩
  obtain ⟨k1, k2, k3⟩ := h7.sound x hx
  refine ⟨k1, k2, k3, ?_⟩
  rcases h7.comp with hc | hc
  · rw [h9] at hc; cases hc
  · rcases hc x hx with h | h | h
    · rw [h8] at h; cases h
    · cases h
    · exact h
end
end Go.Proofs.Ytjfpijoeddjgmaa
