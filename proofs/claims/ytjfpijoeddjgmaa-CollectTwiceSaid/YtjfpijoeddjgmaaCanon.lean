/- Mark, where nothing goes round: what the roots stand for, and what is reached from there, whatever room there is. Conditions: as each says. -/
import Derived.Test.YtjfpijoeddjgmaaLast
namespace Go.Proofs.Ytjfpijoeddjgmaa
open Go.RowKit Hm
set_option linter.unusedVariables false

def p0 (srt : List Inf) (s : HS) (a : Int) : Int := (ptrAt srt s a).getD 0 0
/-- Does a closure have the field that is picked? -/
def Picks (srt : List Inf) (s : HS) (q : Int) (i : Inf) : Prop := q ≠ 0 ∧ (infAt srt s q).kind = 0 ∧ (infAt srt s q).tag = i.of ∧ i.pick ≤ ((ptrAt srt s q).length : Int)
/-- What closures stand for (F), in how many steps (ρ). -/
structure Stands (S : Int → Prop) (F : Int → Int) (ρ : Int → Nat) : Prop where
  s0 : ¬ S 0
  f0 : F 0 = 0
  ff : ∀ a, S a → F (F a) = F a
  fs : ∀ a, S a → F a = 0 ∨ S (F a)
  fr : ∀ a, S a → ρ (F a) ≤ ρ a
  pos : ∀ a, S a → ρ 0 < ρ a
structure Inv (srt : List Inf) (S : Int → Prop) (F : Int → Int) (ρ : Int → Nat) (s0 s : HS) : Prop where
  cl : Cl srt s
  ok : ∀ a, S a → okAt srt s a
  ptr : ∀ a, S a → ∀ q ∈ ptrAt srt s a, q = 0 ∨ S q
  ind : ∀ a, S a → (infAt srt s a).kind = 6 → F a = F (p0 srt s a) ∧ ρ (p0 srt s a) < ρ a
  low : ∀ a, S a → Sel (infAt srt s a) → ρ (p0 srt s a) < ρ a
  sel0 : ∀ a, S a → Sel (infAt srt s a) → p0 srt s a = 0 → F a = a
  selN : ∀ a, S a → Sel (infAt srt s a) → p0 srt s a ≠ 0 → ¬ Picks srt s (F (p0 srt s a)) (infAt srt s a) → F a = a
  selY : ∀ a, S a → Sel (infAt srt s a) → p0 srt s a ≠ 0 → Picks srt s (F (p0 srt s a)) (infAt srt s a) → F a = F (field srt s (F (p0 srt s a)) (infAt srt s a)) ∧ ρ (field srt s (F (p0 srt s a)) (infAt srt s a)) < ρ a
  nor : ∀ a, S a → (infAt srt s a).kind ≠ 6 → ¬ Sel (infAt srt s a) → F a = a
  fix : ∀ a, S a → F a = a → infAt srt s a = infAt srt s0 a ∧ (ptrAt srt s a).map F = (ptrAt srt s0 a).map F
  used : s.used = s0.used
  n : s.n = s0.n
  cap : ∀ x, s.cap x = s0.cap x
  num : ∀ b : Nat, S b → ptrAt srt s b = [] → ∀ y, y < s0.cap b → s.word (b + y) = s0.word (b + y)
section
variable {srt : List Inf} (U : SortsUp srt) {S : Int → Prop} {F : Int → Int} {ρ : Int → Nat} (H : Stands S F ρ) {s0 : HS}
theorem Inv.p0S {s : HS} (h : Inv srt S F ρ s0 s) {a : Int} (ha : S a) (k : Nat) : (ptrAt srt s a).getD k 0 = 0 ∨ S ((ptrAt srt s a).getD k 0) := by
  rw [List.getD_eq_getElem?_getD]
  by_cases hk : k < (ptrAt srt s a).length
  · rw [List.getElem?_eq_getElem hk]
    exact h.ptr a ha _ (List.getElem_mem hk)
  · rw [List.getElem?_eq_none (by omega)]
    exact .inl rfl
theorem Inv.vok {s : HS} (h : Inv srt S F ρ s0 s) {q : Int} (hq : q = 0 ∨ S q) : Go.Proofs.Ytjfpijoeddjgmaa.vok srt s q := fun h0 => h.ok q (hq.resolve_left h0)
include H
theorem Stands.ff' {q : Int} (hq : q = 0 ∨ S q) : F (F q) = F q := by
  rcases hq with rfl | hq
  · rw [H.f0, H.f0]
  · exact H.ff q hq
theorem Stands.fs' {q : Int} (hq : q = 0 ∨ S q) : F q = 0 ∨ S (F q) := by
  rcases hq with rfl | hq
  · exact .inl H.f0
  · exact H.fs q hq
theorem Stands.fr' {q : Int} (hq : q = 0 ∨ S q) : ρ (F q) ≤ ρ q := by
  rcases hq with rfl | hq
  · rw [H.f0]; exact Nat.le_refl _
  · exact H.fr q hq
/-- What stands for a lower one isn't its own. -/
theorem Stands.moves {a f : Int} (ha : S a) (hf : f = 0 ∨ S f) (he : F a = F f) (hl : ρ f < ρ a) : F a ≠ a := fun e => by
  have h1 := H.fr' hf
  rw [← he, e] at h1
  omega
/-- A pointer is set to what stands for the same. -/
theorem Inv.point {s t : HS} (h : Inv srt S F ρ s0 s) {a r : Int} {i : Nat} (ha : S a) (hi : i < (ptrAt srt s a).length) (hc0 : (ptrAt srt s a)[i] ≠ 0) (hr : r = 0 ∨ S r) (hF : F r = F ((ptrAt srt s a)[i])) (hρ : ρ r ≤ ρ ((ptrAt srt s a)[i]))
    (h1 : (infAt srt s a).kind = 6 ∨ Sel (infAt srt s a) → (ptrAt srt s a).length = 1) (hT : Turned srt s t a (infAt srt s a) ((ptrAt srt s a).set i r)) : Inv srt S F ρ s0 t := by
  have hinf : ∀ b, infAt srt t b = infAt srt s b := fun b => by
    rw [hT.inf]
    by_cases e : b = a
    · rw [if_pos e, e]
    · rw [if_neg e]
  have hlen : ∀ b, (ptrAt srt t b).length = (ptrAt srt s b).length := fun b => by
    rw [hT.ptr]
    by_cases e : b = a
    · rw [if_pos e, List.length_set, e]
    · rw [if_neg e]
  have hget : ∀ b k, F ((ptrAt srt t b).getD k 0) = F ((ptrAt srt s b).getD k 0) ∧ ρ ((ptrAt srt t b).getD k 0) ≤ ρ ((ptrAt srt s b).getD k 0) := fun b k => by
    rw [hT.ptr]
    by_cases e : b = a
    · rw [if_pos e, e, List.getD_eq_getElem?_getD, List.getD_eq_getElem?_getD, List.getElem?_set]
      by_cases hk : i = k
      · subst hk
        rw [if_pos rfl, if_pos hi, List.getElem?_eq_getElem hi]
        exact ⟨hF, hρ⟩
      · rw [if_neg hk]; exact ⟨rfl, Nat.le_refl _⟩
    · rw [if_neg e]; exact ⟨rfl, Nat.le_refl _⟩
  have hpick : ∀ q j, Picks srt t q j ↔ Picks srt s q j := fun q j => by unfold Picks; rw [hinf, hlen]
  have hp00 : ∀ b, (infAt srt s b).kind = 6 ∨ Sel (infAt srt s b) → p0 srt t b ≠ 0 → p0 srt s b ≠ 0 := fun b hb h0 e => by
    refine h0 ?_
    unfold p0 at e ⊢
    rw [hT.ptr]
    by_cases eb : b = a
    · rw [eb] at hb e
      have hl1 := h1 hb
      have hi0 : i = 0 := by omega
      subst hi0
      rw [List.getD_eq_getElem?_getD, List.getElem?_eq_getElem hi] at e
      exact absurd e hc0
    · rw [if_neg eb]; exact e
  refine ⟨hT.cl h.cl fun q hq => ?_, fun b hb => (hT.ok b).2 (h.ok b hb), fun b hb q hq => ?_, fun b hb hk => ?_, fun b hb hs => ?_, fun b hb hs h0 => ?_, fun b hb hs h0 hn => ?_, fun b hb hs h0 hp => ?_, fun b hb hk hs => h.nor b hb (by rw [← hinf]; exact hk) (by rw [← hinf]; exact hs), fun b hb he => ?_, hT.used.trans h.used, hT.n.trans h.n, fun x => (hT.cap x).trans (h.cap x), fun b hb hp y hy => ?_⟩
  · rcases List.mem_or_eq_of_mem_set hq with h2 | h2
    · exact h.cl.cl a (h.ok a ha) q h2
    · rw [h2]; exact h.vok hr
  · rw [hT.ptr] at hq
    by_cases e : b = a
    · rw [if_pos e] at hq
      rcases List.mem_or_eq_of_mem_set hq with h2 | h2
      · exact h.ptr a ha q h2
      · rw [h2]; exact hr
    · rw [if_neg e] at hq; exact h.ptr b hb q hq
  · obtain ⟨k1, k2⟩ := h.ind b hb (by rw [← hinf]; exact hk)
    obtain ⟨g1, g2⟩ := hget b 0
    exact ⟨k1.trans g1.symm, Nat.lt_of_le_of_lt g2 k2⟩
  · exact Nat.lt_of_le_of_lt (hget b 0).2 (h.low b hb (by rw [← hinf]; exact hs))
  · rw [hinf] at hs
    by_cases h0' : p0 srt s b = 0
    · exact h.sel0 b hb hs h0'
    · refine h.selN b hb hs h0' fun hp => hp.1 ?_
      have := (hget b 0).1
      unfold p0 at h0 ⊢
      rw [← this, h0, H.f0]
  · rw [hinf] at hs
    refine h.selN b hb hs (hp00 b (.inr hs) h0) fun hp => hn ?_
    rw [hinf, hpick]
    have e : F (p0 srt t b) = F (p0 srt s b) := (hget b 0).1
    rw [e]; exact hp
  · rw [hinf] at hs hp
    have e : F (p0 srt t b) = F (p0 srt s b) := (hget b 0).1
    rw [e, hpick] at hp
    obtain ⟨k1, k2⟩ := h.selY b hb hs (hp00 b (.inr hs) h0) hp
    obtain ⟨g1, g2⟩ := hget (F (p0 srt s b)) ((infAt srt s b).pick - 1).toNat
    rw [hinf, e]
    exact ⟨k1.trans g1.symm, Nat.lt_of_le_of_lt g2 k2⟩
  · obtain ⟨k1, k2⟩ := h.fix b hb he
    refine ⟨(hinf b).trans k1, ?_⟩
    rw [← k2, hT.ptr]
    by_cases e : b = a
    · rw [if_pos e, e, List.map_set, hF]
      have : F ((ptrAt srt s a)[i]) = ((ptrAt srt s a).map F)[i]'(by rw [List.length_map]; exact hi) := by rw [List.getElem_map]
      rw [this, List.set_getElem_self]
    · rw [if_neg e]
  · have hl0 := hlen (b : Int)
    rw [hp] at hl0
    have hp2 : ptrAt srt s b = [] := List.eq_nil_of_length_eq_zero hl0.symm
    have hne : (b : Int) ≠ a := fun e => by rw [← e, hp2] at hi; exact absurd hi (Nat.not_lt_zero _)
    have hu : s.used b = true := by
      obtain ⟨A, k, n, hc⟩ := (h.ok b hb).clo h.cl.wf
      have : A = b := by have := hc.at'; omega
      rw [← this]; exact hc.used
    exact (hT.word b y hne hu (by rw [h.cap]; exact hy)).trans (h.num b hb hp2 y hy)
/-- A closure becomes another one, for which it stands. -/
theorem Inv.turn {s t : HS} (h : Inv srt S F ρ s0 s) {a r : Int} {i6 : Inf} (ha : S a) (hs : Sel (infAt srt s a)) (hr : r = 0 ∨ S r) (hF : F a = F r) (hρ : ρ r < ρ a) (h6 : i6.kind = 6) (hT : Turned srt s t a i6 [r]) : Inv srt S F ρ s0 t := by
  have hne := H.moves ha hr hF hρ
  have hFa : ∀ q, q = 0 ∨ S q → F q ≠ a := fun q hq e => hne (by rw [← e]; exact H.ff' hq)
  have hinf : ∀ b, b ≠ a → infAt srt t b = infAt srt s b := fun b e => by rw [hT.inf, if_neg e]
  have hptr : ∀ b, b ≠ a → ptrAt srt t b = ptrAt srt s b := fun b e => by rw [hT.ptr, if_neg e]
  have hia : infAt srt t a = i6 := by rw [hT.inf, if_pos rfl]
  have hpa : ptrAt srt t a = [r] := by rw [hT.ptr, if_pos rfl]
  have hp0 : ∀ b, b ≠ a → p0 srt t b = p0 srt s b := fun b e => by unfold p0; rw [hptr b e]
  have hpick : ∀ b j, b ≠ a → (Picks srt t b j ↔ Picks srt s b j) := fun b j e => by unfold Picks; rw [hinf b e, hptr b e]
  have hns : ¬ Sel (infAt srt t a) := fun hh => by rw [hia] at hh; rw [hh.1] at h6; cases h6
  refine ⟨hT.cl h.cl fun q hq => ?_, fun b hb => (hT.ok b).2 (h.ok b hb), fun b hb q hq => ?_, fun b hb hk => ?_, fun b hb hs' => ?_, fun b hb hs' h0 => ?_, fun b hb hs' h0 hn => ?_, fun b hb hs' h0 hp => ?_, fun b hb hk hs' => ?_, fun b hb he => ?_, hT.used.trans h.used, hT.n.trans h.n, fun x => (hT.cap x).trans (h.cap x), fun b hb hp y hy => ?_⟩
  · rw [List.mem_singleton] at hq; rw [hq]; exact h.vok hr
  · by_cases e : b = a
    · rw [e, hpa, List.mem_singleton] at hq; rw [hq]; exact hr
    · rw [hptr b e] at hq; exact h.ptr b hb q hq
  · by_cases e : b = a
    · have e2 : p0 srt t b = r := by unfold p0; rw [e, hpa]; rfl
      rw [e2, e]; exact ⟨hF, hρ⟩
    · rw [hp0 b e]; exact h.ind b hb (by rw [← hinf b e]; exact hk)
  · have e : b ≠ a := fun e => hns (by rw [e] at hs'; exact hs')
    rw [hp0 b e]; exact h.low b hb (by rw [← hinf b e]; exact hs')
  · have e : b ≠ a := fun e => hns (by rw [e] at hs'; exact hs')
    rw [hp0 b e] at h0
    exact h.sel0 b hb (by rw [← hinf b e]; exact hs') h0
  · have e : b ≠ a := fun e => hns (by rw [e] at hs'; exact hs')
    rw [hp0 b e] at h0 hn
    rw [hinf b e] at hs' hn
    exact h.selN b hb hs' h0 fun hp => hn ((hpick _ _ (hFa _ (h.p0S hb 0))).2 hp)
  · have e : b ≠ a := fun e => hns (by rw [e] at hs'; exact hs')
    have e2 := hFa _ (h.p0S hb 0)
    rw [hp0 b e] at h0 hp ⊢
    rw [hinf b e] at hs' hp ⊢
    have e3 : ∀ j, field srt t (F (p0 srt s b)) j = field srt s (F (p0 srt s b)) j := fun j => by
      unfold field
      rw [hptr _ (by exact e2)]
    rw [e3]
    exact h.selY b hb hs' h0 ((hpick _ _ e2).1 hp)
  · have e : b ≠ a := fun e => by rw [e, hia] at hk; exact hk h6
    rw [hinf b e] at hk hs'
    exact h.nor b hb hk hs'
  · have e : b ≠ a := fun e => hne (by rw [e] at he; exact he)
    obtain ⟨k1, k2⟩ := h.fix b hb he
    exact ⟨(hinf b e).trans k1, by rw [hptr b e]; exact k2⟩
  · have hne : (b : Int) ≠ a := fun e => by rw [e, hpa] at hp; cases hp
    have hu : s.used b = true := by
      obtain ⟨A, k, n, hc⟩ := (h.ok b hb).clo h.cl.wf
      have : A = b := by have := hc.at'; omega
      rw [← this]; exact hc.used
    exact (hT.word b y hne hu (by rw [h.cap]; exact hy)).trans (h.num b hb (by rw [← hptr b hne]; exact hp) y hy)
end
section
variable {srt : List Inf} (U : SortsUp srt) {S : Int → Prop} {F : Int → Int} {ρ : Int → Nat} {s0 : HS}
theorem Rch.inv {q p : Int} {seen : List Int} {m m' : MK} {r : Bool} (h : Rch srt q seen p m r m') : Inv srt S F ρ s0 m.s → m.e = 0 → (p = 0 ∨ S p) → m' = m ∧ (ρ p < ρ q → r = false) := by
  induction h with
  | @stop seen p m h =>
    refine fun hI he hp => ⟨rfl, fun hl => ?_⟩
    have : p ≠ q := fun e => by rw [e] at hl; omega
    simpa using this
  | @no seen p m h hk => exact fun hI he hp => ⟨look_ok (hI.ok p (hp.resolve_left fun h0 => h (.inl h0))), fun _ => rfl⟩
  | @go seen p m r m' h hk hn ih =>
    intro hI he hp
    have hS : S p := hp.resolve_left fun h0 => h (.inl h0)
    obtain ⟨k1, k2⟩ := ih hI he (hI.p0S hS 0)
    exact ⟨k1, fun hl => k2 (Nat.lt_trans (hI.ind p hS hk).2 hl)⟩
/-- through: what a pointer tells of stands for the same. -/
structure ThrI (srt : List Inf) (S : Int → Prop) (F : Int → Int) (ρ : Int → Nat) (s0 : HS) (p r : Int) (m m' : MK) : Prop where
  inv : Inv srt S F ρ s0 m'.s
  e : m'.e = 0
  rS : r = 0 ∨ S r
  rF : F r = F p
  rρ : ρ r ≤ ρ p
  kind : r ≠ 0 → (infAt srt m'.s r).kind ≠ 6
  frame : ∀ a, ρ p < ρ a ∨ ¬ Sel (infAt srt m.s a) → infAt srt m'.s a = infAt srt m.s a ∧ ptrAt srt m'.s a = ptrAt srt m.s a
end
theorem aim_cases {srt : List Inf} (m : MK) (p l q : Int) : (m.aim srt p l q = m ∧ (q = l ∨ m.e ≠ 0)) ∨ (m.aim srt p l q = m.point srt p 0 q ∧ q ≠ l ∧ m.e = 0) := by
  unfold MK.aim
  by_cases hc : q ≠ l ∧ m.e = 0
  · rw [if_pos hc]; exact .inr ⟨rfl, hc⟩
  · rw [if_neg hc]
    refine .inl ⟨rfl, ?_⟩
    by_cases hq : q = l
    · exact .inl hq
    · exact .inr fun he => hc ⟨hq, he⟩
section
variable {srt : List Inf} (U : SortsUp srt) {S : Int → Prop} {F : Int → Int} {ρ : Int → Nat} (H : Stands S F ρ) {s0 : HS}
include U
theorem Inv.one {s : HS} (h : Inv srt S F ρ s0 s) {a : Int} (h1 : (infAt srt s a).kind = 6 ∨ Sel (infAt srt s a)) : ∃ q, ptrAt srt s a = [q] := h1.elim (ptr1_ind U h.cl.wf) (ptr1_sel U h.cl.wf)
include H
/-- A thunk's pointer, aimed. -/
theorem Inv.aim {m m1 : MK} {p q : Int} (hI : Inv srt S F ρ s0 m.s) (hp : S p) (hs : Sel (infAt srt m.s p)) (hT : ThrI srt S F ρ s0 (p0 srt m.s p) q m m1) (h0 : p0 srt m.s p ≠ 0) :
    Inv srt S F ρ s0 (m1.aim srt p (p0 srt m.s p) q).s ∧ (m1.aim srt p (p0 srt m.s p) q).e = 0 ∧ infAt srt (m1.aim srt p (p0 srt m.s p) q).s p = infAt srt m.s p ∧ (p0 srt (m1.aim srt p (p0 srt m.s p) q).s p = q) ∧
      ∀ a, a ≠ p → infAt srt (m1.aim srt p (p0 srt m.s p) q).s a = infAt srt m1.s a ∧ ptrAt srt (m1.aim srt p (p0 srt m.s p) q).s a = ptrAt srt m1.s a := by
  obtain ⟨f1, f2⟩ := hT.frame p (.inl (hI.low p hp hs))
  obtain ⟨l, hl⟩ := hI.one U (.inr hs)
  have hl1 : ptrAt srt m1.s p = [l] := by rw [f2]; exact hl
  have hp0 : p0 srt m.s p = l := by unfold p0; rw [hl]; rfl
  rcases aim_cases (srt := srt) m1 p (p0 srt m.s p) q with ⟨e1, e2⟩ | ⟨e1, e2, e3⟩
  · rw [e1]
    refine ⟨hT.inv, hT.e, f1, ?_, fun a ha => ⟨rfl, rfl⟩⟩
    rcases e2 with e2 | e2
    · unfold p0; rw [hl1, e2, hp0]; rfl
    · exact absurd hT.e e2
  · have hlen : 0 < (ptrAt srt m1.s p).length := by rw [hl1]; exact Nat.zero_lt_one
    have hr := hT.inv.vok hT.rS
    obtain ⟨t, ht, hTu⟩ := point_turned U hT.inv.cl.wf (hT.inv.ok p hp) hlen (hT.inv.cl.range hr)
    have e4 : m1.aim srt p (p0 srt m.s p) q = { m1 with s := t, moved := true } := by rw [e1]; unfold MK.point; rw [show (0 : Int) = ((0 : Nat) : Int) from rfl, ht]
    rw [e4]
    have e5 : (ptrAt srt m1.s p)[0]'hlen = p0 srt m.s p := by rw [hp0]; simp [hl1]
    refine ⟨hT.inv.point H hp hlen (by rw [e5]; exact h0) hT.rS (by rw [e5]; exact hT.rF) (by rw [e5]; exact hT.rρ) (fun _ => by rw [hl1]; rfl) hTu, hT.e, ?_, ?_, fun a ha => ?_⟩
    · show infAt srt t p = _
      rw [hTu.inf, if_pos rfl]; exact f1
    · show p0 srt t p = _
      unfold p0
      rw [hTu.ptr, if_pos rfl, hl1]; rfl
    · show infAt srt t a = _ ∧ ptrAt srt t a = _
      rw [hTu.inf, hTu.ptr, if_neg ha, if_neg ha]; exact ⟨rfl, rfl⟩
theorem Thr.inv {d : Nat} {seen : List Int} {p r : Int} {m m' : MK} (h : Thr srt d seen p m r m') : Inv srt S F ρ s0 m.s → m.e = 0 → (p = 0 ∨ S p) → (∀ x ∈ seen, ρ p < ρ x) →
    ThrI srt S F ρ s0 p r m m' ∧ (d = 0 → m'.moved = false → r ≠ 0 → Sel (infAt srt m.s r) → p0 srt m.s r ≠ 0 → F (p0 srt m.s r) = p0 srt m.s r → F r = r) := by
  induction h with
  | @stop d seen p m h =>
    intro hI he hp hseen
    have h0 : p = 0 := by
      rcases h with h | h | h
      · exact h
      · exact absurd he h
      · exact absurd (hseen p h) (Nat.lt_irrefl _)
    exact ⟨⟨hI, he, hp, rfl, Nat.le_refl _, fun h => absurd h0 h, fun a _ => ⟨rfl, rfl⟩⟩, fun _ _ h => absurd h0 h⟩
  | @bad d seen p m h hb => exact fun hI he hp _ => absurd (hI.ok p (hp.resolve_left fun h0 => h (.inl h0))) hb
  | @ind d seen p m r m' h ok hk hn ih =>
    intro hI he hp hseen
    have hS : S p := hp.resolve_left fun h0 => h (.inl h0)
    obtain ⟨k1, k2⟩ := hI.ind p hS hk
    obtain ⟨hT, hK⟩ := ih hI he (hI.p0S hS 0) fun x hx => by
      rcases List.mem_append.1 hx with hx | hx
      · exact Nat.lt_trans k2 (hseen x hx)
      · rw [List.mem_singleton] at hx; rw [hx]; exact k2
    refine ⟨⟨hT.inv, hT.e, hT.rS, hT.rF.trans k1.symm, Nat.le_trans hT.rρ (Nat.le_of_lt k2), hT.kind, fun a ha => hT.frame a (ha.imp (fun h => Nat.lt_trans k2 h) id)⟩, hK⟩
  | @plain d seen p m h ok hk hp' =>
    intro hI he hp hseen
    refine ⟨⟨hI, he, hp, rfl, Nat.le_refl _, fun _ => hk, fun a _ => ⟨rfl, rfl⟩⟩, fun hd _ h0 hs hp0 _ => ?_⟩
    rcases hp' with h1 | h1 | h1 | h1
    · exact absurd hs.1 h1
    · exact absurd h1 hs.2
    · omega
    · exact absurd h1 hp0
  | @none d seen p m m1 h ok hk hp' h1 ih =>
    intro hI he hp hseen
    have hS : S p := hp.resolve_left fun h0 => h (.inl h0)
    have hs : Sel (infAt srt m.s p) := ⟨hk, fun h0 => hp' (.inl h0)⟩
    have h0 : p0 srt m.s p ≠ 0 := fun h0 => hp' (.inr (.inr h0))
    obtain ⟨hT, _⟩ := ih hI he (hI.p0S hS 0) fun x hx => by cases hx
    obtain ⟨a1, a2, a3, a4, a5⟩ := hI.aim U H hS hs hT h0
    refine ⟨⟨a1, a2, hp, rfl, Nat.le_refl _, fun _ => ?_, fun a ha => ?_⟩, fun hd hm => ?_⟩
    · show (infAt srt (m1.aim srt p (p0 srt m.s p) 0).s p).kind ≠ 6
      rw [a3, hk]; decide
    · have hne : a ≠ p := fun e => by
        rw [e] at ha
        rcases ha with ha | ha
        · omega
        · exact ha hs
      obtain ⟨b1, b2⟩ := hT.frame a (ha.imp (fun h => Nat.lt_trans (hI.low p hS hs) h) id)
      exact ⟨(a5 a hne).1.trans b1, (a5 a hne).2.trans b2⟩
    · obtain ⟨_, _, e | e⟩ := aim_mv hm
      · exact absurd e.symm h0
      · exact absurd hT.e e
  | @cant d seen p m q m1 h ok hk hp' h1 hq hc ih =>
    intro hI he hp hseen
    have hS : S p := hp.resolve_left fun h0 => h (.inl h0)
    have hs : Sel (infAt srt m.s p) := ⟨hk, fun h0 => hp' (.inl h0)⟩
    have h0 : p0 srt m.s p ≠ 0 := fun h0 => hp' (.inr (.inr h0))
    obtain ⟨hT, _⟩ := ih hI he (hI.p0S hS 0) fun x hx => by cases hx
    obtain ⟨a1, a2, a3, a4, a5⟩ := hI.aim U H hS hs hT h0
    have hlk : (m1.aim srt p (p0 srt m.s p) q).look srt q = m1.aim srt p (p0 srt m.s p) q := look_ok (a1.ok q (hT.rS.resolve_left hq))
    have hc' : Go.Proofs.Ytjfpijoeddjgmaa.cant srt (m1.aim srt p (p0 srt m.s p) q) q (infAt srt m.s p) := hc
    show ThrI srt S F ρ s0 p p m ((m1.aim srt p (p0 srt m.s p) q).look srt q) ∧ (d = 0 → ((m1.aim srt p (p0 srt m.s p) q).look srt q).moved = false → _)
    rw [hlk]
    refine ⟨⟨a1, a2, hp, rfl, Nat.le_refl _, fun _ => ?_, fun a ha => ?_⟩, fun hd hm _ _ _ hfix => ?_⟩
    · rw [a3, hk]; decide
    · have hne : a ≠ p := fun e => by
        rw [e] at ha
        rcases ha with ha | ha
        · omega
        · exact ha hs
      obtain ⟨b1, b2⟩ := hT.frame a (ha.imp (fun h => Nat.lt_trans (hI.low p hS hs) h) id)
      exact ⟨(a5 a hne).1.trans b1, (a5 a hne).2.trans b2⟩
    · obtain ⟨hm1, hs1, e | e⟩ := aim_mv hm
      · have hst : (m1.aim srt p (p0 srt m.s p) q).s = m.s := hs1.trans (h1.mv hm1).2
        refine hI.selN p hS hs h0 fun hpk => ?_
        rw [hfix, ← e] at hpk
        rcases hc' with h2 | h2 | h2 | h2
        · rw [hlk] at h2; exact h2 a2
        · rw [hst] at h2; exact h2 hpk.2.1
        · rw [hst] at h2; exact h2 hpk.2.2.1
        · rw [hst] at h2; have := hpk.2.2.2; omega
      · exact absurd hT.e e
  | @ring d seen p m q m1 m2 h ok hk hp' h1 hq hc hr ih =>
    intro hI he hp hseen
    have hS : S p := hp.resolve_left fun h0 => h (.inl h0)
    have hs : Sel (infAt srt m.s p) := ⟨hk, fun h0 => hp' (.inl h0)⟩
    have h0 : p0 srt m.s p ≠ 0 := fun h0 => hp' (.inr (.inr h0))
    obtain ⟨hT, _⟩ := ih hI he (hI.p0S hS 0) fun x hx => by cases hx
    obtain ⟨a1, a2, a3, a4, a5⟩ := hI.aim U H hS hs hT h0
    obtain ⟨hpk, hqF⟩ : Picks srt (m1.aim srt p (p0 srt m.s p) q).s q (infAt srt m.s p) ∧ F q = q := by
      have hc' : ¬ Go.Proofs.Ytjfpijoeddjgmaa.cant srt (m1.aim srt p (p0 srt m.s p) q) q (infAt srt m.s p) := hc
      unfold Go.Proofs.Ytjfpijoeddjgmaa.cant at hc'
      have hkind : (infAt srt (m1.aim srt p (p0 srt m.s p) q).s q).kind = 0 := Classical.byContradiction fun hn => hc' (.inr (.inl hn))
      refine ⟨⟨hq, hkind, Classical.byContradiction fun hn => hc' (.inr (.inr (.inl hn))), ?_⟩, ?_⟩
      · exact Classical.byContradiction fun hn => hc' (.inr (.inr (.inr (by omega))))
      · refine a1.nor q (hT.rS.resolve_left hq) (by rw [hkind]; decide) fun hh => ?_
        have hh1 := hh.1
        rw [hkind] at hh1; cases hh1
    have hqe : F (p0 srt (m1.aim srt p (p0 srt m.s p) q).s p) = q := by rw [a4]; exact hqF
    obtain ⟨_, hρ⟩ := a1.selY p hS (by rw [a3]; exact hs) (by rw [a4]; exact hq) (by rw [hqe, a3]; exact hpk)
    rw [hqe, a3] at hρ
    obtain ⟨_, hfalse⟩ := Rch.inv hr a1 a2 (a1.p0S (hT.rS.resolve_left hq) _)
    exact absurd (hfalse hρ) (by decide)
  | @go d seen p m q m1 m2 r m3 h ok hk hp' h1 hq hc hr hn ih1 ih2 =>
    intro hI he hp hseen
    have hS : S p := hp.resolve_left fun h0 => h (.inl h0)
    have hs : Sel (infAt srt m.s p) := ⟨hk, fun h0 => hp' (.inl h0)⟩
    have h0 : p0 srt m.s p ≠ 0 := fun h0 => hp' (.inr (.inr h0))
    obtain ⟨hT, _⟩ := ih1 hI he (hI.p0S hS 0) fun x hx => by cases hx
    obtain ⟨a1, a2, a3, a4, a5⟩ := hI.aim U H hS hs hT h0
    obtain ⟨hpk, hqF⟩ : Picks srt (m1.aim srt p (p0 srt m.s p) q).s q (infAt srt m.s p) ∧ F q = q := by
      have hc' : ¬ Go.Proofs.Ytjfpijoeddjgmaa.cant srt (m1.aim srt p (p0 srt m.s p) q) q (infAt srt m.s p) := hc
      unfold Go.Proofs.Ytjfpijoeddjgmaa.cant at hc'
      have hkind : (infAt srt (m1.aim srt p (p0 srt m.s p) q).s q).kind = 0 := Classical.byContradiction fun hn => hc' (.inr (.inl hn))
      refine ⟨⟨hq, hkind, Classical.byContradiction fun hn => hc' (.inr (.inr (.inl hn))), ?_⟩, ?_⟩
      · exact Classical.byContradiction fun hn => hc' (.inr (.inr (.inr (by omega))))
      · refine a1.nor q (hT.rS.resolve_left hq) (by rw [hkind]; decide) fun hh => ?_
        have hh1 := hh.1
        rw [hkind] at hh1; cases hh1
    have hqe : F (p0 srt (m1.aim srt p (p0 srt m.s p) q).s p) = q := by rw [a4]; exact hqF
    have hs1 : Sel (infAt srt (m1.aim srt p (p0 srt m.s p) q).s p) := by rw [a3]; exact hs
    obtain ⟨hFf, hρ⟩ := a1.selY p hS hs1 (by rw [a4]; exact hq) (by rw [hqe, a3]; exact hpk)
    rw [hqe, a3] at hFf hρ
    have hfS := a1.p0S (hT.rS.resolve_left hq) ((infAt srt m.s p).pick - 1).toNat
    have hm2 : m2 = m1.aim srt p (p0 srt m.s p) q := (Rch.inv hr a1 a2 hfS).1
    obtain ⟨t, i6, ht, _, hi6, hTu⟩ := ind_turned U (a := p) (r := field srt (m1.aim srt p (p0 srt m.s p) q).s q (infAt srt m.s p)) a1.cl.wf (a1.ok p hS) (a1.cl.range (a1.vok hfS))
    have hI2 := a1.turn H hS hs1 hfS hFf hρ hi6 hTu
    have hm3 : m2.ind srt p (field srt (m1.aim srt p ((ptrAt srt m.s p).getD 0 0) q).s q (infAt srt m.s p)) = { m2 with s := t, moved := true } := by
      unfold MK.ind
      rw [hm2]
      rw [show indM srt (m1.aim srt p (p0 srt m.s p) q).s p (field srt (m1.aim srt p ((ptrAt srt m.s p).getD 0 0) q).s q (infAt srt m.s p)) = (0, t) from ht]
    rw [hm3] at ih2 hn
    obtain ⟨hT2, _⟩ := ih2 hI2 (by rw [hm2]; exact a2) hfS fun x hx => by
      rcases List.mem_append.1 hx with hx | hx
      · exact Nat.lt_trans hρ (hseen x hx)
      · rw [List.mem_singleton] at hx; rw [hx]; exact hρ
    refine ⟨⟨hT2.inv, hT2.e, hT2.rS, hT2.rF.trans hFf.symm, Nat.le_trans hT2.rρ (Nat.le_of_lt hρ), hT2.kind, fun a ha => ?_⟩, fun _ hm => by cases (hn.mv hm).1⟩
    have hne : a ≠ p := fun e => by
      rw [e] at ha
      rcases ha with ha | ha
      · omega
      · exact ha hs
    obtain ⟨b1, b2⟩ := hT.frame a (ha.imp (fun h => Nat.lt_trans (hI.low p hS hs) h) id)
    have b3 : infAt srt t a = infAt srt m.s a := by rw [hTu.inf, if_neg hne, (a5 a hne).1, b1]
    have b4 : ptrAt srt t a = ptrAt srt m.s a := by rw [hTu.ptr, if_neg hne, (a5 a hne).2, b2]
    obtain ⟨c1, c2⟩ := hT2.frame a (ha.imp (fun h => Nat.lt_trans hρ h) fun hn => by
      show ¬ Sel (infAt srt t a)
      rw [b3]; exact hn)
    exact ⟨c1.trans b3, c2.trans b4⟩
end
/-- All that is marked or waits is among the closures. -/
def MkS (S : Int → Prop) (m : MK) : Prop := ∀ x, x ∈ m.seen ∨ x ∈ m.wait → S x
section
variable {srt : List Inf} (U : SortsUp srt) {S : Int → Prop} {F : Int → Int} {ρ : Int → Nat} (H : Stands S F ρ) {s0 : HS}
include U H
theorem Rea.inv {most p r : Int} {m m' : MK} (h : Rea srt most p m r m') (hI : Inv srt S F ρ s0 m.s) (he : m.e = 0) (hM : MkS S m) (hp : p = 0 ∨ S p) : ThrI srt S F ρ s0 p r m m' ∧ MkS S m' := by
  cases h with
  | old h ho =>
    have hk := h.kept
    exact ⟨(h.inv U H hI he hp (fun x hx => by cases hx)).1, fun x hx => hM x (hx.imp (fun h => by rw [← hk.seen]; exact h) (fun h => by rw [← hk.wait]; exact h))⟩
  | new h ho =>
    rename_i m1
    have hk := h.kept
    have hT := (h.inv U H hI he hp (fun x hx => by cases hx)).1
    refine ⟨⟨by rw [note_s]; exact hT.inv, by rw [note_e]; exact hT.e, hT.rS, hT.rF, hT.rρ, by rw [note_s]; exact hT.kind, by rw [note_s]; exact hT.frame⟩, fun x hx => ?_⟩
    have hr : S r := hT.rS.resolve_left fun h0 => ho (.inl h0)
    have hM1 : MkS S m1 := fun x hx => hM x (hx.imp (fun h => by rw [← hk.seen]; exact h) (fun h => by rw [← hk.wait]; exact h))
    unfold MK.note at hx
    split at hx <;> simp only [List.mem_append, List.mem_singleton] at hx
    · rcases hx with (h | h) | h
      · exact hM1 x (.inl h)
      · rw [h]; exact hr
      · exact hM1 x (.inr h)
    · rcases hx with (h | h) | h | h
      · exact hM1 x (.inl h)
      · rw [h]; exact hr
      · exact hM1 x (.inr h)
      · rw [h]; exact hr
theorem Bel.inv {most a : Int} {i : Nat} {l : List Int} {m m' : MK} (h : Bel srt most a i l m m') : Inv srt S F ρ s0 m.s → m.e = 0 → MkS S m → S a → (ptrAt srt m.s a).drop i = l → i + l.length = (ptrAt srt m.s a).length →
    (¬ Sel (infAt srt m.s a) ∨ ∀ q ∈ l, ρ q < ρ a) → Inv srt S F ρ s0 m'.s ∧ m'.e = 0 ∧ MkS S m' := by
  induction h with
  | nil => exact fun hI he hM _ _ _ _ => ⟨hI, he, hM⟩
  | @cons i q l m r m1 m' h hn ih =>
    intro hI he hM ha hd hl hK
    have hqm : q ∈ ptrAt srt m.s a := List.mem_of_mem_drop (i := i) (by rw [hd]; exact List.mem_cons_self ..)
    have hqS : q = 0 ∨ S q := hI.ptr a ha q hqm
    obtain ⟨hT, hM1⟩ := h.inv U H hI he hM hqS
    obtain ⟨f1, f2⟩ := hT.frame a (hK.symm.imp (fun h => h q (List.mem_cons_self ..)) id)
    have hdn : (ptrAt srt m1.s a).drop (i + 1) = l := by
      rw [f2, ← List.drop_drop, hd, List.drop_one, List.tail_cons]
    have hl' : i + 1 + l.length = (ptrAt srt m1.s a).length := by rw [f2, ← hl, List.length_cons]; omega
    have hi : i < (ptrAt srt m1.s a).length := by omega
    have hK' : ¬ Sel (infAt srt m1.s a) ∨ ∀ q ∈ l, ρ q < ρ a := by
      rw [f1]; exact hK.imp id fun h q hq => h q (List.mem_cons_of_mem _ hq)
    by_cases hc : r ≠ q ∧ m1.e = 0
    · rw [if_pos hc] at hn ih
      have e3 : (ptrAt srt m1.s a)[i] = q := by
        have h0 : ((ptrAt srt m1.s a).drop i)[0]? = some q := by rw [f2, hd]; rfl
        rw [List.getElem?_drop, Nat.add_zero, List.getElem?_eq_getElem hi] at h0
        exact Option.some.inj h0
      have hq0 : q ≠ 0 := fun h0 => by
        have h1 := hT.rρ
        rw [h0] at h1
        have hr0 : r = 0 := hT.rS.resolve_right fun hS => by have := H.pos r hS; omega
        exact hc.1 (by rw [hr0, h0])
      have hr := hT.inv.vok hT.rS
      obtain ⟨t, ht, hTu⟩ := point_turned U hT.inv.cl.wf (hT.inv.ok a ha) hi (hT.inv.cl.range hr)
      have e4 : m1.point srt a i r = { m1 with s := t, moved := true } := by unfold MK.point; rw [ht]
      rw [e4] at hn ih
      have h1 : (infAt srt m1.s a).kind = 6 ∨ Sel (infAt srt m1.s a) → (ptrAt srt m1.s a).length = 1 := fun hh => by
        obtain ⟨x, hx⟩ := hT.inv.one U hh
        rw [hx]; rfl
      have hI2 : Inv srt S F ρ s0 t := hT.inv.point H ha hi (by rw [e3]; exact hq0) hT.rS (by rw [e3]; exact hT.rF) (by rw [e3]; exact hT.rρ) h1 hTu
      refine ih hI2 hT.e hM1 ha ?_ ?_ ?_
      · show (ptrAt srt t a).drop (i + 1) = l
        rw [hTu.ptr, if_pos rfl, List.drop_set_of_lt (by omega)]
        exact hdn
      · show i + 1 + l.length = (ptrAt srt t a).length
        rw [hTu.ptr, if_pos rfl, List.length_set]; exact hl'
      · show ¬ Sel (infAt srt t a) ∨ _
        rw [hTu.inf, if_pos rfl]; exact hK'
    · rw [if_neg hc] at hn ih
      exact ih hT.inv hT.e hM1 ha hdn hl' hK'
theorem Below'.inv {most a : Int} {m m' : MK} (h : Below' srt most a m m') (hI : Inv srt S F ρ s0 m.s) (he : m.e = 0) (hM : MkS S m) (ha : S a) : Inv srt S F ρ s0 m'.s ∧ m'.e = 0 ∧ MkS S m' := by
  unfold Below' at h
  rw [look_ok (hI.ok a ha)] at h
  refine Bel.inv U H h hI he hM ha rfl (by rw [Nat.zero_add]) ?_
  by_cases hs : Sel (infAt srt m.s a)
  · right
    intro q hq
    obtain ⟨x, hx⟩ := hI.one U (.inr hs)
    have hl := hI.low a ha hs
    unfold p0 at hl
    rw [hx] at hq hl
    rw [List.mem_singleton] at hq
    rw [hq]; exact hl
  · exact .inl hs
theorem Dra.inv {most : Int} {m m' : MK} (h : Dra srt most m m') : Inv srt S F ρ s0 m.s → m.e = 0 → MkS S m → Inv srt S F ρ s0 m'.s ∧ m'.e = 0 ∧ MkS S m' := by
  induction h with
  | stop h => exact fun hI he hM => ⟨hI, he, hM⟩
  | @step m ws p m1 m' hw he h hn ih =>
    intro hI he hM
    obtain ⟨k1, k2, k3⟩ := Below'.inv U H (s0 := s0) h hI he (fun x hx => hM x (hx.imp id fun h => by rw [hw]; exact List.mem_append_left _ h)) (hM p (.inr (by rw [hw]; exact List.mem_append_right _ (List.mem_singleton_self _))))
    exact ih k1 k2 k3
theorem Rts.inv {most : Int} {l os : List Int} {m m' : MK} (h : Rts srt most l m os m') : Inv srt S F ρ s0 m.s → m.e = 0 → MkS S m → (∀ r ∈ l, r = 0 ∨ S r) → Inv srt S F ρ s0 m'.s ∧ m'.e = 0 ∧ MkS S m' := by
  induction h with
  | nil => exact fun hI he hM _ => ⟨hI, he, hM⟩
  | cons h hd hn ih =>
    intro hI he hM hr
    obtain ⟨hT, hM1⟩ := h.inv U H hI he hM (hr _ (List.mem_cons_self ..))
    obtain ⟨k1, k2, k3⟩ := hd.inv U H hT.inv hT.e hM1
    exact ih k1 k2 k3 fun r h => hr r (List.mem_cons_of_mem _ h)
theorem Swp.inv {most : Int} {l : List Int} {m m' : MK} (h : Swp srt most l m m') : Inv srt S F ρ s0 m.s → m.e = 0 → MkS S m → (∀ r ∈ l, S r) → Inv srt S F ρ s0 m'.s ∧ m'.e = 0 ∧ MkS S m' := by
  induction h with
  | nil => exact fun hI he hM _ => ⟨hI, he, hM⟩
  | cons h hd hn ih =>
    intro hI he hM hr
    obtain ⟨j1, j2, j3⟩ := Below'.inv U H h hI he hM (hr _ (List.mem_cons_self ..))
    obtain ⟨k1, k2, k3⟩ := hd.inv U H j1 j2 j3
    exact ih k1 k2 k3 fun r h => hr r (List.mem_cons_of_mem _ h)
theorem Agn.inv {most : Int} {m m' : MK} (h : Agn srt most m m') : Inv srt S F ρ s0 m.s → m.e = 0 → MkS S m → Inv srt S F ρ s0 m'.s ∧ m'.e = 0 ∧ MkS S m' := by
  induction h with
  | stop h => exact fun hI he hM => ⟨hI, he, hM⟩
  | @step m m1 m' ho he h hn ih =>
    intro hI he hM
    obtain ⟨k1, k2, k3⟩ := h.inv U H (s0 := s0) hI he hM fun r hr => hM r (.inl (mem_sorted.1 hr))
    exact ih k1 k2 k3
theorem Rnd.inv {most : Int} {roots out : List Int} {m m' : MK} (h : Rnd srt most roots m out m') (hI : Inv srt S F ρ s0 m.s) (he : m.e = 0) (hw : m.wait = []) (hr : ∀ r ∈ roots, r = 0 ∨ S r) : Inv srt S F ρ s0 m'.s ∧ m'.e = 0 ∧ MkS S m' := by
  obtain ⟨m1, h1, h2⟩ := h
  obtain ⟨k1, k2, k3⟩ := h1.inv U H (s0 := s0) hI he (fun x hx => by
    rcases hx with hx | hx
    · cases hx
    · have hx' : x ∈ m.wait := hx
      rw [hw] at hx'; cases hx') hr
  exact h2.inv U H k1 k2 k3
end
/-- What Mark leaves where nothing goes round: what the roots stand for, and what is reached from there by what pointers stand for. -/
structure Canon (srt : List Inf) (S : Int → Prop) (F : Int → Int) (s0 : HS) (roots out : List Int) (m' : MK) : Prop where
  e : m'.e = 0
  out : out = roots.map F
  seen : ∀ x, x ∈ m'.seen → S x ∧ F x = x ∧ infAt srt m'.s x = infAt srt s0 x ∧ ptrAt srt m'.s x = (ptrAt srt s0 x).map F
  outs : ∀ r ∈ roots, F r ≠ 0 → F r ∈ m'.seen
  closed : ∀ x ∈ m'.seen, ∀ q ∈ ptrAt srt s0 x, F q ≠ 0 → F q ∈ m'.seen
  least : ∀ R : Int → Prop, (∀ r ∈ roots, F r ≠ 0 → R (F r)) → (∀ x, R x → S x → F x = x → ∀ q ∈ ptrAt srt s0 x, F q ≠ 0 → R (F q)) → ∀ x ∈ m'.seen, R x
  nodup : m'.seen.Nodup
theorem Rds.canon {srt : List Inf} (U : SortsUp srt) {S : Int → Prop} {F : Int → Int} {ρ : Int → Nat} (H : Stands S F ρ) {most : Int} {roots o' : List Int} {s : HS} {m' : MK} (h : Rds srt most roots [] ⟨s, [], [], false, true, 0⟩ o' m') (hI : Inv srt S F ρ s s) (hr : ∀ r ∈ roots, r = 0 ∨ S r)
    (hnd : ∀ m o m1, Rnd srt most roots m o m1 → m1.seen.Nodup) : Canon srt S F s roots o' m' ∧ Inv srt S F ρ s m'.s := by
  obtain ⟨hI', he', ml, hl, hle, hlI, hlw, hlm⟩ := h.last (I := fun m => Inv srt S F ρ s m.s ∧ m.wait = []) (A := fun o m => ∃ ml, Rnd srt most roots ml o m ∧ ml.e = 0 ∧ Inv srt S F ρ s ml.s ∧ ml.wait = [] ∧ m.moved = false)
    (fun m o m1 hI he hR => by
      obtain ⟨k1, k2, k3⟩ := hR.inv U H hI.1 he hI.2 hr
      exact ⟨⟨k1, hR.wait k2 hI.2⟩, k2, fun hm => ⟨m, hR, he, hI.1, hI.2, hm⟩⟩) ⟨hI, rfl⟩ rfl (fun h => by cases h)
  obtain ⟨hs, hL⟩ := hl.last hlw hle he' hlm
  have hseenS := (hl.inv U H hlI hle hlw hr).2.2
  -- what a pointer tells of, while nothing moves
  have hTF : ∀ p r, TF srt ml.s p r → (p = 0 ∨ S p) → F r = F p ∧ (r = 0 ∨ S r) ∧ (r ≠ 0 → (infAt srt ml.s r).kind ≠ 6 ∧ (Sel (infAt srt ml.s r) → p0 srt ml.s r ≠ 0 → F (p0 srt ml.s r) = p0 srt ml.s r → F r = r)) := by
    rintro p r ⟨ma, mb, ht, e1, e2, e3, e4, e5⟩ hp
    obtain ⟨hT, hK⟩ := ht.inv U H (s0 := s) (by rw [e1]; exact hlI) e4 hp (fun x hx => by cases hx)
    have hk := hT.kind
    rw [e2] at hk
    rw [e1] at hK
    exact ⟨hT.rF, hT.rS, fun h0 => ⟨hk h0, hK rfl e3 h0⟩⟩
  have hG : ∀ x ∈ m'.seen, S x ∧ (infAt srt ml.s x).kind ≠ 6 ∧ (Sel (infAt srt ml.s x) → p0 srt ml.s x ≠ 0 → F (p0 srt ml.s x) = p0 srt ml.s x → F x = x) := by
    refine hL.gen _ (fun p hp o ho h0 ht => ?_) (fun x hx q hq h0 ht => ?_)
    · obtain ⟨_, k2, k3⟩ := hTF p o ht (hr p hp)
      exact ⟨k2.resolve_left h0, k3 h0⟩
    · obtain ⟨_, k2, k3⟩ := hTF q q ht (hlI.ptr x hx.1 q hq)
      exact ⟨k2.resolve_left h0, k3 h0⟩
  have hfix : ∀ (k : Nat) x, x ∈ m'.seen → ρ x ≤ k → F x = x := by
    intro k
    induction k with
    | zero =>
      intro x hx hk
      have := H.pos x (hG x hx).1
      omega
    | succ k ih =>
      intro x hx hk
      obtain ⟨g1, g2, g3⟩ := hG x hx
      by_cases hs : Sel (infAt srt ml.s x)
      · by_cases h0 : p0 srt ml.s x = 0
        · exact hlI.sel0 x g1 hs h0
        · have hl := hlI.low x g1 hs
          obtain ⟨y, hy⟩ := hlI.one U (.inr hs)
          have hy0 : p0 srt ml.s x = y := by unfold p0; rw [hy]; rfl
          have hm : p0 srt ml.s x ∈ m'.seen := (hL.closed x hx).2 _ (by rw [hy, hy0]; exact List.mem_singleton_self _) h0
          exact g3 hs h0 (ih _ hm (by omega))
      · exact hlI.nor x g1 g2 hs
  have hfx : ∀ x ∈ m'.seen, F x = x := fun x hx => hfix _ x hx (Nat.le_refl _)
  have hptr : ∀ x ∈ m'.seen, ptrAt srt ml.s x = (ptrAt srt s x).map F := fun x hx => by
    have h1 := (hlI.fix x (hG x hx).1 (hfx x hx)).2
    rw [← h1]
    conv => lhs; rw [← List.map_id (ptrAt srt ml.s x)]
    refine List.map_congr_left fun q hq => ?_
    by_cases h0 : q = 0
    · rw [h0, H.f0]; rfl
    · exact (hfx q ((hL.closed x hx).2 q hq h0)).symm
  have hout : ∀ i, i < roots.length → o'.getD i 0 = F (roots.getD i 0) := fun i hi => by
    have hp : roots.getD i 0 ∈ roots := getD_mem hi
    obtain ⟨k1, k2, _⟩ := hTF _ _ (hL.each i hi) (hr _ hp)
    by_cases h0 : o'.getD i 0 = 0
    · rw [h0, H.f0] at k1
      exact h0.trans k1
    · rw [← k1]
      exact (hfx _ (hL.outs _ (getD_mem (by rw [hL.len]; exact hi)) h0)).symm
  have ho' : o' = roots.map F := by
    refine List.ext_getElem (by rw [List.length_map, hL.len]) fun i h1 h2 => ?_
    have hi : i < roots.length := by simpa using h2
    have := hout i hi
    rw [List.getD_eq_getElem?_getD, List.getElem?_eq_getElem h1, List.getD_eq_getElem?_getD, List.getElem?_eq_getElem hi] at this
    rw [List.getElem_map]; exact this
  refine ⟨⟨he', ho', fun x hx => ?_, fun r hr' h0 => ?_, fun x hx q hq h0 => ?_, fun R hR1 hR2 x hx => ?_, hnd _ _ _ hl⟩, hI'.1⟩
  · refine ⟨(hG x hx).1, hfx x hx, ?_, ?_⟩
    · rw [hs]; exact (hlI.fix x (hG x hx).1 (hfx x hx)).1
    · rw [hs]; exact hptr x hx
  · exact hL.outs _ (by rw [ho']; exact List.mem_map.2 ⟨r, hr', rfl⟩) h0
  · exact (hL.closed x hx).2 _ (by rw [hptr x hx]; exact List.mem_map.2 ⟨q, hq, rfl⟩) h0
  · have hfull : ∀ x ∈ m'.seen, x ∈ m'.seen ∧ R x := by
      have hgen := hL.gen (fun x => x ∈ m'.seen ∧ R x) (fun p hp o ho h0 ht => ?_) (fun y hy q hq h0 ht => ?_)
      · exact hgen
      · obtain ⟨k1, _, _⟩ := hTF p o ht (hr p hp)
        have hm := hL.outs o ho h0
        rw [hfx o hm] at k1
        refine ⟨hm, ?_⟩
        rw [k1]
        exact hR1 p hp (by rw [← k1]; exact h0)
      · have hm := (hL.closed y hy.1).2 q hq h0
        refine ⟨hm, ?_⟩
        rw [hptr y hy.1] at hq
        obtain ⟨q', hq', e⟩ := List.mem_map.1 hq
        rw [← e]
        exact hR2 y hy.2 (hG y hy.1).1 (hfx y hy.1) q' hq' (by rw [e]; exact h0)
    exact (hfull x hx).2
end Go.Proofs.Ytjfpijoeddjgmaa
