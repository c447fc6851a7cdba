/- Room2, Room3, Room4 in one text. Conditions: as each says. -/
import Derived.Test.YtjfpijoeddjgmaaLives20
import Derived.Test.YtjfpijoeddjgmaaCollectArgs
/- How many cells of two words a heap still has; two heaps that agree on a closure. No condition. -/
namespace Go.Proofs.Ytjfpijoeddjgmaa
open Go.RowKit Hm
set_option linter.unusedVariables false

/-- How many cells of two words a block still has. -/
def room2 (s : HS) (b : Nat) : Nat := if s.kind b = 0 then 16 else if s.kind b = 2 then 16 - s.cnt b else 0
def sumTo (f : Nat → Nat) : Nat → Nat
  | 0 => 0
  | m + 1 => sumTo f m + f m
theorem sum_congr {f g : Nat → Nat} : ∀ m, (∀ b, b < m → f b = g b) → sumTo f m = sumTo g m
  | 0, _ => rfl
  | m + 1, h => by
    show sumTo f m + f m = sumTo g m + g m
    rw [sum_congr m (fun b hb => h b (by omega)), h m (by omega)]
theorem sum_le {f g : Nat → Nat} : ∀ m, (∀ b, b < m → f b ≤ g b) → sumTo f m ≤ sumTo g m
  | 0, _ => Nat.le_refl _
  | m + 1, h => by
    have h1 := sum_le m (fun b hb => h b (by omega))
    have h2 := h m (by omega)
    show sumTo f m + f m ≤ sumTo g m + g m
    omega
theorem sum_one {f g : Nat → Nat} {b0 : Nat} : ∀ m, b0 < m → (∀ b, b < m → b ≠ b0 → g b = f b) → g b0 + 1 = f b0 → sumTo g m + 1 = sumTo f m
  | 0, h, _, _ => by omega
  | m + 1, h, ho, h1 => by
    show sumTo g m + g m + 1 = sumTo f m + f m
    by_cases e : b0 = m
    · subst e
      rw [sum_congr b0 (fun b hb => ho b (by omega) (by omega))]
      omega
    · have := sum_one m (by omega) (fun b hb hne => ho b (by omega) hne) h1
      have := ho m (by omega) (fun e' => e e'.symm)
      omega
theorem sum_zero {f : Nat → Nat} : ∀ m, sumTo f m = 0 → ∀ b, b < m → f b = 0
  | 0, _, b, hb => by omega
  | m + 1, h, b, hb => by
    have h' : sumTo f m + f m = 0 := h
    by_cases e : b = m
    · subst e; omega
    · exact sum_zero m (by omega) b (by omega)
def rooms (s : HS) : Nat := sumTo (room2 s) s.n
/-- A cell of two words: had while there is room, and then there is room for one less. -/
theorem alloc2 {s : HS} (h : s.WF) : (0 < rooms s → ∃ a t, s.alloc 2 = (a, 0, t) ∧ t.WF ∧ HS.New s t a ∧ t.cap a = 2 ∧ rooms t + 1 = rooms s) ∧ (rooms s = 0 → (s.alloc 2).2.1 ≠ 0) := by
  have hcls : cls (2 : Int).toNat = 2 := rfl
  have hc2 : isCls 2 := .inl rfl
  have hwf := h.alloc 2
  have hcase := HS.alloc_cases h 2
  have hdef : s.alloc 2 = (match s.blk 2 with
    | some b => (1 + 32 * b + 2 * ((s.slot 2 b).getD 0), 0, s.takeSlot (1 + 32 * b + 2 * ((s.slot 2 b).getD 0)))
    | none => match s.run 1 with
      | some b => (1 + 32 * b, 0, s.takeNew b 2)
      | none => (0, 9, s)) := by
    unfold HS.alloc
    rw [if_neg (by decide), if_neg (by decide), hcls]
    rfl
  cases hb : s.blk 2 with
  | some b =>
    obtain ⟨hbn, hk, ⟨j, hj⟩, _⟩ := HS.blk_some hb
    have hcnt : s.cnt b < 16 := (HS.slot_isSome hc2 hk).1 (by rw [hj]; rfl)
    have hk2 : s.kind b = 2 := hk
    rw [hb] at hdef
    simp only at hdef
    rw [hj] at hdef
    simp only [Option.getD_some] at hdef
    have hj2 := HS.slot_some hj
    have hjl : 2 * j < 32 := hc2.lt_iff.2 hj2.1
    have hr0 : 0 < room2 s b := by unfold room2; rw [if_neg (by omega), if_pos hk2]; omega
    refine ⟨fun _ => ?_, fun h0 => ?_⟩
    · refine ⟨_, _, hdef, by rw [hdef] at hwf; exact hwf, ?_, ?_, ?_⟩
      · rcases hcase with ⟨h1, _⟩ | ⟨_, _, _, h4, _⟩
        · rw [hdef] at h1; exact absurd rfl h1
        · rw [hdef] at h4; exact h4
      · rcases hcase with ⟨h1, _⟩ | ⟨_, _, _, _, h5⟩
        · rw [hdef] at h1; exact absurd rfl h1
        · rw [hdef] at h5; exact h5.trans (by rw [if_neg (by decide)]; rfl)
      · show sumTo (room2 (s.takeSlot _)) s.n + 1 = sumTo (room2 s) s.n
        have hct := fun b' => HS.cnt_takeSlot h hc2 hk hjl hj2.2.1 b'
        refine sum_one s.n hbn (fun b' hb' hne => ?_) ?_
        · unfold room2
          rw [hct b', if_neg hne]; rfl
        · unfold room2
          rw [hct b, if_pos rfl]
          show (if s.kind b = 0 then _ else if s.kind b = 2 then _ else _) + 1 = _
          rw [if_neg (by omega), if_pos hk2, if_neg (by omega), if_pos hk2]
          omega
    · have := sum_zero s.n h0 b hbn
      omega
  | none =>
    rw [hb] at hdef
    simp only at hdef
    cases hr : s.run 1 with
    | some b =>
      rw [hr] at hdef
      simp only at hdef
      have hf := HS.run_free hr 0 (by omega)
      rw [Nat.add_zero] at hf
      have hbn : b < s.n := by have := HS.run_some hr; omega
      refine ⟨fun _ => ?_, fun h0 => ?_⟩
      · refine ⟨_, _, hdef, by rw [hdef] at hwf; exact hwf, ?_, ?_, ?_⟩
        · rcases hcase with ⟨h1, _⟩ | ⟨_, _, _, h4, _⟩
          · rw [hdef] at h1; exact absurd rfl h1
          · rw [hdef] at h4; exact h4
        · rcases hcase with ⟨h1, _⟩ | ⟨_, _, _, _, h5⟩
          · rw [hdef] at h1; exact absurd rfl h1
          · rw [hdef] at h5; exact h5.trans (by rw [if_neg (by decide)]; rfl)
        · show sumTo (room2 (s.takeNew b 2)) s.n + 1 = sumTo (room2 s) s.n
          have hct := fun b' => HS.cnt_takeNew h hc2 hf b'
          refine sum_one s.n hbn (fun b' hb' hne => ?_) ?_
          · unfold room2
            rw [hct b', if_neg hne]
            show (if upd s.kind b ((2 : Nat) : Int) b' = 0 then _ else if upd s.kind b ((2 : Nat) : Int) b' = 2 then _ else _) = _
            rw [upd_other _ _ hne]
          · unfold room2
            rw [hct b, if_pos rfl]
            show (if upd s.kind b ((2 : Nat) : Int) b = 0 then _ else if upd s.kind b ((2 : Nat) : Int) b = 2 then _ else _) + 1 = _
            rw [upd_same, if_neg (by decide), if_pos (by decide), if_pos hf]
      · have h1 := sum_zero s.n h0 b hbn
        unfold room2 at h1
        rw [if_pos hf] at h1
        omega
    | none =>
      rw [hr] at hdef
      simp only at hdef
      refine ⟨fun h0 => ?_, fun _ => by rw [hdef]; simp⟩
      exfalso
      have hz : sumTo (room2 s) s.n = sumTo (fun _ => 0) s.n := sum_congr s.n fun b hb' => by
        unfold room2
        obtain ⟨i, hi, hne⟩ := HS.run_none hr b (by omega)
        have hi0 : i = 0 := by omega
        subst hi0
        rw [Nat.add_zero] at hne
        rw [if_neg hne]
        split
        · rename_i hk
          have hk2 : s.kind b = ((2 : Nat) : Int) := hk
          have hsl := HS.blk_none hb b hb' hk2
          have hnl : ¬ s.cnt b < 32 / 2 := fun hlt => by
            have := (HS.slot_isSome hc2 hk2).2 hlt
            rw [hsl] at this; cases this
          omega
        · rfl
      have hz2 : ∀ m, sumTo (fun _ => 0) m = 0 := fun m => by
        induction m with
        | zero => rfl
        | succ m ih => show sumTo _ m + 0 = 0; rw [ih]
      unfold rooms at h0
      rw [hz, hz2] at h0
      omega
/-- A heap with fewer cells, each as it was, has no less room. -/
theorem rooms_le {s u : HS} (hs : s.WF) (hu : u.WF) (hn : u.n = s.n) (hsub : ∀ x, u.used x = true → s.used x = true ∧ u.cap x = s.cap x) : rooms s ≤ rooms u := by
  have hkind : ∀ b, u.kind b = 0 ∨ u.kind b = s.kind b := by
    intro b
    have hone : ∀ b, u.kind b = -1 → s.kind b = -1 := fun b hb => by
      have h1 := hu.headUsed b hb
      obtain ⟨h2, h3⟩ := hsub _ h1
      have h4 : u.cap (1 + 32 * b) = 64 := (HS.cap_val (b := b) (K := -1) h1 (by omega) hb).trans (by simp)
      rw [h3] at h4
      rcases hs.used_cases h2 with ⟨b', _, hk, _, e, _⟩ | ⟨b', c, j, _, hc, hk, _, e, e2⟩
      · have : b' = b := by omega
        subst this; exact hk
      · have := hc.le; omega
    by_cases hb : b < u.n
    · rcases hu.kinds b hb with h0 | h0 | h0 | ⟨c, hc, h0⟩
      · exact .inl h0
      · right; rw [h0, hone b h0]
      · right
        obtain ⟨b', rfl, h1⟩ := hu.tail b h0
        rw [h0, hs.head b' (hone b' h1)]
      · right
        obtain ⟨j, hj, hx⟩ := hu.some b c hc h0
        obtain ⟨h2, h3⟩ := hsub _ hx
        have hpos := hc.pos
        have h4 : u.cap (1 + 32 * b + c * j) = c := (HS.cap_val (b := b) (K := (c : Int)) hx (by omega) h0).trans (by rw [if_neg (by omega)]; rfl)
        rw [h3] at h4
        rcases hs.used_cases h2 with ⟨b', _, hk, _, e, e2⟩ | ⟨b', c', j', _, hc', hk, hj', e, e2⟩
        · have := hc.le; omega
        · have hbb : b' = b := by omega
          subst hbb
          rw [h0, hk, ← e2, h4]
    · left; exact hu.out b (by omega)
  unfold rooms
  rw [hn]
  refine sum_le s.n fun b hb => ?_
  unfold room2
  rcases hkind b with h0 | h0
  · rw [if_pos h0]
    split
    · omega
    · split <;> omega
  · rw [h0]
    split
    · omega
    · split
      · rename_i hk0 hk2
        have hle : u.cnt b ≤ s.cnt b := by
          have hk2' : s.kind b = ((2 : Nat) : Int) := hk2
          unfold HS.cnt
          rw [h0, hk2', cntF_cls (.inl rfl), cntF_cls (.inl rfl)]
          exact List.countP_mono_left fun x _ hx => (hsub _ hx).1
        omega
      · omega
end Go.Proofs.Ytjfpijoeddjgmaa

/- A heap filled up with small cells; what Collect leaves of it. No condition. -/
namespace Go.Proofs.Ytjfpijoeddjgmaa
open Go.RowKit Hm
set_option linter.unusedVariables false

/-! ### What is seen is seen once -/
theorem Rea.nodup {srt : List Inf} {most a r : Int} {m m' : MK} (h : Rea srt most a m r m') (hn : m.seen.Nodup) : m'.seen.Nodup := by
  cases h with
  | old h ho => rw [h.kept.seen]; exact hn
  | new h ho =>
    rename_i m1
    have h1 : m1.seen = m.seen := h.kept.seen
    have h2 : (m1.seen ++ [r]).Nodup := by
      rw [h1] at ho ⊢
      refine List.nodup_append.2 ⟨hn, by simp, fun x hx y hy e => ?_⟩
      rw [List.mem_singleton] at hy
      subst hy e
      exact ho (.inr (.inl hx))
    unfold MK.note
    split <;> exact h2
theorem Bel.nodup {srt : List Inf} {most p : Int} {i : Nat} {l : List Int} {m m' : MK} (h : Bel srt most p i l m m') : m.seen.Nodup → m'.seen.Nodup := by
  induction h with
  | nil => exact id
  | cons h hn ih =>
    intro hd
    refine ih ?_
    have := h.nodup hd
    split <;> exact this
theorem Below'.nodup {srt : List Inf} {most p : Int} {m m' : MK} (h : Below' srt most p m m') (hn : m.seen.Nodup) : m'.seen.Nodup := Bel.nodup h (by rw [look_seen]; exact hn)
theorem Dra.nodup {srt : List Inf} {most : Int} {m m' : MK} (h : Dra srt most m m') : m.seen.Nodup → m'.seen.Nodup := by
  induction h with
  | stop h => exact id
  | step hw he h hn ih => exact fun hd => ih (h.nodup hd)
theorem Rts.nodup {srt : List Inf} {most : Int} {l os : List Int} {m m' : MK} (h : Rts srt most l m os m') : m.seen.Nodup → m'.seen.Nodup := by
  induction h with
  | nil => exact id
  | cons h hd hn ih => exact fun hn => ih (hd.nodup (h.nodup hn))
theorem Swp.nodup {srt : List Inf} {most : Int} {l : List Int} {m m' : MK} (h : Swp srt most l m m') : m.seen.Nodup → m'.seen.Nodup := by
  induction h with
  | nil => exact id
  | cons h hd hn ih => exact fun hn => ih (hd.nodup (h.nodup hn))
theorem Agn.nodup {srt : List Inf} {most : Int} {m m' : MK} (h : Agn srt most m m') : m.seen.Nodup → m'.seen.Nodup := by
  induction h with
  | stop h => exact id
  | step ho he h hn ih => exact fun hd => ih (h.nodup hd)
theorem Rnd.nodup {srt : List Inf} {most : Int} {roots out : List Int} {m m' : MK} (h : Rnd srt most roots m out m') : m'.seen.Nodup := by
  obtain ⟨m1, h1, h2⟩ := h
  exact h2.nodup (h1.nodup List.nodup_nil)

/-- What a marker has seen where nothing stands for another one. -/
structure SeenOf (srt : List Inf) (s : HS) (roots out : List Int) (R : Int → Prop) (m' : MK) : Prop where
  st : m'.s = s
  e : m'.e = 0
  out : out = roots
  nodup : m'.seen.Nodup
  roots : ∀ r ∈ roots, r ≠ 0 → r ∈ m'.seen
  seen : ∀ x ∈ m'.seen, R x ∧ x ≠ 0 ∧ okAt srt s x ∧ ∀ q ∈ ptrAt srt s x, q ≠ 0 → q ∈ m'.seen
/-- Rounds where nothing stands for another one, and all that is told of is there. -/
theorem Rds.simple {srt : List Inf} {most : Int} {roots o' : List Int} {s : HS} {m' : MK} (h : Rds srt most roots [] ⟨s, [], [], false, true, 0⟩ o' m') (hP : Plain srt s) {V R : Int → Prop} (hV : ∀ p, V p → okAt srt s p) (hC : ∀ p, V p → ∀ q ∈ ptrAt srt s p, q ≠ 0 → V q) (hR : ∀ r ∈ roots, r ≠ 0 → V r)
    (hR2 : ∀ r ∈ roots, r ≠ 0 → R r) (hC2 : ∀ p, R p → ∀ q ∈ ptrAt srt s p, q ≠ 0 → R q) : SeenOf srt s roots o' R m' := by
  have he : m'.e = 0 := h.good hP hV hC hR ⟨rfl, rfl, (fun x hx => by cases hx), (fun x hx => by cases hx)⟩
  cases h with
  | stop h =>
    rcases h with h | h
    · cases h
    · exact absurd rfl h
  | @step _ _ o1 m1 _ _ hm he0 h hn =>
    have he1 : m1.e = 0 := by
      cases hn with
      | stop h => exact he
      | step hm he h hn => exact he
    obtain ⟨h1, h2, h3, h4, h5, h6⟩ := h.simple hP rfl rfl he1 R hR2 hC2
    cases hn with
    | stop hs => exact ⟨h1, he, h4, h.nodup, h5, h6⟩
    | step hm he h hn => rw [h2] at hm; cases hm

/-! ### Heaps that agree on a closure -/
def Agr (s t : HS) (a : Int) : Prop := t.cap a.toNat = s.cap a.toNat ∧ ∀ k, k < s.cap a.toNat → t.word (a.toNat + k) = s.word (a.toNat + k)
theorem Agr.has {s t : HS} {a : Int} (h : Agr s t a) (i : Int) : HS.has t a i ↔ HS.has s a i := by unfold HS.has; rw [h.1]
theorem Agr.look {s t : HS} {a : Int} (h : Agr s t a) (srt : List Inf) : lookM srt t a = lookM srt s a := by
  unfold lookM
  by_cases hh : HS.has s a 0
  · have h1 : 0 < s.cap a.toNat := by unfold HS.has at hh; omega
    have h2 := h.2 0 h1
    rw [Nat.add_zero] at h2
    rw [if_pos hh, if_pos ((h.has 0).2 hh), h2, h.1]
  · rw [if_neg hh, if_neg (fun hc => hh ((h.has 0).1 hc))]
theorem Agr.rd {s t : HS} {a : Int} (h : Agr s t a) (i : Int) : rdM t a i = rdM s a i := by
  unfold rdM
  by_cases hh : HS.has s a i
  · rw [if_pos hh, if_pos ((h.has i).2 hh)]
    unfold HS.has at hh
    exact h.2 i.toNat (by omega)
  · rw [if_neg hh, if_neg (fun hc => hh ((h.has i).1 hc))]
theorem Agr.count {s t : HS} {a : Int} (h : Agr s t a) (srt : List Inf) : countM srt t a = countM srt s a := by unfold countM; rw [h.look]
theorem Agr.ptr {s t : HS} {a : Int} (h : Agr s t a) (srt : List Inf) : ptrsM srt t a = ptrsM srt s a := by
  unfold ptrsM
  rw [h.count]
  have h1 : ∀ n, ptrL t a n = ptrL s a n := fun n => by
    unfold ptrL
    exact List.map_congr_left fun q _ => by rw [h.rd]
  simp only [h1]
theorem Agr.ptrAt {s t : HS} {a : Int} (h : Agr s t a) (srt : List Inf) : ptrAt srt t a = ptrAt srt s a := by unfold Go.Proofs.Ytjfpijoeddjgmaa.ptrAt; rw [h.ptr]
theorem Agr.infAt {s t : HS} {a : Int} (h : Agr s t a) (srt : List Inf) : infAt srt t a = infAt srt s a := by unfold Go.Proofs.Ytjfpijoeddjgmaa.infAt infoM; rw [h.look]
theorem Agr.ok {s t : HS} {a : Int} (h : Agr s t a) (srt : List Inf) : okAt srt t a ↔ okAt srt s a := by unfold okAt; rw [h.look]

/-! ### Filled up -/
def cellsN (s : HS) : Nat := (cellsTo s.used (1 + 32 * s.n)).length
theorem cellsTo_upd {u : Nat → Bool} {a : Nat} (ha : u a = false) : ∀ m, (cellsTo (upd u a true) m).length = (cellsTo u m).length + (if a < m then 1 else 0)
  | 0 => rfl
  | m + 1 => by
    have ih := cellsTo_upd ha m
    by_cases e : a = m
    · subst e
      rw [cellsTo_yes (upd_same _ _ _), cellsTo_no ha, List.length_append, ih]
      simp
    · have h1 : upd u a true m = u m := upd_other _ _ (fun h => e h.symm)
      cases hu : u m with
      | true =>
        rw [cellsTo_yes (h1.trans hu), cellsTo_yes hu, List.length_append, List.length_append, ih]
        simp only [List.length_cons, List.length_nil]
        by_cases hl : a < m
        · rw [if_pos hl, if_pos (by omega)]
        · rw [if_neg hl, if_neg (by omega)]
      | false =>
        rw [cellsTo_no (h1.trans hu), cellsTo_no hu, ih]
        by_cases hl : a < m
        · rw [if_pos hl, if_pos (by omega)]
        · rw [if_neg hl, if_neg (by omega)]
/-- A heap that has got so many small numbers more. -/
structure FillI (s t : HS) (k : Nat) : Prop where
  wf : t.WF
  n : t.n = s.n
  old : ∀ x, s.used x = true → t.used x = true ∧ t.cap x = s.cap x ∧ ∀ i, i < s.cap x → t.word (x + i) = s.word (x + i)
  new : ∀ x, t.used x = true → s.used x = true ∨ (t.cap x = 2 ∧ t.word x = headOf 0 1)
  room : rooms t + k = rooms s
  cells : cellsN t = cellsN s + k
theorem FillI.refl {s : HS} (h : s.WF) : FillI s s 0 := ⟨h, rfl, fun x hx => ⟨hx, rfl, fun _ _ => rfl⟩, fun x hx => .inl hx, rfl, rfl⟩
theorem FillI.step {s t : HS} {k : Nat} (h : FillI s t k) :
    (0 < rooms t → ∃ (a : Nat) (t' : HS), newM sorts20 t 0 1 = (a, 0, t') ∧ FillI s t' (k + 1)) ∧
    (rooms t = 0 → ∃ (e : Int), e ≠ 0 ∧ newM sorts20 t 0 1 = (0, e, t)) := by
  obtain ⟨h1, h2⟩ := alloc2 h.wf
  have hf : (sorts20.getD (0 : Int).toNat noInf).fits 1 = true := by decide
  have hdef : newM sorts20 t 0 1 = (if (t.alloc 2).2.1 = 0 then ((t.alloc 2).1, 0, (t.alloc 2).2.2.write (t.alloc 2).1 0 (headOf 0 1)) else (0, (t.alloc 2).2.1, t)) := by
    unfold newM
    rw [if_pos (by decide), if_pos hf]
    rfl
  refine ⟨fun hr => ?_, fun hr => ?_⟩
  · obtain ⟨a, u, he, hwf, hnew, hcap, hroom⟩ := h1 hr
    rw [he, if_pos rfl] at hdef
    replace hdef : newM sorts20 t 0 1 = (a, 0, u.write a 0 (headOf 0 1)) := hdef
    have hua : u.used a = true := by rw [hnew.used, upd_same]
    have hin := hwf.in_ hua
    have hnu : u.n = t.n := hnew.n
    have hcapw : ∀ x, (u.write a 0 (headOf 0 1)).cap x = u.cap x := fun _ => rfl
    have hword : ∀ y, (u.write a 0 (headOf 0 1)).word y = if y = a then headOf 0 1 else t.word y := fun y => by
      show upd u.word (a + 0) _ y = _
      rw [Nat.add_zero, hnew.word]; rfl
    refine ⟨a, _, hdef, hwf.write (by omega) (headOf_range (by decide) (by decide)), hnew.n.trans h.n, fun x hx => ?_, fun x hx => ?_, ?_, ?_⟩
    · obtain ⟨o1, o2, o3⟩ := h.old x hx
      have hxa : x ≠ a := fun e => by rw [e, hnew.fresh] at o1; cases o1
      have hux : u.used x = true := by rw [hnew.used, upd_other _ _ hxa]; exact o1
      have hcx : u.cap x = t.cap x := hnew.caps x o1
      refine ⟨hux, ?_, fun i hi => ?_⟩
      · rw [hcapw, hcx, o2]
      · rw [hword, if_neg ?_]
        · exact o3 i hi
        · intro e
          rcases Nat.lt_or_gt_of_ne hxa with hl | hl
          · have := hwf.apart hux hua hl; omega
          · omega
    · by_cases hxa : x = a
      · subst hxa
        exact .inr ⟨hcap, by rw [hword, if_pos rfl]⟩
      · have htx : t.used x = true := by
          have : u.used x = true := hx
          rw [hnew.used, upd_other _ _ hxa] at this; exact this
        rcases h.new x htx with h3 | ⟨h3, h4⟩
        · exact .inl h3
        · refine .inr ⟨?_, ?_⟩
          · rw [hcapw, hnew.caps x htx, h3]
          · rw [hword, if_neg hxa, h4]
    · have h3 : rooms (u.write a 0 (headOf 0 1)) = rooms u := rfl
      have := h.room
      omega
    · have h3 : cellsN (u.write a 0 (headOf 0 1)) = cellsN u := rfl
      rw [h3]
      unfold cellsN
      rw [hnew.used, hnu, cellsTo_upd hnew.fresh, if_pos (by omega)]
      have := h.cells
      unfold cellsN at this
      omega
  · have := h2 hr
    rw [if_neg this] at hdef
    exact ⟨_, this, hdef⟩
theorem FillI.agr {s t : HS} {k : Nat} (h : FillI s t k) {a : Int} (ha : s.used a.toNat = true) : Agr s t a := ⟨(h.old _ ha).2.1, (h.old _ ha).2.2⟩
/-- What Collect leaves. -/
theorem coll_seen {s : HS} (h : s.WF) {ks : List Int} (hks : ks.Nodup) (hk : ∀ k ∈ ks, ∃ a : Nat, k = a ∧ s.used a = true) :
    CollI (cellsTo s.used (1 + 32 * s.n)) (sorted ks) s (collAll s (sorted ks)) ∧ (∀ a : Nat, (collAll s (sorted ks)).1.used a = true ↔ (a : Int) ∈ ks) ∧ (collAll s (sorted ks)).2.1 = ks.length ∧ cellsN (collAll s (sorted ks)).1 = ks.length := by
  have hC : CollI (cellsTo s.used (1 + 32 * s.n)) (sorted ks) s (collAll s (sorted ks)) := by
    refine coll_law _ _ _ h (cells_pair _ _) (sorted_pair hks) (fun k hk' => ?_) (fun c hc => ?_)
    · obtain ⟨a, rfl, hu⟩ := hk k (mem_sorted.1 hk')
      have := (h.in_ hu).2
      have := h.cap_pos hu
      exact mem_cells.2 ⟨a, rfl, by omega, hu⟩
    · obtain ⟨a, rfl, _, hu⟩ := mem_cells.1 hc
      exact ⟨a, rfl, hu⟩
  have hU : ∀ a : Nat, (collAll s (sorted ks)).1.used a = true ↔ (a : Int) ∈ ks := fun a => by
    rw [hC.used a, mem_sorted]
    refine ⟨fun h1 => ?_, fun h1 => ?_⟩
    · rcases h1.2 with h2 | h2
      · exfalso
        apply h2
        have := (h.in_ h1.1).2
        have := h.cap_pos h1.1
        exact mem_cells.2 ⟨a, rfl, by omega, h1.1⟩
      · exact h2
    · obtain ⟨b, e, hb⟩ := hk _ h1
      have : a = b := by omega
      subst this
      exact ⟨hb, .inr h1⟩
  have hlen : (sorted ks).length = ks.length := (List.mergeSort_perm ks _).length_eq
  refine ⟨hC, hU, hC.kept.trans hlen, ?_⟩
  have hp : (cellsTo (collAll s (sorted ks)).1.used (1 + 32 * (collAll s (sorted ks)).1.n)).Perm ks := by
    refine (List.perm_ext_iff_of_nodup ?_ hks).2 fun x => ?_
    · exact (cells_pair _ _).imp fun {a b} h => by omega
    · rw [mem_cells]
      constructor
      · rintro ⟨a, rfl, _, hu⟩; exact (hU a).1 hu
      · intro hx
        obtain ⟨a, rfl, hu⟩ := hk x hx
        refine ⟨a, rfl, ?_, (hU a).2 hx⟩
        rw [hC.n]
        have := (h.in_ hu).2
        have := h.cap_pos hu
        omega
  exact hp.length_eq
/-- Collect of a heap filled up: there is room for as many as were had. -/
theorem fill_plain {nds : List Nd} {V : Nat → Nat → Int} {s t : HS} {k : Nat} (h : Net sorts20 5 nds V s) (hn : ∀ x ∈ nds, x.Ok) (hF : FillI s t k) : Plain sorts20 t := by
  have hP := net_plain h ⟨by decide, by decide⟩ hn
  intro a
  by_cases ho : okAt sorts20 t a
  · obtain ⟨_, _, _, _, _, _, hh, _, _⟩ := look_in ho
    have hu : t.used a.toNat = true := by
      cases hu : t.used a.toNat with
      | true => rfl
      | false => unfold HS.has at hh; rw [HS.cap_none hu] at hh; omega
    rcases hF.new _ hu with h1 | ⟨h1, h2⟩
    · rw [(hF.agr h1).infAt]; exact hP a
    · have h3 := HS.has_pos hF.wf hh
      have hl := look_of (srt := sorts20) (s := t) (a := a.toNat) (k := 0) (n := 1) (by decide) (by decide) (by decide) (by decide) (by decide) h2 (by rw [h1]; decide)
      rw [show ((a.toNat : Nat) : Int) = a by omega] at hl
      unfold infAt infoM
      rw [hl]
      exact ⟨by decide, by decide⟩
  · rw [(info_bad ho).2.2.1]
    exact ⟨by decide, by decide⟩
end Go.Proofs.Ytjfpijoeddjgmaa

/- Collect, on a law's store where nothing stands for another one. Conditions: as it says. -/
namespace Go.Proofs.Ytjfpijoeddjgmaa
open Go.RowKit Hm
set_option linter.unusedVariables false
/-- What Collect answers then, and what it leaves. -/
structure Colled (B : Nat) (w0 w w' : World) (q : SPl) (p : HP) (t : HS) (zs : List Int) (R : Int → Prop) (a2 : Option Addr) (c2 kk ff : Nat) (m' : MK) (u : HS) : Prop where
  seen : SeenOf sorts20 t zs zs R m'
  kkl : kk = m'.seen.length
  sum : kk + ff = cellsN t
  sto : Sto B w0 w' q p sorts20 u
  fr : Fr p.mine w w'
  row : IntsAt w' w.heap.size (.slice a2 zs.length c2) zs
  coll : CollI (cellsTo t.used (1 + 32 * t.n)) (sorted m'.seen) t (u, kk, ff)
  used : ∀ a : Nat, u.used a = true ↔ (a : Int) ∈ m'.seen
  cells : cellsN u = kk
theorem coll_simple {B B2 : Nat} {w0 w : World} {q : SPl} {p : HP} {t : HS} {zs : List Int} {most : Int} {ro : Option Addr} {rcap : Nat} (h : Sto B w0 w q p sorts20 t) (hP : Plain sorts20 t) {V R : Int → Prop} (hV : ∀ a, V a → okAt sorts20 t a) (hC : ∀ a, V a → ∀ b ∈ ptrAt sorts20 t a, b ≠ 0 → V b)
    (hr : ∀ r ∈ zs, r ≠ 0 → V r) (hR : ∀ r ∈ zs, r ≠ 0 → R r) (hC2 : ∀ a, R a → ∀ b ∈ ptrAt sorts20 t a, b ≠ 0 → R b) (hz : IntsAt w B2 (.slice ro zs.length rcap) zs) (hp : ∀ k, p.mine k → k < B2) (hzr : ∀ z ∈ zs, z < 9223372036854775808) (hzl : zs.length ≤ 1000) (hm : 1 ≤ most) :
    Calls Try.prog 30 #[.pointer (some ⟨q.sp, 0, none⟩), .slice ro zs.length rcap, .int .i64 most] w fun e w' => ∃ (a2 : Option Addr) (c2 kk ff : Nat) (pa pb pc : Int), e = .returned (.tuple #[.slice a2 zs.length c2, .agg #[.int .i64 kk, .int .i64 ff, .int .i64 pa, .int .i64 pb, .int .i64 pc], .int .i64 0]) ∧
      Hid (∃ m' u, Colled B w0 w w' q p t zs R a2 c2 kk ff m' u) := by
  have hz' : RootsAt w p w.heap.size ro zs := by
    refine ⟨?_, hzr, by omega⟩
    rcases hz.form with ⟨_, h2⟩ | ⟨g, cap, h1, h2, h3, h4⟩
    · exact .inl (by rw [h2]; rfl)
    · cases h1
      exact .inr ⟨g, 0, rfl, h3, fun hk => by have := hp _ hk; omega, fun j hj => by rw [Nat.zero_add]; exact h4 j hj⟩
  refine (collect_any h.own.at' h.sto h.sep sorts20_ok hm hz' (fun s' => s' = t) (fun _ => 0) rfl (plain_dec hP zs)).mono ?_
  intro e w' hpost
  obtain ⟨out, m', hrds, hf, hres⟩ := hpost.out
  have hS := hrds.simple hP hV hC hr hR hC2
  rcases hres with ⟨he, _⟩ | ⟨_, hH, a2, c2, pa, pb, pc, rfl, hI, hlen⟩
  · exact absurd hS.e he
  · rw [hS.st] at hH ⊢
    rw [hS.out] at hI
    have hk : ∀ k ∈ m'.seen, ∃ a : Nat, k = a ∧ t.used a = true := fun k hk => by
      obtain ⟨_, _, ho, _⟩ := hS.seen k hk
      obtain ⟨_, _, _, _, _, _, hh, _, _⟩ := look_in ho
      have h3 := HS.has_pos h.own.at'.wf hh
      refine ⟨k.toNat, by omega, ?_⟩
      cases hu : t.used k.toNat with
      | true => rfl
      | false => unfold HS.has at hh; rw [HS.cap_none hu] at hh; omega
    obtain ⟨h1, h2, h3, h4⟩ := coll_seen h.own.at'.wf hS.nodup hk
    have hS2 := hS
    rw [hS.out] at hS2
    refine ⟨a2, c2, (collAll t (sorted m'.seen)).2.1, (collAll t (sorted m'.seen)).2.2, pa, pb, pc, rfl, m', (collAll t (sorted m'.seen)).1, ⟨hS2, h3, h1.sum, h.step hf hH, hf, hI, h1, h2, h4.trans h3.symm⟩⟩
end Go.Proofs.Ytjfpijoeddjgmaa
