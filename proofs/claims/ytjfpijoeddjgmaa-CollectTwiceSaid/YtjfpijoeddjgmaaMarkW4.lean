/- A marker reaches a closure. Conditions: the marker's memory reads as the plain model says. -/
import Derived.Test.YtjfpijoeddjgmaaMarkW3
import Derived.Test.YtjfpijoeddjgmaaMarkA
namespace Go.Proofs.Ytjfpijoeddjgmaa
open Go.RowKit Hm
set_option linter.unusedVariables false

theorem through_any {q : SPl} {p : HP} {srt : List Inf} {most : Int} {K : MkP} {v : Value} : ∀ (n d : Nat), d + n = 20 → ∀ (w : World) (m : MK) (a : Int), MkAt w q p srt most K v m → a < 9223372036854775808 →
    Calls Try.prog 103 #[.pointer (some ⟨K.mp, 0, none⟩), .int .i64 a, .int .i64 d] w fun e w' => ∃ r, e = .returned (.int .i64 r) ∧ Hid (ThrPost w q p srt most K v d [] a m r w')
  | 0, d, hd, w, m, a, h, ha => through_step d (by omega) (fun h => absurd h (by omega)) w m a h ha
  | n + 1, d, hd, w, m, a, h, ha => through_step d (by omega) (fun _ w m a h ha => by
      have := through_any n (d + 1) (by omega) w m a h ha
      exact this) w m a h ha

/-- What reaching a closure may turn. -/
def MS (p : HP) (K : MkP) (v : Value) : Nat → Prop := fun k => p.mine k ∨ k = K.mp ∨ k = K.mb ∨ v.ownBlock = some k
structure MPost (w : World) (q : SPl) (p : HP) (srt : List Inf) (most : Int) (K : MkP) (v : Value) (w' : World) (v' : Value) (m' : MK) : Prop where
  at' : MkAt w' q p srt most K v' m'
  fr : Fr (MS p K v) w w'
  grow : ∀ k, v'.ownBlock = some k → v.ownBlock = some k ∨ w.heap.size ≤ k
section
variable {w w1 w2 : World} {q : SPl} {p : HP} {srt : List Inf} {most : Int} {K : MkP} {v v1 v2 : Value} {m m1 m2 : MK}
theorem MPost.refl (h : MkAt w q p srt most K v m) : MPost w q p srt most K v w v m := ⟨h, Fr.refl _ _, fun k hk => .inl hk⟩
theorem MPost.trans (h : MPost w q p srt most K v w1 v1 m1) (k : MPost w1 q p srt most K v1 w2 v2 m2) : MPost w q p srt most K v w2 v2 m2 := by
  refine ⟨k.at', ⟨k.fr.os.trans h.fr.os, k.fr.tape.trans h.fr.tape, k.fr.output.trans h.fr.output, Nat.le_trans h.fr.size k.fr.size, fun b hb hS => ?_⟩, fun b hb => ?_⟩
  · refine (k.fr.block b (Nat.lt_of_lt_of_le hb h.fr.size) fun hs => ?_).trans (h.fr.block b hb hS)
    rcases hs with hs | hs | hs | hs
    · exact hS (.inl hs)
    · exact hS (.inr (.inl hs))
    · exact hS (.inr (.inr (.inl hs)))
    · rcases h.grow b hs with h1 | h1
      · exact hS (.inr (.inr (.inr h1)))
      · omega
  · rcases k.grow b hb with h1 | h1
    · exact h.grow b h1
    · exact .inr (Nat.le_trans h.fr.size h1)
theorem MPost.quiet (h : MPost w q p srt most K v w1 v1 m1) (hf : Fr (fun _ => False) w1 w2) : MPost w q p srt most K v w2 v1 m1 := h.trans ⟨h.at'.quiet hf, Fr.any hf, fun k hk => .inl hk⟩
/-- A closure that was seen. -/
theorem MkAt.mark (h : MkAt w q p srt most K v m) {r : Int} (hs : SetAt w1 K.mb (m.seen ++ [r])) (hf : Fr (fun k => k = K.mb) w w1) (hr : inR m.s.n r) : MkAt w1 q p srt most K v { m with seen := m.seen ++ [r] } := by
  obtain ⟨a, b, c, hb, hab⟩ := h.st
  have h1 := h.low
  refine ⟨h.heap.fr hf fun k hk (he : k = K.mb) => by have := (h.sep _ hk).2.2; omega, h.sto.fr hf (fun (he : _ = _) => by omega) (fun (he : _ = _) => by omega), ⟨a, b, c, hb.fr hf fun (he : _ = _) => by omega, hab⟩, hs, fun x hx => ?_,
    h.wait.fr hf fun k hk (he : k = K.mb) => (h.own k hk).2 he, h.room, h.sep, h.low, h.own, h.sorts, h.most1⟩
  rcases List.mem_append.1 hx with hx | hx
  · exact h.rng x hx
  · rw [List.mem_singleton] at hx; subst hx; exact hr
/-- The row of those that wait is another one. -/
theorem MkAt.setWait (h : MkAt w q p srt most K v m) {l : List Int} (hf : Fr (fun k => v.ownBlock = some k) w w1) (hi : IntsAt w1 K.C v1 l) (hb : ∀ k, v1.ownBlock = some k → v.ownBlock = some k ∨ w.heap.size ≤ k) (hr : (l.length : Int) ≤ most) :
    MkAt (w1.setCell ⟨K.mp, 2, none⟩ v1) q p srt most K v1 { m with wait := l } := by
  obtain ⟨a, b, c, hbl, hab⟩ := h.st
  have h1 := h.low
  have hmp := h.mp_lt
  have hmb := h.seen.lt
  have hw := h.wait.lt
  have hown : ∀ k, v1.ownBlock = some k → k ≠ K.mp ∧ k ≠ K.mb := fun k hk => by
    rcases hb k hk with h2 | h2
    · exact h.own k h2
    · omega
  have hf2 : Fr (fun k => v.ownBlock = some k ∨ k = K.mp) w (w1.setCell ⟨K.mp, 2, none⟩ v1) := (hf.mono fun k hk => .inl hk).setCell (.inr rfl) _
  refine ⟨h.heap.fr hf2 fun k hk he => ?_, h.sto.fr hf2 ?_ ?_, ⟨a, b, c, ((hbl.fr hf fun he => (h.own _ he).1 rfl).store 2 v1).congr ?_, hab⟩, h.seen.fr hf2 ?_, h.rng,
    hi.fr (S := fun k => k = K.mp) ((Fr.refl _ w1).setCell (S := fun k => k = K.mp) rfl _) fun k hk he => (hown k hk).1 he, hr, h.sep, h.low, hown, h.sorts, h.most1⟩
  · have := (h.sep k hk).2.2
    rcases he with he | he
    · have := (hw k he).1; omega
    · have : k = K.mp := he; omega
  · rintro (he | he)
    · have := (hw _ he).1; omega
    · omega
  · rintro (he | he)
    · have := (hw _ he).1; omega
    · omega
  · refine upd_cells rfl fun j hj hne => ?_
    match j, hj, hne with
    | 0, _, _ => rfl
    | 1, _, _ => rfl
    | 3, _, _ => rfl
    | 4, _, _ => rfl
    | 5, _, _ => rfl
    | 6, _, _ => rfl
    | 7, _, _ => rfl
    | 8, _, _ => rfl
    | 9, _, _ => rfl
  · rintro (he | he)
    · exact (h.own _ he).2 rfl
    · omega
end

set_option maxRecDepth 100000 in
set_option maxHeartbeats 4000000 in
theorem reach_any {w : World} {q : SPl} {p : HP} {srt : List Inf} {most : Int} {K : MkP} {v : Value} {m : MK} (h : MkAt w q p srt most K v m) (hfew : m.wait.length ≤ m.seen.length) (a : Int) (ha : a < 9223372036854775808) :
    Calls Try.prog 96 #[.pointer (some ⟨K.mp, 0, none⟩), .int .i64 a] w fun e w' => ∃ r v' m', e = .returned (.int .i64 r) ∧ Hid (Rea srt most a m r m' ∧ MPost w q p srt most K v w' v' m' ∧ r < 9223372036854775808) := by
  obtain ⟨i3, hi3, hz0, hz1, hz2⟩ := info_parts info3
  have HTH := Lib.hid (through_any 20 0 rfl w m a h ha)
  obtain ⟨ao, cap, hv, _⟩ := h.wait.shape
  have hn65 : m.wait.length ≤ 65536 := by
    have h1 := inR_len h.seen.nodup h.rng
    obtain ⟨_, _, _, _, _, _, _, _, h2⟩ := h.heap
    omega
  have HW := Lib.hid h
  clear h
  go_enter Try.func96, Try.ntmps96
  go_wp2_with fail
  refine HTH.out.mono ?_
  rintro e w1 ⟨r, rfl, hq⟩
  obtain ⟨m1, hT, hM, hrlt, hrr, hF⟩ := hq.out
  have hF' : Fr (MS p K v) w w1 := hF.mono fun k hk => by
    rcases hk with hk | hk
    · exact .inl hk
    · exact .inr (.inl hk)
  have HT := Lib.hid hT
  have HP1 : Hid (MPost w q p srt most K v w1 v m1) := ⟨hM, hF', fun k hk => .inl hk⟩
  have hlk := hM.seen.look r
  have h1 := hM.map
  have h9 := hM.err
  obtain ⟨e, he⟩ : ∃ e, e = m1.e := ⟨_, rfl⟩
  rw [← he] at h9
  have HE := Lib.hid he
  by_cases hst : r = 0 ∨ r ∈ m1.seen ∨ e ≠ 0
  · have HFIN : Hid (Rea srt most a m r m1 ∧ MPost w q p srt most K v w1 v m1 ∧ r < 9223372036854775808) := ⟨Rea.old hT (by rw [← he]; exact hst), HP1.out, hrlt⟩
    clear hq hT hM hrr hF hF' he HTH
    by_cases c1 : r = 0
    · subst c1
      clear hst
      go_wp2
      go_ret
      exact ⟨_, _, _, rfl, HFIN⟩
    · have d1 : (r == 0) = false := by simpa using c1
      by_cases c2 : r ∈ m1.seen
      · rw [decide_eq_true c2] at hlk
        clear hst c2
        go_wp2
        go_ret
        exact ⟨_, _, _, rfl, HFIN⟩
      · have c3 : e ≠ 0 := by
          rcases hst with h | h | h
          · exact absurd h c1
          · exact absurd h c2
          · exact h
        have c3' : (e != 0) = true := by simpa using c3
        rw [decide_eq_false c2] at hlk
        clear hst c2
        go_wp2
        go_ret
        exact ⟨_, _, _, rfl, HFIN⟩
  · have c1 : r ≠ 0 := fun h => hst (.inl h)
    have c2 : r ∉ m1.seen := fun h => hst (.inr (.inl h))
    have c3 : e = 0 := Classical.byContradiction fun h => hst (.inr (.inr h))
    have d1 : (r == 0) = false := by simpa using c1
    have hri : inR m1.s.n r := by
      rcases hrr with h | h | h
      · exact absurd h c1
      · rw [← he] at h; exact absurd c3 h
      · exact h
    rw [decide_eq_false c2] at hlk
    obtain ⟨w2, hup, hs2, hf2⟩ := hM.seen.put c2
    obtain ⟨m2, hm2⟩ : ∃ m2 : MK, m2 = { m1 with seen := m1.seen ++ [r] } := ⟨_, rfl⟩
    have HM2 : Hid (MkAt w2 q p srt most K v m2) := by rw [hm2]; exact hM.mark hs2 hf2 hri
    have HP2 : Hid (MPost w q p srt most K v w2 v m2) := HP1.out.trans ⟨HM2.out, hf2.mono fun k (hk : k = K.mb) => .inr (.inr (.inl hk)), fun k hk => .inl hk⟩
    have HNEW : Hid (Rea srt most a m r (m1.note most r)) := Rea.new hT (by rw [← he]; exact hst)
    have h2 := HM2.out.wt
    have h3 := HM2.out.mst
    have h4 := HM2.out.ovr
    have z4 := HM2.out.frz 4
    have hwl : m2.wait = m1.wait := by rw [hm2]
    obtain ⟨n, hn⟩ : ∃ n, n = m1.wait.length := ⟨_, rfl⟩
    have hnm : m.wait.length = n := by rw [hn, hT.kept.wait]
    have HN := Lib.hid hn
    have HM2E := Lib.hid hm2
    rw [hnm] at hv hn65
    subst c3
    subst hv
    have hov : m2.over = m1.over := by rw [hm2]
    rw [hov] at h4
    clear hq hT hM hrr hF hF' he HTH hs2 hf2 hst c2 hri hm2 hn hnm hwl hov
    by_cases hfull : most ≤ (n : Int)
    · have hfull' : decide (most ≤ (n : Int)) = true := by simpa using hfull
      have HFO : Hid (∀ W, Fr (fun _ => False) w2 W → Rea srt most a m r (m1.note most r) ∧ MPost w q p srt most K (.slice ao n cap) (W.setCell ⟨K.mp, 4, none⟩ (.bool true)) (.slice ao n cap) (m1.note most r) ∧ r < 9223372036854775808) := by
        intro W hW
        have e : m1.note most r = { m2 with over := true } := by
          unfold MK.note
          rw [if_pos (by rw [← HN.out]; exact hfull), HM2E.out]
        refine ⟨HNEW.out, ?_, hrlt⟩
        rw [e]
        exact (HP2.out.quiet hW).trans ⟨(HM2.out.quiet hW).setOver true, (Fr.refl _ W).setCell (.inr (.inl rfl)) _, fun k hk => .inl hk⟩
      go_wp2_with fail
      go_quiet (fail)
      go_wp2_with fail
      go_ret
      exact ⟨_, _, _, rfl, HFO.out _ ((Fr.refl _ w2).drewN _)⟩
    · have hfull' : decide (most ≤ (n : Int)) = false := by simpa using hfull
      have HNOTE : Hid (m1.note most r = { m2 with wait := m1.wait ++ [r] }) := by
        show _ = _
        unfold MK.note
        rw [if_neg (by rw [← HN.out]; exact hfull), HM2E.out]
      have hn64 : n ≤ 1000000000000 := by omega
      go_wp2_with fail
      go_quiet (fail)
      obtain ⟨w3, hw3⟩ : ∃ w3, w3 = w2.drewN nq := ⟨_, rfl⟩
      rw [← hw3]
      have hq3 : Fr (fun _ => False) w2 w3 := by rw [hw3]; exact (Fr.refl _ w2).drewN _
      have HM3 : Hid (MkAt w3 q p srt most K (.slice ao n cap) m2) := HM2.out.quiet hq3
      have HP3 : Hid (MPost w q p srt most K (.slice ao n cap) w3 (.slice ao n cap) m2) := HP2.out.quiet hq3
      have h23 := HM3.out.wt
      have hlen : m2.wait.length = n := by rw [HM2E.out]; exact HN.out.symm
      clear hw3 hq3
      go_wp2_with (first
        | (at_builtin; refine wpList_append_blk _ rfl _ _ 29 rfl K.C 3 i3 (.int .i64 0) 1 8 Try.underlying29 hi3 hz0 hz1 hz2 rfl (by decide) _ _ _ rfl (HM3.out.wait.alloc _) ⟨w3.heap.size, 0, none⟩ 1 1 [.int .i64 r] rfl rfl (cell_one_new _ _ _) (fun u hu => by simp at hu; subst hu; rfl) (by rw [hlen]; unfold maxLen; omega) (by rw [hlen]; omega) (by have := HM3.out.lt; simp; omega) ?_))
      intro v' w4 hown' hgrow hblk
      have hI4 : IntsAt w4 K.C v' (m2.wait ++ [r]) := IntsAt.one (by rw [hlen]; exact hown')
      have hlen4 : (m2.wait ++ [r]).length = n + 1 := by simp [hlen]
      have hF4 : Fr (fun k => (Value.slice ao n cap).ownBlock = some k) w3 w4 := ((Fr.refl _ w3).alloc _).trans (Fr.of_grown hgrow fun k hk => hk)
      have hmw : m2.wait = m1.wait := by rw [HM2E.out]
      obtain ⟨ao', cap', rfl, _⟩ := hI4.shape
      have hnsep := HM3.out.own
      have h24 := hF4.cell h23 (by intro h; exact (hnsep _ h).1 rfl)
      have z24 : w4.frozen? ⟨K.mp, 2, none⟩ = false := by
        obtain ⟨pa, pb, pc, hb, _⟩ := HM3.out.st
        exact (hb.fr hF4 fun h => (hnsep _ h).1 rfl).frozen 2
      have hblk' : ∀ k, (Value.slice ao' (m2.wait ++ [r]).length cap').ownBlock = some k → (Value.slice ao n cap).ownBlock = some k ∨ w3.heap.size ≤ k := fun k hk => (hblk k hk).imp id fun h => by first | omega | (simp at h; omega)
      have HM5 : Hid (MkAt (w4.setCell ⟨K.mp, 2, none⟩ (.slice ao' (m2.wait ++ [r]).length cap')) q p srt most K (.slice ao' (m2.wait ++ [r]).length cap') { m2 with wait := m2.wait ++ [r] }) :=
        HM3.out.setWait hF4 hI4 hblk' (by rw [hlen4]; omega)
      have HP5 : Hid (MPost w q p srt most K (.slice ao n cap) (w4.setCell ⟨K.mp, 2, none⟩ (.slice ao' (m2.wait ++ [r]).length cap')) (.slice ao' (m2.wait ++ [r]).length cap') { m2 with wait := m2.wait ++ [r] }) :=
        HP3.out.trans ⟨HM5.out, (hF4.mono fun k hk => .inr (.inr (.inr hk))).setCell (.inr (.inl rfl)) _, hblk'⟩
      have HNOTE2 : Hid (m1.note most r = { m2 with wait := m2.wait ++ [r] }) := by show _ = _; rw [hmw]; exact HNOTE.out
      rw [hlen4] at HM5 HP5 ⊢
      have hup' : 1 ≤ most := HM3.out.most1
      clear hown' hgrow hblk hI4 hF4 hmw h23 HM3 HP3 hnsep hblk' hlen4 hlen HNOTE
      go_wp2_with fail
      obtain ⟨w5, hw5⟩ : ∃ w5, w5 = w4.setCell ⟨K.mp, 2, none⟩ (.slice ao' (n + 1) cap') := ⟨_, rfl⟩
      rw [← hw5] at HM5 HP5 ⊢
      clear hw5 h24 z24
      obtain ⟨pa, pb, pc, n6, n7, n8, hpab⟩ := HM5.out.nums
      have h25 := HM5.out.wt
      have z6 := HM5.out.frz 6
      have HFO : Hid (∀ x : Int, 0 ≤ x ∧ x ≤ most → Rea srt most a m r (m1.note most r) ∧ MPost w q p srt most K (.slice ao n cap) (w5.drew.setCell ⟨K.mp, 6, none⟩ (.int .i64 x)) (.slice ao' (n + 1) cap') (m1.note most r) ∧ r < 9223372036854775808) := by
        intro x hx
        refine ⟨HNEW.out, ?_, hrlt⟩
        rw [HNOTE2.out]
        have hq := (Fr.refl (fun _ => False) w5).drew
        exact (HP5.out.quiet hq).trans ⟨(HM5.out.quiet hq).setPeak x hx, (Fr.refl _ w5.drew).setCell (.inr (.inl rfl)) _, fun k hk => .inl hk⟩
      clear n7 n8
      go_still_tail 15, (by kernel_rfl)
      change wpList _ _ _ _ _ w5.drew
      go_wp2_with fail
      all_goals
        go_ret
        first
          | (refine ⟨_, rfl, _, _, HFO.out _ ?_⟩; omega)
          | (refine ⟨_, _, _, rfl, HFO.out _ ?_⟩; omega)
end Go.Proofs.Ytjfpijoeddjgmaa
