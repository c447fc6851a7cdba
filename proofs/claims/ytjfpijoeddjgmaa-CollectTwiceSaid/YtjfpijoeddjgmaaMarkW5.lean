/- A marker reaches all below a closure, and all below those that wait. Conditions: the marker's memory reads as the plain model says. -/
import Derived.Test.YtjfpijoeddjgmaaMarkW4
namespace Go.Proofs.Ytjfpijoeddjgmaa
open Go.RowKit Hm
set_option linter.unusedVariables false

def Few (m : MK) : Prop := m.wait.length ≤ m.seen.length
theorem Rea.few {srt : List Inf} {most a r : Int} {m m' : MK} (h : Rea srt most a m r m') (hf : Few m) : Few m' := by
  unfold Few at *
  cases h with
  | old h ho => rw [h.kept.wait, h.kept.seen]; exact hf
  | new h ho =>
    have h1 := h.kept.wait
    have h2 := h.kept.seen
    unfold MK.note
    split
    · simp only [List.length_append, List.length_singleton]; rw [h1, h2]; omega
    · simp only [List.length_append, List.length_singleton]; rw [h1, h2]; omega
theorem drop_get {l : List Int} {i : Nat} (h : i < l.length) : l.drop i = l.getD i 0 :: l.drop (i + 1) := by
  rw [List.drop_eq_getElem_cons h]
  congr 1
  rw [List.getD_eq_getElem?_getD, List.getElem?_eq_getElem h]; rfl

set_option maxRecDepth 100000 in
set_option maxHeartbeats 4000000 in
theorem below_any {w : World} {q : SPl} {p : HP} {srt : List Inf} {most : Int} {K : MkP} {v : Value} {m : MK} (h : MkAt w q p srt most K v m) (hfew : Few m) (a : Int) :
    Calls Try.prog 98 #[.pointer (some ⟨K.mp, 0, none⟩), .int .i64 a] w fun e w' => ∃ v' m', e = .returned (.tuple #[]) ∧ Hid (Below' srt most a m m' ∧ MPost w q p srt most K v w' v' m' ∧ Few m') := by
  have HLOOK := Lib.hid (mlook_any h a)
  obtain ⟨B, hB⟩ : ∃ B, B = w.heap.size := ⟨_, rfl⟩
  have HB : Hid (K.C < B ∧ K.mp < B ∧ K.mb < B ∧ (∀ k, v.ownBlock = some k → k < B) ∧ ∀ k, p.mine k → k < K.C) := by
    rw [hB]
    exact ⟨h.lt, h.mp_lt, h.seen.lt, fun k hk => (h.wait.lt k hk).2, fun k hk => (h.sep k hk).2.2⟩
  have HBW : Hid (B = w.heap.size) := hB
  obtain ⟨I, hIn⟩ : ∃ I, I = infAt srt m.s a := ⟨_, rfl⟩
  obtain ⟨l, hl⟩ : ∃ l, l = ptrAt srt m.s a := ⟨_, rfl⟩
  rw [← hIn, ← hl] at HLOOK
  have HLT : Hid (∀ x ∈ l, x < 9223372036854775808) := fun x hx => (ptr_lt x (by rw [← hl]; exact hx)).2
  have HL60 : Hid (l.length ≤ 60) := by show _ ≤ 60; rw [hl]; exact ptr_len h.sto.ok
  have HL := Lib.hid hl
  have HFW : Hid (Few (m.look srt a)) := by
    show (m.look srt a).wait.length ≤ (m.look srt a).seen.length
    rw [look_wait, look_seen]; exact hfew
  obtain ⟨n, hn⟩ : ∃ n, n = l.length := ⟨_, rfl⟩
  rw [← hn] at HLOOK HL60
  have hn60 := HL60.out
  have HN := Lib.hid hn
  unfold Inf.val at HLOOK
  clear h hB hIn hl hn
  go_enter Try.func98, Try.ntmps98
  go_wp2_with fail
  refine HLOOK.out.mono ?_
  rintro e w1 ⟨ao, cap, rfl, hm1⟩
  have HP0 : Hid (∀ o, MPost w q p srt most K v (w1.alloc o) v (m.look srt a) ∧ IntsAt (w1.alloc o) B (.slice ao n cap) l ∧ ∀ k, (Value.slice ao n cap).ownBlock = some k → v.ownBlock ≠ some k) := by
    intro o
    have hi := hm1.out.2.1
    rw [← HBW.out] at hi
    refine ⟨MPost.quiet ⟨hm1.out.1, hm1.out.2.2.mono fun k hk => .inr (.inl hk), fun k hk => .inl hk⟩ ((Fr.refl (fun _ => False) w1).alloc o), hi.fr (S := fun _ => False) ((Fr.refl (fun _ => False) w1).alloc o) (fun _ _ => id), fun k hk he => ?_⟩
    have h1 := (hi.lt k hk).1
    have h2 := HB.out.2.2.2.1 k he
    omega
  clear hm1
  go_wp2
  go_loopw [17] (fun v17 wr => ∃ i : Nat, ∃ vv : Value, ∃ mm : MK, v17 = .int .i64 i ∧ i ≤ n ∧ Hid (MPost w q p srt most K v wr vv mm ∧ IntsAt wr B (.slice ao n cap) l ∧ (∀ k, (Value.slice ao n cap).ownBlock = some k → vv.ownBlock ≠ some k) ∧ Few mm ∧ ∀ m', Bel srt most a i (l.drop i) mm m' → Below' srt most a m m')) (fun v17 _ => n - (intOf v17).toNat)
  case atStart =>
    refine ⟨0, v, m.look srt a, rfl, by omega, (HP0.out _).1, (HP0.out _).2.1, (HP0.out (.map #[] 0)).2.2, HFW.out, fun m' hb => ?_⟩
    unfold Below'
    rw [← HL.out]
    simpa using hb
  case round =>
    obtain ⟨i, vv, mm, rfl, hi, hI⟩ := hrel
    clear HP0 HLOOK
    by_cases hin : i < n
    · have hil : i < l.length := by rw [← HN.out]; exact hin
      obtain ⟨g, rfl, hg, hc⟩ := hI.out.2.1.elem hil
      obtain ⟨qv, hqv⟩ : ∃ qv, qv = l.getD i 0 := ⟨_, rfl⟩
      rw [← hqv] at hc
      have HREA := Lib.hid (reach_any hI.out.1.at' hI.out.2.2.2.1 qv (by rw [hqv]; exact HLT.out _ (getD_mem hil)))
      have HG : Hid (B ≤ g) := hg
      have HQV := Lib.hid hqv
      clear hg hqv
      go_wp2_with fail
      refine HREA.out.mono ?_
      rintro e w2 ⟨r, v2, m1, rfl, hr⟩
      have hP2 := hI.out.1.trans hr.out.2.1
      have h9 := hP2.at'.err
      have h0 := hP2.at'.ptr
      obtain ⟨e2, he2⟩ : ∃ e2, e2 = m1.e := ⟨_, rfl⟩
      rw [← he2] at h9
      have HE2 := Lib.hid he2
      have HNS : Hid (¬ MS p K vv g) := by
        rintro (h | h | h | h)
        · have := HB.out.2.2.2.2 g h; have := HB.out; have := HG.out; omega
        · have := HB.out; have := HG.out; omega
        · have := HB.out; have := HG.out; omega
        · exact hI.out.2.2.1 g rfl h
      have HGW : Hid (g < wr.heap.size) := (hI.out.2.1.lt g rfl).2
      have HI2 : Hid (IntsAt w2 B (.slice (some ⟨g, 0, none⟩) n cap) l ∧ ∀ k, (Value.slice (some ⟨g, 0, none⟩) n cap).ownBlock = some k → v2.ownBlock ≠ some k) := by
        refine ⟨hI.out.2.1.fr hr.out.2.1.fr fun k hk => by cases hk; exact HNS.out, fun k hk he => ?_⟩
        cases hk
        rcases hr.out.2.1.grow g he with h | h
        · exact hI.out.2.2.1 g rfl h
        · have := HGW.out; omega
      have HCONT : Hid (∀ m', Bel srt most a (i + 1) (l.drop (i + 1)) (if r ≠ qv ∧ m1.e = 0 then m1.point srt a i r else m1) m' → Below' srt most a m m') := fun m' hb => by
        refine hI.out.2.2.2.2 m' ?_
        rw [drop_get hil, ← HQV.out]
        exact Bel.cons hr.out.1 hb
      have HF1 : Hid (Few m1) := hr.out.1.few hI.out.2.2.2.1
      have HP2 := Lib.hid hP2
      have hrlt := hr.out.2.2
      clear he2 hP2 hr HREA hI hc
      by_cases hq : r = qv
      · have hq' : (r != qv) = false := by simpa using hq
        have HC2 : Hid (∀ m', Bel srt most a (i + 1) (l.drop (i + 1)) m1 m' → Below' srt most a m m') := fun m' hb => HCONT.out m' (by rw [if_neg (fun h => h.1 hq)]; exact hb)
        clear hq
        go_wp2
        go_roundw
        case rel => exact ⟨i + 1, v2, m1, by go_num, by omega, HP2.out, HI2.out.1, HI2.out.2, HF1.out, HC2.out⟩
        case measure => simp [intOf]; omega
      · have hq' : (r != qv) = true := by simpa using hq
        by_cases he0 : e2 = 0
        · have HC2 : Hid (∀ m', Bel srt most a (i + 1) (l.drop (i + 1)) (m1.point srt a i r) m' → Below' srt most a m m') := fun m' hb => HCONT.out m' (by rw [if_pos ⟨hq, by rw [← HE2.out]; exact he0⟩]; exact hb)
          have HPT := Lib.hid (pt_any HP2.out.at' a i r hrlt)
          subst he0
          clear hq
          go_wp2_with fail
          refine HPT.out.mono ?_
          rintro e w3 ⟨x, rfl, hp⟩
          have h5 := hp.out.1.mvd
          have z5 := hp.out.1.frz 5
          have HF3 : Hid (Fr (fun k => p.mine k ∨ k = K.mp) w2 (w3.setCell ⟨K.mp, 5, none⟩ (.bool true))) := (hp.out.2.mono fun k hk => .inl hk).setCell (.inr rfl) _
          have HP3 : Hid (MPost w q p srt most K v (w3.setCell ⟨K.mp, 5, none⟩ (.bool true)) v2 (m1.point srt a i r)) :=
            HP2.out.trans ⟨hp.out.1.setMoved true, HF3.out.mono fun k hk => by
              rcases hk with hk | hk
              · exact .inl hk
              · exact .inr (.inl hk), fun k hk => .inl hk⟩
          have HI3 : Hid (IntsAt (w3.setCell ⟨K.mp, 5, none⟩ (.bool true)) B (.slice (some ⟨g, 0, none⟩) n cap) l) := HI2.out.1.fr HF3.out fun k hk => by
            cases hk
            rintro (h | h)
            · exact HNS.out (.inl h)
            · exact HNS.out (.inr (.inl h))
          have HF4 : Hid (Few (m1.point srt a i r)) := HF1.out
          clear hp HPT
          go_wp2
          go_roundw
          case rel => exact ⟨i + 1, v2, m1.point srt a i r, by go_num, by omega, HP3.out, HI3.out, HI2.out.2, HF4.out, HC2.out⟩
          case measure => simp [intOf]; omega
        · have he0' : (e2 == 0) = false := by simpa using he0
          have HC2 : Hid (∀ m', Bel srt most a (i + 1) (l.drop (i + 1)) m1 m' → Below' srt most a m m') := fun m' hb => HCONT.out m' (by rw [if_neg (fun h => he0 (by rw [HE2.out]; exact h.2))]; exact hb)
          clear hq he0
          go_wp2
          go_roundw
          case rel => exact ⟨i + 1, v2, m1, by go_num, by omega, HP2.out, HI2.out.1, HI2.out.2, HF1.out, HC2.out⟩
          case measure => simp [intOf]; omega
    · have hin2 : i = n := by omega
      have HFIN : Hid (Below' srt most a m mm ∧ MPost w q p srt most K v wr vv mm ∧ Few mm) := by
        refine ⟨hI.out.2.2.2.2 mm ?_, hI.out.1, hI.out.2.2.2.1⟩
        rw [List.drop_eq_nil_of_le (by rw [← HN.out]; omega)]
        exact Bel.nil
      clear hI
      subst hin2
      go_wp2
      go_end0
      exact ⟨_, _, rfl, HFIN⟩

/-! ### What grows -/
structure Grows (m m' : MK) : Prop where
  n : m'.s.n = m.s.n
  seen : m.seen.length ≤ m'.seen.length
  wait : m'.wait.length + m.seen.length ≤ m.wait.length + m'.seen.length
theorem Grows.refl (m : MK) : Grows m m := ⟨rfl, Nat.le_refl _, Nat.le_refl _⟩
theorem Grows.trans {a b c : MK} (h : Grows a b) (k : Grows b c) : Grows a c := ⟨k.n.trans h.n, Nat.le_trans h.seen k.seen, by have := h.wait; have := k.wait; omega⟩
theorem Kept.grows {m m' : MK} (h : Kept m m') : Grows m m' := ⟨h.n, by rw [h.seen]; exact Nat.le_refl _, by rw [h.seen, h.wait]; exact Nat.le_refl _⟩
theorem note_grows (most : Int) (m : MK) (r : Int) : Grows m (m.note most r) := by
  unfold MK.note
  split
  · exact ⟨rfl, by simp, by simp <;> omega⟩
  · exact ⟨rfl, by simp, by simp <;> omega⟩
theorem Rea.grows {srt : List Inf} {most a r : Int} {m m' : MK} (h : Rea srt most a m r m') : Grows m m' := by
  cases h with
  | old h ho => exact h.kept.grows
  | new h ho => exact h.kept.grows.trans (note_grows _ _ _)
theorem Bel.grows {srt : List Inf} {most a : Int} {i : Nat} {l : List Int} {m m' : MK} (h : Bel srt most a i l m m') : Grows m m' := by
  induction h with
  | nil => exact Grows.refl _
  | cons h hn ih =>
    refine h.grows.trans (Grows.trans ?_ ih)
    split
    · exact (Kept.point _ _ _ _ _).grows
    · exact Grows.refl _
theorem Below'.grows {srt : List Inf} {most a : Int} {m m' : MK} (h : Below' srt most a m m') : Grows m m' := (Kept.look srt m a).grows.trans (Bel.grows h)
theorem Dra.grows {srt : List Inf} {most : Int} {m m' : MK} (h : Dra srt most m m') : m'.s.n = m.s.n ∧ m.seen.length ≤ m'.seen.length := by
  induction h with
  | stop h => exact ⟨rfl, Nat.le_refl _⟩
  | step hw he h hn ih =>
    have h1 := h.grows
    exact ⟨ih.1.trans h1.n, Nat.le_trans h1.seen ih.2⟩
theorem IntsAt.le_cap {w : World} {B n cap : Nat} {ao : Option Addr} {l : List Int} (h : IntsAt w B (.slice ao n cap) l) : l.length ≤ cap := by
  rcases h.2 with ⟨h1, h2⟩ | ⟨g, cap', cur, hv, hb, hg, hn, _⟩
  · omega
  · injection hv with h1 h2 h3; omega
def waitLen (w : World) (mp : Nat) : Nat := match w.cell? ⟨mp, 2, none⟩ with
  | some (.slice _ n _) => n
  | _ => 0
theorem MkAt.waitLen {w : World} {q : SPl} {p : HP} {srt : List Inf} {most : Int} {K : MkP} {v : Value} {m : MK} (h : MkAt w q p srt most K v m) : waitLen w K.mp = m.wait.length := by
  obtain ⟨ao, cap, rfl, _⟩ := h.wait.shape
  unfold Go.Proofs.Ytjfpijoeddjgmaa.waitLen
  rw [h.wt]

set_option maxRecDepth 100000 in
set_option maxHeartbeats 4000000 in
theorem drain_any {w : World} {q : SPl} {p : HP} {srt : List Inf} {most : Int} {K : MkP} {v : Value} {m : MK} (h : MkAt w q p srt most K v m) (hfew : Few m) :
    Calls Try.prog 97 #[.pointer (some ⟨K.mp, 0, none⟩)] w fun e w' => ∃ v' m', e = .returned (.tuple #[]) ∧ Hid (Dra srt most m m' ∧ MPost w q p srt most K v w' v' m' ∧ Few m') := by
  have H0 : Hid (MPost w q p srt most K v w v m ∧ Few m ∧ (m.s.n = m.s.n ∧ ∀ m', Dra srt most m m' → Dra srt most m m')) := ⟨MPost.refl h, hfew, rfl, fun _ h => h⟩
  obtain ⟨N, hN⟩ : ∃ N, N = 32 * m.s.n := ⟨_, rfl⟩
  have HN := Lib.hid hN
  clear h hfew hN
  go_enter Try.func97, Try.ntmps97
  go_wp2
  go_loopw [2] (fun v2 wr => ∃ u2 : Value, ∃ vv : Value, ∃ mm : MK, u2 = v2 ∧ Hid (MPost w q p srt most K v wr vv mm ∧ Few mm ∧ (mm.s.n = m.s.n ∧ ∀ m', Dra srt most mm m' → Dra srt most m m'))) (fun _ wr => 2 * (N - setLen wr K.mb) + waitLen wr K.mp)
  case atStart => exact ⟨_, v, m, rfl, H0.out.1, H0.out.2.1, rfl, H0.out.2.2.2⟩
  case round =>
    obtain ⟨u2, vv, mm, rfl, hI⟩ := hrel
    clear H0
    have hM := hI.out.1.at'
    have h9 := hM.err
    obtain ⟨e, he⟩ : ∃ e, e = mm.e := ⟨_, rfl⟩
    rw [← he] at h9
    obtain ⟨ao, cap, hv, _⟩ := hM.wait.shape
    have h2 := hM.wt
    have HEE := Lib.hid he
    rcases List.eq_nil_or_concat mm.wait with hw | ⟨ws, x, hw⟩
    · have HFIN : Hid (Dra srt most m mm ∧ MPost w q p srt most K v wr vv mm ∧ Few mm) := ⟨hI.out.2.2.2 mm (Dra.stop (.inl hw)), hI.out.1, hI.out.2.1⟩
      have hz : mm.wait.length = 0 := by rw [hw]; rfl
      rw [hz] at hv
      subst hv
      clear hI hM hw hz he
      go_wp2
      go_end0
      exact ⟨_, _, rfl, HFIN⟩
    · rw [List.concat_eq_append] at hw
      have hlen : mm.wait.length = ws.length + 1 := by rw [hw]; simp
      by_cases he0 : e = 0
      · have hI2 := hM.wait
        rw [hw] at hI2
        rw [hlen] at hv
        subst hv
        have hlen2 : (ws ++ [x]).length = ws.length + 1 := by simp
        obtain ⟨g, hg1, hg, hc⟩ := IntsAt.elem (n := ws.length + 1) (j := ws.length) hI2 (by simp)
        subst hg1
        rw [show (ws ++ [x]).getD ws.length 0 = x by simp] at hc
        have hn65 : ws.length ≤ 65536 := by
          have h1 := inR_len hM.seen.nodup hM.rng
          obtain ⟨_, _, _, _, _, _, _, _, h2⟩ := hM.heap
          have := hI.out.2.1
          unfold Few at this
          omega
        obtain ⟨n, hn⟩ : ∃ n, n = ws.length := ⟨_, rfl⟩
        have hpop := hI2.pop
        have hcap := hpop.le_cap
        have HPOP : Hid (∀ W, Fr (fun _ => False) wr W → MkAt (W.setCell ⟨K.mp, 2, none⟩ (.slice (some ⟨g, 0, none⟩) n cap)) q p srt most K (.slice (some ⟨g, 0, none⟩) n cap) { mm with wait := ws }) := fun W hW => by
          refine MkAt.setWait hM (Fr.any hW) ?_ (fun k hk => .inl hk) ?_
          · rw [hn]; exact hpop.fr hW fun _ _ => id
          · have := hM.room; rw [hlen] at this; omega
        have HFW : Hid (Few { mm with wait := ws }) := by
          have := hI.out.2.1
          show ws.length ≤ mm.seen.length
          unfold Few at this
          omega
        have HMP : Hid (MPost w q p srt most K v wr (.slice (some ⟨g, 0, none⟩) (ws.length + 1) cap) mm) := hI.out.1
        have HML : Hid (2 * (N - setLen wr K.mb) + waitLen wr K.mp = 2 * (N - mm.seen.length) + (ws.length + 1)) := by
          show _ = _
          rw [hM.seen.len, hM.waitLen, hlen]
        have HSTEP : Hid (∀ m1, Below' srt most x { mm with wait := ws } m1 → (m1.s.n = m.s.n) ∧ ∀ m', Dra srt most m1 m' → Dra srt most m m') := fun m1 hb => ⟨hb.grows.n.trans hI.out.2.2.1, fun m' hd => hI.out.2.2.2 m' (Dra.step hw (by rw [← he]; exact he0) hb hd)⟩
        have z2 := hM.frz 2
        have HNW := Lib.hid hn
        rw [← hn] at hc h2 hn65 HMP hcap
        have hwA : IntKind.i64.wrap (((n + 1 : Nat) : Int) - 1) = n := by rw [IntKind.wrap_i64]; omega
        have hwB : IntKind.i64.wrap ((n : Int) + 1 - 1) = n := by rw [IntKind.wrap_i64]; omega
        have hwC : IntKind.i64.wrap (n : Int) = n := by rw [IntKind.wrap_i64]; omega
        have hcapI : (n : Int) ≤ (cap : Int) := by omega
        subst he0
        clear hI hM hw hlen hI2 hlen2 hpop he hg hn
        have hpos : decide ((0 : Int) < ((n + 1 : Nat) : Int)) = true := by simp <;> omega
        go_wp2_with fail
        go_quiet (fail)
        go_wp2_with fail
        obtain ⟨w3, hw3⟩ : ∃ w3, w3 = wr.drewN nq := ⟨_, rfl⟩
        rw [← hw3]
        have hq3 : Fr (fun _ => False) wr w3 := by rw [hw3]; exact (Fr.refl _ wr).drewN _
        have h23 := hq3.cell h2 id
        have z23 : w3.frozen? ⟨K.mp, 2, none⟩ = false := by rw [hw3]; exact z2
        have HPOP3 := Lib.hid (HPOP.out _ hq3.drew)
        have HMP3 : Hid (MPost w q p srt most K v w3 (.slice (some ⟨g, 0, none⟩) (n + 1) cap) mm) := HMP.out.quiet hq3
        clear hw3 hq3 h2 z2
        go_still_tail 14, (by kernel_rfl)
        change wpList _ _ _ _ _ w3.drew
        have HB4 := Lib.hid (below_any HPOP3.out HFW.out x)
        have HPP : Hid (MPost w q p srt most K v (w3.drew.setCell ⟨K.mp, 2, none⟩ (.slice (some ⟨g, 0, none⟩) n cap)) (.slice (some ⟨g, 0, none⟩) n cap) { mm with wait := ws }) :=
          (HMP3.out.quiet (Fr.refl (fun _ => False) w3).drew).trans ⟨HPOP3.out, (Fr.refl _ _).setCell (.inr (.inl rfl)) _, fun k hk => .inl hk⟩
        go_wp2_with fail
        refine HB4.out.mono ?_
        rintro e w5 ⟨v5, m5, rfl, h5⟩
        have HP5 : Hid (MPost w q p srt most K v w5 v5 m5) := HPP.out.trans h5.out.2.1
        have HS5 := Lib.hid (HSTEP.out m5 h5.out.1)
        have HF5 : Hid (Few m5) := h5.out.2.2
        have HM5 : Hid (2 * (N - setLen w5 K.mb) + waitLen w5 K.mp < 2 * (N - setLen wr K.mb) + waitLen wr K.mp) := by
          have h1 := h5.out.1.grows
          have h2 := inR_len HP5.out.at'.seen.nodup HP5.out.at'.rng
          rw [HS5.out.1, ← HN.out] at h2
          have h3 := h1.seen
          have h4 := h1.wait
          show _ < _
          rw [HML.out, HP5.out.at'.seen.len, HP5.out.at'.waitLen]
          simp only at h3 h4
          omega
        clear h5 HB4 h23 z23 hc
        go_wp2
        go_roundw
        case rel => exact ⟨_, v5, m5, rfl, HP5.out, HF5.out, HS5.out⟩
        case measure => exact HM5.out
      · have HFIN : Hid (Dra srt most m mm ∧ MPost w q p srt most K v wr vv mm ∧ Few mm) := ⟨hI.out.2.2.2 mm (Dra.stop (.inr (by rw [← he]; exact he0))), hI.out.1, hI.out.2.1⟩
        have he0' : (e == 0) = false := by simpa using he0
        rw [hlen] at hv
        subst hv
        have hpos : decide ((0 : Int) < ((ws.length + 1 : Nat) : Int)) = true := by simp <;> omega
        clear hI hM hw hlen he
        go_wp2
        go_end0
        exact ⟨_, _, rfl, HFIN⟩
end Go.Proofs.Ytjfpijoeddjgmaa
