/- A marker passes over closures that are others. Conditions: the marker's memory reads as the plain model says. -/
import Derived.Test.YtjfpijoeddjgmaaMarkW2
import Derived.StillTailTactics
namespace Go.Proofs.Ytjfpijoeddjgmaa
open Go.RowKit Hm
set_option linter.unusedVariables false

theorem ptr_len {srt : List Inf} {s : HS} {a : Int} (hok : ∀ i ∈ srt, i.Ok) : (ptrAt srt s a).length ≤ 60 := by
  unfold ptrAt ptrsM
  by_cases h : (countM srt s a).2.2 = 0
  · obtain ⟨n, k, e, hn, hk⟩ := count_in hok h
    rw [if_pos h, ptrL_len, e, Int.toNat_natCast]
    exact hn
  · rw [if_neg h]; exact Nat.zero_le _
theorem aim_no {srt : List Inf} {m : MK} {a l q : Int} (h : ¬ (q ≠ l ∧ m.e = 0)) : m.aim srt a l q = m := by unfold MK.aim; rw [if_neg h]
theorem aim_yes {srt : List Inf} {m : MK} {a l q : Int} (h : q ≠ l ∧ m.e = 0) : m.aim srt a l q = m.point srt a 0 q := by unfold MK.aim; rw [if_pos h]
theorem look_id {srt : List Inf} {m : MK} {a : Int} (h : (m.look srt a).e = 0) : m.look srt a = m := by
  by_cases hok : okAt srt m.s a
  · exact look_ok hok
  · rw [look_bad hok] at h
    exact absurd h (fail_e m)
/-- What through leaves of the world. -/
abbrev TS (p : HP) (K : MkP) : Nat → Prop := fun k => p.mine k ∨ k = K.mp
abbrev TB (p : HP) (K : MkP) (B : Nat) : Nat → Prop := fun k => (p.mine k ∨ k = K.mp) ∨ B ≤ k
def ThrPost (w : World) (q : SPl) (p : HP) (srt : List Inf) (most : Int) (K : MkP) (v : Value) (d : Nat) (seen : List Int) (a : Int) (m : MK) (r : Int) (w' : World) : Prop :=
  ∃ m', Thr srt d seen a m r m' ∧ MkAt w' q p srt most K v m' ∧ r < 9223372036854775808 ∧ (r = 0 ∨ m'.e ≠ 0 ∨ inR m'.s.n r) ∧ Fr (TS p K) w w'
theorem pt_any {w : World} {q : SPl} {p : HP} {srt : List Inf} {most : Int} {K : MkP} {v : Value} {m : MK} (h : MkAt w q p srt most K v m) (a i r : Int) (hr : r < 9223372036854775808) :
    Calls Try.prog 42 #[.pointer (some ⟨q.sp, 0, none⟩), .int .i64 a, .int .i64 i, .int .i64 r] w fun e w' => ∃ x, e = .returned (.int .i64 x) ∧ Hid (MkAt w' q p srt most K v { m with s := (pointM srt m.s a i r).2 } ∧ Fr p.mine w w') := by
  refine (point_any a i r w h.heap h.sto hr).mono ?_
  rintro e w' ⟨rfl, h1, h2⟩
  exact ⟨_, rfl, h.turn h1 h2 (pointM_n _ _ _ _ _), h2⟩
theorem in_any {w : World} {q : SPl} {p : HP} {srt : List Inf} {most : Int} {K : MkP} {v : Value} {m : MK} (h : MkAt w q p srt most K v m) (a r : Int) (hr : r < 9223372036854775808) :
    Calls Try.prog 45 #[.pointer (some ⟨q.sp, 0, none⟩), .int .i64 a, .int .i64 r] w fun e w' => ∃ x, e = .returned (.int .i64 x) ∧ Hid (MkAt w' q p srt most K v { m with s := (indM srt m.s a r).2 } ∧ Fr p.mine w w') := by
  refine (ind_any a r w h.heap h.sto (fun k hk => ⟨(h.sep k hk).1, (h.sep k hk).2.1⟩) hr).mono ?_
  rintro e w' ⟨rfl, h1, h2⟩
  exact ⟨_, rfl, h.turn h1 h2 (indM_n _ _ _ _), h2⟩
theorem Fr.shut {S : Nat → Prop} {w w' : World} {B : Nat} (h : Fr (fun k => S k ∨ B ≤ k) w w') (hB : w.heap.size ≤ B) : Fr S w w' :=
  ⟨h.os, h.tape, h.output, h.size, fun k hk hs => h.block k hk fun e => by rcases e with e | e; exact hs e; omega⟩

set_option maxRecDepth 100000 in
set_option maxHeartbeats 8000000 in
theorem through_step {q : SPl} {p : HP} {srt : List Inf} {most : Int} {K : MkP} {v : Value} (d : Nat) (hd : d ≤ 20)
    (hrec : d < 20 → ∀ (w : World) (m : MK) (a : Int), MkAt w q p srt most K v m → a < 9223372036854775808 →
      Calls Try.prog 103 #[.pointer (some ⟨K.mp, 0, none⟩), .int .i64 a, .int .i64 ((d : Int) + 1)] w fun e w' => ∃ r, e = .returned (.int .i64 r) ∧ Hid (ThrPost w q p srt most K v (d + 1) [] a m r w'))
    (w : World) (m : MK) (a0 : Int) (h : MkAt w q p srt most K v m) (ha0 : a0 < 9223372036854775808) :
    Calls Try.prog 103 #[.pointer (some ⟨K.mp, 0, none⟩), .int .i64 a0, .int .i64 d] w fun e w' => ∃ r, e = .returned (.int .i64 r) ∧ Hid (ThrPost w q p srt most K v d [] a0 m r w') := by
  obtain ⟨B, hB⟩ : ∃ B, B = w.heap.size := ⟨_, rfl⟩
  have HFIN : Hid (∀ W, Fr (TB p K B) w W → Fr (TS p K) w W) := fun W hW => hW.shut (by rw [hB]; exact Nat.le_refl _)
  have HFREE : Hid (∀ k, B ≤ k → Free q p K v k) := by rw [hB]; exact fun k hk => h.fresh hk
  have HMINE : Hid (∀ k, p.mine k → k < B) := by rw [hB]; exact h.heap.lt
  have HMP : Hid (K.mp < B) := by rw [hB]; exact h.mp_lt
  have HREC := Lib.hid hrec
  have H1 : Hid (MkAt (w.alloc (.map #[] 0)) q p srt most K v m ∧ SetAt (w.alloc (.map #[] 0)) B [] ∧ Fr (TB p K B) w (w.alloc (.map #[] 0)) ∧ (∀ x ∈ ([] : List Int), inR m.s.n x) ∧ a0 < 9223372036854775808 ∧ ∀ r m', Thr srt d [] a0 m r m' → Thr srt d [] a0 m r m') := by
    refine ⟨h.quiet ((Fr.refl _ w).alloc _), by rw [hB]; exact SetAt.new w, (Fr.refl _ w).alloc _, (fun x hx => by cases hx), ha0, fun r m' h => h⟩
  obtain ⟨N, hN⟩ : ∃ N, N = 32 * m.s.n := ⟨_, rfl⟩
  have HNN := Lib.hid hN
  have HSORT := Lib.hid h.sorts
  have hmk := run_makeMap (P := Try.prog) 67 w
  rw [← hB] at hmk
  have hb' := hB.symm
  have HD20 := Lib.hid hd
  clear hB h hN ha0 hrec
  go_enter Try.func103, Try.ntmps103
  go_wp2
  go_loopw [1] (fun v1 wr => ∃ a : Int, ∃ seen : List Int, ∃ m1 : MK, v1 = .int .i64 a ∧ Hid (MkAt wr q p srt most K v m1 ∧ SetAt wr B seen ∧ Fr (TB p K B) w wr ∧ (∀ x ∈ seen, inR m1.s.n x) ∧ a < 9223372036854775808 ∧ m1.s.n = m.s.n ∧ ∀ r m', Thr srt d seen a m1 r m' → Thr srt d [] a0 m r m')) (fun _ wr => N + 1 - setLen wr B)
  case atStart => exact ⟨a0, [], m, rfl, H1.out.1, H1.out.2.1, H1.out.2.2.1, H1.out.2.2.2.1, H1.out.2.2.2.2.1, rfl, H1.out.2.2.2.2.2⟩
  case round =>
    obtain ⟨a, seen, m1, rfl, hI⟩ := hrel
    clear H1 hmk hb'
    have hlk := hI.out.2.1.look a
    have h9 := hI.out.1.err
    obtain ⟨e, he⟩ : ∃ e, e = m1.e := ⟨_, rfl⟩
    have HE := Lib.hid he
    rw [← he] at h9
    clear he
    by_cases hst : a = 0 ∨ e ≠ 0 ∨ a ∈ seen
    · have HST : Hid (ThrPost w q p srt most K v d [] a0 m a wr) := by
        refine ⟨m1, hI.out.2.2.2.2.2.2 _ _ (Thr.stop (by rw [← HE.out]; exact hst)), hI.out.1, hI.out.2.2.2.2.1, ?_, HFIN.out _ hI.out.2.2.1⟩
        rcases hst with h | h | h
        · exact .inl h
        · exact .inr (.inl (by rw [← HE.out]; exact h))
        · exact .inr (.inr (hI.out.2.2.2.1 a h))
      clear hI
      by_cases c1 : a = 0
      · subst c1
        clear hst
        go_wp2
        go_ret
        exact ⟨_, rfl, HST⟩
      · by_cases c2 : e = 0
        · have c3 : a ∈ seen := by
            rcases hst with h | h | h
            · exact absurd h c1
            · exact absurd c2 h
            · exact h
          rw [decide_eq_true c3] at hlk
          subst c2
          clear hst c3
          go_wp2
          go_ret
          exact ⟨_, rfl, HST⟩
        · have c2' : (e == 0) = false := by simpa using c2
          clear hst hlk
          go_wp2
          go_ret
          exact ⟨_, rfl, HST⟩
    · have c1 : a ≠ 0 := fun h => hst (.inl h)
      have c3 : a ∉ seen := fun h => hst (.inr (.inr h))
      have c4 : e = 0 := Classical.byContradiction fun h => hst (.inr (.inl h))
      rw [decide_eq_false c3] at hlk
      have d1 : (a != 0) = true := by simpa using c1
      obtain ⟨w5, hup, hs5, hf5⟩ := hI.out.2.1.put c3
      have HM5 : Hid (MkAt w5 q p srt most K v m1) := hI.out.1.fr hf5 fun k (hk : k = B) => HFREE.out k (by omega)
      have HS5 := Lib.hid hs5
      have HF5 : Hid (Fr (TB p K B) w w5) := hI.out.2.2.1.trans (hf5.mono fun k (hk : k = B) => .inr (by omega))
      have HLOOK := Lib.hid (mlook_any HM5.out a)
      have HST : Hid (¬ (a = 0 ∨ m1.e ≠ 0 ∨ a ∈ seen)) := by rw [← HE.out]; exact hst
      have HLEN : Hid (setLen wr B = seen.length) := hI.out.2.1.len
      have HI4 := Lib.hid hI.out.2.2.2
      subst c4
      clear hs5 hf5 hst c3 hI
      obtain ⟨I, hIn⟩ : ∃ I, I = infAt srt m1.s a := ⟨_, rfl⟩
      obtain ⟨l, hl⟩ : ∃ l, l = ptrAt srt m1.s a := ⟨_, rfl⟩
      rw [← hIn, ← hl] at HLOOK
      have HIN := Lib.hid hIn
      have HL := Lib.hid hl
      by_cases hok : okAt srt m1.s a
      · have HOK := Lib.hid hok
        have HLK := Lib.hid (look_ok hok)
        have HAIR : Hid (inR m1.s.n a) := hok.inR HM5.out.heap.wf
        have HIR : Hid (∀ x ∈ seen ++ [a], inR m1.s.n x) := by
          intro x hx
          rcases List.mem_append.1 hx with hx | hx
          · exact HI4.out.1 x hx
          · rw [List.mem_singleton] at hx
            subst hx
            exact HAIR.out
        obtain ⟨ik, ip, ino, ia, it, ic, iof, ipk⟩ := I
        unfold Inf.val at HLOOK
        simp only at HLOOK
        by_cases hk : ik = 6
        · subst hk
          have hpos := (ptr_pos HSORT.out (a := a) (s := m1.s) (.inl (by rw [← hIn]))).1
          rw [← hl] at hpos
          have hl0 : l.getD 0 0 < 9223372036854775808 := (ptr_lt _ (by rw [hl] at hpos ⊢; exact getD_mem hpos)).2
          have HR : Hid (∀ r m', Thr srt d (seen ++ [a]) (l.getD 0 0) m1 r m' → Thr srt d [] a0 m r m') := fun r m' h => HI4.out.2.2.2 _ _ (Thr.ind HST.out HOK.out (by rw [← HIN.out]) (by rw [← HL.out]; exact h))
          clear hIn hl hok
          go_wp2_with fail
          refine HLOOK.out.mono ?_
          rintro e w6 ⟨ao, cap, rfl, hm6⟩
          have hm6' := hm6.out.1
          rw [HLK.out] at hm6'
          obtain ⟨g, rfl, hg, hc⟩ := hm6.out.2.1.elem (j := 0) hpos
          obtain ⟨a2, ha2⟩ : ∃ a2, a2 = l.getD 0 0 := ⟨_, rfl⟩
          rw [← ha2] at hc HR hl0
          obtain ⟨pa, pb, pc, n6, n7, n8, hpab⟩ := hm6'.nums
          have h9b := hm6'.err
          rw [← HE.out] at h9b
          have z8 := hm6'.frz 8
          have q8 := fun o => ((Fr.refl (fun _ => False) w6).alloc o).cell n8 id
          have q9 := fun o => ((Fr.refl (fun _ => False) w6).alloc o).cell h9b id
          have qz := fun o => (hm6'.quiet ((Fr.refl (fun _ => False) w6).alloc o)).frz 8
          have qc := fun o => ((Fr.refl (fun _ => False) w6).alloc o).cell hc id
          have hne : Hid (g ≠ K.mp) := by
            have h1 := HF5.out.size
            have h2 := HMP.out
            have h3 := HS5.out.lt
            show g ≠ K.mp
            omega
          have hgne := hne.out
          have HM6 : Hid (∀ o x, MkAt ((w6.alloc o).setCell ⟨K.mp, 8, none⟩ (.int .i64 x)) q p srt most K v m1 ∧ SetAt ((w6.alloc o).setCell ⟨K.mp, 8, none⟩ (.int .i64 x)) B (seen ++ [a]) ∧ Fr (TB p K B) w ((w6.alloc o).setCell ⟨K.mp, 8, none⟩ (.int .i64 x))) := by
            intro o x
            have hf := hm6.out.2.2
            refine ⟨(hm6'.quiet ((Fr.refl (fun _ => False) w6).alloc o)).setPassed x, ?_, ((HF5.out.trans (hf.mono fun k hk => .inl (.inr hk))).alloc _).setCell (.inl (.inr rfl)) _⟩
            refine ((HS5.out.fr hf (by have := HMP.out; show ¬ (B = K.mp); omega)).fr ((Fr.refl (fun _ => False) w6).alloc o) id).fr (S := fun k => k = K.mp) ((Fr.refl _ _).setCell (S := fun k => k = K.mp) rfl _) (by have := HMP.out; show ¬ (B = K.mp); omega)
          clear hm6 hm6' hg hc ha2 hpab n6 n7 n8 h9b z8
          go_wp2
          go_roundw
          case rel => exact ⟨a2, seen ++ [a], m1, rfl, (HM6.out _ _).1, (HM6.out _ _).2.1, (HM6.out _ _).2.2, HIR.out, hl0, HI4.out.2.2.1, HR.out⟩
          case measure =>
            have h1 := (HM6.out (.cells #[.int .i64 6, .int .i64 ip, .int .i64 ino, .int .i64 ia, .int .i64 it, .int .i64 ic, .int .i64 iof, .int .i64 ipk, .string ⟨#[]⟩] 80) (wrap64 (pc + 1))).2.1
            have h2 := h1.len
            have h3 := inR_len h1.nodup HIR.out
            rw [List.length_append] at h2 h3
            have := HLEN.out
            have := HNN.out
            have := HI4.out.2.2.1
            rw [this] at h3
            simp at h2 h3 ⊢
            omega
        · have hk' : (ik == 6) = false := by simpa using hk
          have hk6 : (infAt srt m1.s a).kind ≠ 6 := by rw [← hIn]; exact hk
          have HPLN : Hid ((ik ≠ 2 ∨ ipk = 0 ∨ 20 ≤ d ∨ l.getD 0 0 = 0) → Thr srt d [] a0 m a m1) := fun hp =>
            HI4.out.2.2.2 _ _ (Thr.plain HST.out HOK.out hk6 (by rw [← HIN.out, ← HL.out]; exact hp))
          by_cases k2 : ik = 2
          · subst k2
            by_cases p0 : ipk = 0
            · subst p0
              have HPL := Lib.hid (HPLN.out (.inr (.inl rfl)))
              clear hIn hl hok hk6 HPLN
              go_wp2_with fail
              refine HLOOK.out.mono ?_
              rintro e w6 ⟨ao, cap, rfl, hm6⟩
              have hm6' := hm6.out.1
              rw [HLK.out] at hm6'
              have h9b := hm6'.err
              rw [← HE.out] at h9b
              have q9 := fun o => ((Fr.refl (fun _ => False) w6).alloc o).cell h9b id
              have HPL2 : Hid (∀ o, ThrPost w q p srt most K v d [] a0 m a (w6.alloc o)) := fun o => ⟨m1, HPL.out, hm6'.quiet ((Fr.refl (fun _ => False) w6).alloc o), HI4.out.2.1, .inr (.inr HAIR.out), HFIN.out _ ((HF5.out.trans (hm6.out.2.2.mono fun k hk => .inl (.inr hk))).alloc _)⟩
              clear hm6 hm6' h9b
              go_wp2
              go_ret
              exact ⟨_, rfl, HPL2.out _⟩
            · have p0' : (ipk == 0) = false := by simpa using p0
              have hpp := ptr_pos HSORT.out (a := a) (s := m1.s) (.inr (by rw [← hIn]; exact ⟨rfl, p0⟩))
              have hpos := hpp.1
              have hpk := hpp.2 (by rw [← hIn])
              rw [← hl] at hpos
              rw [← hIn] at hpk
              simp only at hpk
              have hl0 : l.getD 0 0 < 9223372036854775808 := (ptr_lt _ (by rw [hl] at hpos ⊢; exact getD_mem hpos)).2
              by_cases hd2 : 20 ≤ d
              · have hdd : (20 : Int) ≤ (d : Int) := by omega
                have hdd' : decide ((20 : Int) ≤ (d : Int)) = true := by simpa using hdd
                have HPL := Lib.hid (HPLN.out (.inr (.inr (.inl hd2))))
                clear hIn hl hok hk6 HPLN hpp hpk
                go_wp2_with fail
                refine HLOOK.out.mono ?_
                rintro e w6 ⟨ao, cap, rfl, hm6⟩
                have hm6' := hm6.out.1
                rw [HLK.out] at hm6'
                have h9b := hm6'.err
                rw [← HE.out] at h9b
                have q9 := fun o => ((Fr.refl (fun _ => False) w6).alloc o).cell h9b id
                have HPL2 : Hid (∀ o, ThrPost w q p srt most K v d [] a0 m a (w6.alloc o)) := fun o => ⟨m1, HPL.out, hm6'.quiet ((Fr.refl (fun _ => False) w6).alloc o), HI4.out.2.1, .inr (.inr HAIR.out), HFIN.out _ ((HF5.out.trans (hm6.out.2.2.mono fun k hk => .inl (.inr hk))).alloc _)⟩
                clear hm6 hm6' h9b
                go_wp2
                go_ret
                exact ⟨_, rfl, HPL2.out _⟩
              · have hdd : ¬ (20 : Int) ≤ (d : Int) := by omega
                have hdd' : decide ((20 : Int) ≤ (d : Int)) = false := by simpa using hdd
                by_cases l0z : l.getD 0 0 = 0
                · have HPL := Lib.hid (HPLN.out (.inr (.inr (.inr l0z))))
                  clear hIn hl hok hk6 HPLN hpp hpk
                  go_wp2_with fail
                  refine HLOOK.out.mono ?_
                  rintro e w6 ⟨ao, cap, rfl, hm6⟩
                  have hm6' := hm6.out.1
                  rw [HLK.out] at hm6'
                  have h9b := hm6'.err
                  rw [← HE.out] at h9b
                  have q9 := fun o => ((Fr.refl (fun _ => False) w6).alloc o).cell h9b id
                  have HPL2 : Hid (∀ o, ThrPost w q p srt most K v d [] a0 m a (w6.alloc o)) := fun o => ⟨m1, HPL.out, hm6'.quiet ((Fr.refl (fun _ => False) w6).alloc o), HI4.out.2.1, .inr (.inr HAIR.out), HFIN.out _ ((HF5.out.trans (hm6.out.2.2.mono fun k hk => .inl (.inr hk))).alloc _)⟩
                  obtain ⟨g, rfl, hg, hc⟩ := hm6.out.2.1.elem (j := 0) hpos
                  rw [l0z] at hc
                  have qc := fun o => ((Fr.refl (fun _ => False) w6).alloc o).cell hc id
                  clear hm6 hm6' h9b hg hc l0z hl0
                  go_wp2
                  go_ret
                  exact ⟨_, rfl, HPL2.out _⟩
                · clear HPLN
                  obtain ⟨j, rfl⟩ : ∃ j : Nat, ipk = (j : Int) + 1 := ⟨(ipk - 1).toNat, by omega⟩
                  obtain ⟨l0, hl0e⟩ : ∃ l0, l0 = l.getD 0 0 := ⟨_, rfl⟩
                  rw [← hl0e] at l0z hl0
                  have HK2 : Hid ((infAt srt m1.s a).kind = 2) := by show _ = _; rw [← hIn]
                  have HNP : Hid (¬ ((infAt srt m1.s a).pick = 0 ∨ 20 ≤ d ∨ (ptrAt srt m1.s a).getD 0 0 = 0)) := by
                    show ¬ _
                    rw [← hIn, ← hl, ← hl0e]
                    intro h
                    rcases h with h | h | h
                    · exact p0 h
                    · exact hd2 h
                    · exact l0z h
                  have HLL : Hid ((ptrAt srt m1.s a).getD 0 0 = l0) := by show _ = _; rw [← hl, ← hl0e]
                  have HIE : Hid (infAt srt m1.s a = ⟨2, ip, ino, ia, it, ic, iof, (j : Int) + 1⟩) := hIn.symm
                  clear hIn hl hok hk6 hpp
                  go_wp2_with fail
                  refine HLOOK.out.mono ?_
                  rintro e w6 ⟨ao, cap, rfl, hm6⟩
                  have hm6' := hm6.out.1
                  rw [HLK.out] at hm6'
                  obtain ⟨g, rfl, hg, hc⟩ := hm6.out.2.1.elem (j := 0) hpos
                  rw [← hl0e] at hc
                  have HGT : Hid (B ≤ g ∧ B ≤ w6.heap.size) := by
                    have h1 := HS5.out.lt
                    have h2 := hm6.out.2.2.size
                    show _ ∧ _
                    omega
                  have h9b := hm6'.err
                  rw [← HE.out] at h9b
                  have q9 := fun o => ((Fr.refl (fun _ => False) w6).alloc o).cell h9b id
                  have qc := fun o => ((Fr.refl (fun _ => False) w6).alloc o).cell hc id
                  have HW7 : Hid (∀ o, MkAt (w6.alloc o) q p srt most K v m1 ∧ SetAt (w6.alloc o) B (seen ++ [a]) ∧ Fr (TB p K B) w (w6.alloc o)) := by
                    intro o
                    have hf := hm6.out.2.2
                    refine ⟨hm6'.quiet ((Fr.refl (fun _ => False) w6).alloc o), (HS5.out.fr hf (by have := HMP.out; show ¬ (B = K.mp); omega)).fr ((Fr.refl (fun _ => False) w6).alloc o) id, (HF5.out.trans (hf.mono fun k hk => .inl (.inr hk))).alloc _⟩
                  have HRC : Hid (∀ o, Calls Try.prog 103 #[.pointer (some ⟨K.mp, 0, none⟩), .int .i64 l0, .int .i64 ((d : Int) + 1)] (w6.alloc o) fun e w' => ∃ r, e = .returned (.int .i64 r) ∧ Hid (ThrPost (w6.alloc o) q p srt most K v (d + 1) [] l0 m1 r w')) :=
                    fun o => HREC.out (by omega) _ m1 l0 (HW7.out o).1 hl0
                  clear hm6 hm6' hg hc h9b hl0e
                  go_wp2_with fail
                  obtain ⟨W7, hW7⟩ : ∃ W7, W7 = w6.alloc (.cells #[.int .i64 2, .int .i64 ip, .int .i64 ino, .int .i64 ia, .int .i64 it, .int .i64 ic, .int .i64 iof, .int .i64 ((j : Int) + 1), .string ⟨#[]⟩] 80) := ⟨_, rfl⟩
                  obtain ⟨t8, ht8⟩ : ∃ t8, t8 = w6.heap.size := ⟨_, rfl⟩
                  have HRC7 := Lib.hid (HRC.out (.cells #[.int .i64 2, .int .i64 ip, .int .i64 ino, .int .i64 ia, .int .i64 it, .int .i64 ic, .int .i64 iof, .int .i64 ((j : Int) + 1), .string ⟨#[]⟩] 80))
                  have HW77 := Lib.hid (HW7.out (.cells #[.int .i64 2, .int .i64 ip, .int .i64 ino, .int .i64 ia, .int .i64 it, .int .i64 ic, .int .i64 iof, .int .i64 ((j : Int) + 1), .string ⟨#[]⟩] 80))
                  have HB7 : Hid (BlkAt W7 t8 80 9 (Inf.cell ⟨2, ip, ino, ia, it, ic, iof, (j : Int) + 1⟩)) := by rw [hW7, ht8]; exact blk_new w6 80 _ 9 _ rfl
                  have hc7 := qc (.cells #[.int .i64 2, .int .i64 ip, .int .i64 ino, .int .i64 ia, .int .i64 it, .int .i64 ic, .int .i64 iof, .int .i64 ((j : Int) + 1), .string ⟨#[]⟩] 80)
                  rw [← hW7] at HRC7 HW77 hc7
                  have HT8 : Hid (B ≤ g ∧ B ≤ t8) := by rw [ht8]; exact HGT.out
                  rw [← hW7, ← ht8]
                  clear hW7 ht8 HRC HW7 HGT qc q9
                  refine HRC7.out.mono ?_
                  rintro e w8 ⟨qv, rfl, hq⟩
                  obtain ⟨m2, hT2, hM8, hqlt, hqr, hF8⟩ := hq.out
                  have hc8 := hF8.cell hc7 (by
                    have h1 := HMINE.out; have h2 := HMP.out; have h3 := HT8.out
                    rintro (h | h)
                    · have := h1 g h; omega
                    · have : g = K.mp := h; omega)
                  have HB8 : Hid (BlkAt w8 t8 80 9 (Inf.cell ⟨2, ip, ino, ia, it, ic, iof, (j : Int) + 1⟩)) := HB7.out.fr hF8 (by
                    have h1 := HMINE.out; have h2 := HMP.out; have h3 := HT8.out
                    rintro (h | h)
                    · have := h1 t8 h; omega
                    · have : t8 = K.mp := h; omega)
                  have HS8 : Hid (SetAt w8 B (seen ++ [a])) := HW77.out.2.1.fr hF8 (by
                    have h1 := HMINE.out; have h2 := HMP.out
                    rintro (h | h)
                    · have := h1 B h; omega
                    · have : B = K.mp := h; omega)
                  have HF88 : Hid (Fr (TB p K B) w w8) := HW77.out.2.2.trans (hF8.mono fun k hk => .inl hk)
                  obtain ⟨mA, hmA⟩ : ∃ mA, mA = m2.aim srt a l0 qv := ⟨_, rfl⟩
                  have HNA : Hid (mA.s.n = m1.s.n) := by
                    show _ = _
                    rw [hmA, (Kept.aim srt m2 a l0 qv).n, hT2.kept.n]
                  have HN : Hid ((qv = 0 → Thr srt d [] a0 m a mA) ∧ (qv ≠ 0 → cant srt mA qv ⟨2, ip, ino, ia, it, ic, iof, (j : Int) + 1⟩ → Thr srt d [] a0 m a (mA.look srt qv)) ∧
                      (qv ≠ 0 → ¬ cant srt mA qv ⟨2, ip, ino, ia, it, ic, iof, (j : Int) + 1⟩ → (∀ m3, Rch srt a [] (field srt mA.s qv ⟨2, ip, ino, ia, it, ic, iof, (j : Int) + 1⟩) mA true m3 → Thr srt d [] a0 m a m3) ∧
                        ∀ m3 r m4, Rch srt a [] (field srt mA.s qv ⟨2, ip, ino, ia, it, ic, iof, (j : Int) + 1⟩) mA false m3 → Thr srt d (seen ++ [a]) (field srt mA.s qv ⟨2, ip, ino, ia, it, ic, iof, (j : Int) + 1⟩) (m3.ind srt a (field srt mA.s qv ⟨2, ip, ino, ia, it, ic, iof, (j : Int) + 1⟩)) r m4 → Thr srt d [] a0 m r m4)) := by
                    have hT2' : Thr srt (d + 1) [] ((ptrAt srt m1.s a).getD 0 0) m1 qv m2 := by rw [HLL.out]; exact hT2
                    rw [hmA, ← HLL.out, ← HIE.out]
                    refine ⟨fun h0 => ?_, fun h0 hc => ?_, fun h0 hc => ⟨fun m3 hr => ?_, fun m3 r m4 hr hn => ?_⟩⟩
                    · rw [h0] at hT2' ⊢
                      exact HI4.out.2.2.2 _ _ (Thr.none HST.out HOK.out HK2.out HNP.out hT2')
                    · exact HI4.out.2.2.2 _ _ (Thr.cant HST.out HOK.out HK2.out HNP.out hT2' h0 hc)
                    · exact HI4.out.2.2.2 _ _ (Thr.ring HST.out HOK.out HK2.out HNP.out hT2' h0 hc hr)
                    · exact HI4.out.2.2.2 _ _ (Thr.go HST.out HOK.out HK2.out HNP.out hT2' h0 hc hr hn)
                  have h98 := hM8.err
                  have h08 := hM8.ptr
                  obtain ⟨e2, he2⟩ : ∃ e2, e2 = m2.e := ⟨_, rfl⟩
                  rw [← he2] at h98
                  have HM8 := Lib.hid hM8
                  have HE2 := Lib.hid he2
                  have HMA0 := Lib.hid hmA
                  clear hq hT2 hM8 hqr hF8 hc7 he2 hmA HRC7 HW77 HB7
                  by_cases hql : qv = l0
                  · have hql' : (qv != l0) = false := by simpa using hql
                    have HMA : Hid (MkAt w8 q p srt most K v mA) := by rw [HMA0.out, aim_no (fun h => h.1 hql)]; exact HM8.out
                    have HFA := HF88
                    have HBA := HB8
                    have HSA := HS8
                    obtain ⟨wA, hwA⟩ : ∃ wA, wA = w8 := ⟨_, rfl⟩
                    subst hwA
                    clear hql HM8 HF88 HB8 HS8
                    by_cases hq0 : qv = 0
                    · have hq0' : (qv == 0) = true := by simpa using hq0
                      have HPN : Hid (ThrPost w q p srt most K v d [] a0 m a wA) := ⟨mA, HN.out.1 hq0, HMA.out, HI4.out.2.1, .inr (.inr (by rw [HNA.out]; exact HAIR.out)), HFIN.out _ HFA.out⟩
                      clear hq0
                      go_wp2
                      go_ret
                      exact ⟨_, rfl, HPN⟩
                    · have hq0' : (qv == 0) = false := by simpa using hq0
                      have HQ0 := Lib.hid hq0
                      have HLOOK2 := Lib.hid (mlook_any HMA.out qv)
                      obtain ⟨J, hJ⟩ : ∃ J, J = infAt srt mA.s qv := ⟨_, rfl⟩
                      obtain ⟨fl, hfl⟩ : ∃ fl, fl = ptrAt srt mA.s qv := ⟨_, rfl⟩
                      rw [← hJ, ← hfl] at HLOOK2
                      obtain ⟨jk, jp, jno, ja, jt, jc, jof, jpk⟩ := J
                      unfold Inf.val at HLOOK2
                      simp only at HLOOK2
                      have HCANT : Hid (cant srt mA qv ⟨2, ip, ino, ia, it, ic, iof, (j : Int) + 1⟩ ↔ ((mA.look srt qv).e ≠ 0 ∨ jk ≠ 0 ∨ jt ≠ iof ∨ (fl.length : Int) < (j : Int) + 1)) := by
                        show _ ↔ _
                        unfold cant
                        rw [← hJ, ← hfl]
                      have HFL : Hid (∀ x ∈ fl, x < 9223372036854775808) := fun x hx => (ptr_lt x (by rw [← hfl]; exact hx)).2
                      have HFL60 : Hid (fl.length ≤ 60) := by show _ ≤ 60; rw [hfl]; exact ptr_len HMA.out.sto.ok
                      have HFIELD : Hid (field srt mA.s qv ⟨2, ip, ino, ia, it, ic, iof, (j : Int) + 1⟩ = fl.getD j 0) := by
                        show _ = _
                        unfold field
                        rw [← hfl]
                        simp
                      clear hq0 hJ hfl
                      go_wp2_with fail
                      refine HLOOK2.out.mono ?_
                      rintro e wB ⟨ao2, cap2, rfl, hmB⟩
                      have hM9 := hmB.out.1
                      have h9B := hM9.err
                      obtain ⟨eB, heB⟩ : ∃ eB, eB = (mA.look srt qv).e := ⟨_, rfl⟩
                      rw [← heB] at h9B HCANT
                      have HEB := Lib.hid heB
                      have hbB := HBA.out.fr hmB.out.2.2 (by have h2 := HMP.out; have h3 := HT8.out; show ¬ (t8 = K.mp); omega)
                      have HSB : Hid (SetAt wB B (seen ++ [a])) := HSA.out.fr hmB.out.2.2 (by have h2 := HMP.out; show ¬ (B = K.mp); omega)
                      have HFB : Hid (Fr (TB p K B) w wB) := HFA.out.trans (hmB.out.2.2.mono fun k hk => .inl (.inr hk))
                      have ci6 := hbB.cell (i := 6) (by omega)
                      have ci7 := hbB.cell (i := 7) (by omega)
                      simp only [Inf.cell] at ci6 ci7
                      have qi6 := fun o => ((Fr.refl (fun _ => False) wB).alloc o).cell ci6 id
                      have qi7 := fun o => ((Fr.refl (fun _ => False) wB).alloc o).cell ci7 id
                      have q9B := fun o => ((Fr.refl (fun _ => False) wB).alloc o).cell h9B id
                      have HBB := Lib.hid hbB
                      have HM9 := Lib.hid hM9
                      have HPC : Hid (cant srt mA qv ⟨2, ip, ino, ia, it, ic, iof, (j : Int) + 1⟩ → ∀ o, ThrPost w q p srt most K v d [] a0 m a (wB.alloc o)) := fun hcant o =>
                        ⟨_, HN.out.2.1 HQ0.out hcant, hM9.quiet ((Fr.refl (fun _ => False) wB).alloc o), HI4.out.2.1, .inr (.inr (by rw [look_s, HNA.out]; exact HAIR.out)), HFIN.out _ (HFB.out.alloc _)⟩
                      clear heB hbB hM9 ci6 ci7 h9B
                      by_cases b1 : eB = 0
                      · by_cases b2 : jk = 0
                        · by_cases b3 : jt = iof
                          · by_cases b4 : (fl.length : Int) < (j : Int) + 1
                            · have HPC2 := Lib.hid (HPC.out (HCANT.out.2 (.inr (.inr (.inr b4)))))
                              have b3' : (jt != iof) = false := by simpa using b3
                              have b2' : (jk != 0) = false := by simpa using b2
                              have b1' : (eB != 0) = false := by simpa using b1
                              clear hmB b1 b2 b3
                              go_wp2
                              go_ret
                              exact ⟨_, rfl, HPC2.out _⟩
                            · have HNC : Hid (¬ cant srt mA qv ⟨2, ip, ino, ia, it, ic, iof, (j : Int) + 1⟩) := by
                                intro hc
                                rcases HCANT.out.1 hc with h | h | h | h
                                · exact h b1
                                · exact h b2
                                · exact h b3
                                · exact b4 h
                              have HID : Hid (mA.look srt qv = mA) := look_id (by rw [← HEB.out]; exact b1)
                              have b3' : (jt != iof) = false := by simpa using b3
                              have b2' : (jk != 0) = false := by simpa using b2
                              have b1' : (eB != 0) = false := by simpa using b1
                              have hjl : j < fl.length := by omega
                              obtain ⟨g2, rfl, hg2, hc2⟩ := hmB.out.2.1.elem (j := j) hjl
                              have HF2 : Hid (fl.getD j 0 < 9223372036854775808) := HFL.out _ (getD_mem hjl)
                              obtain ⟨f, hf⟩ : ∃ f, f = fl.getD j 0 := ⟨_, rfl⟩
                              rw [← hf] at hc2 HF2 HFIELD
                              have HN3 := Lib.hid (HN.out.2.2 HQ0.out HNC.out)
                              rw [HFIELD.out] at HN3
                              have hfl60 : fl.length ≤ 60 := HFL60.out
                              have hjw : wrap64 ((j : Int) + 1 - 1) = j := by rw [show (j : Int) + 1 - 1 = j by omega]; exact wrap_fit (by omega) (by omega)
                              have hjw2 : IntKind.i64.wrap ((j : Int) + 1 - 1) = j := by rw [IntKind.wrap_i64]; omega
                              have hjw3 : IntKind.i64.wrap (j : Int) = j := by rw [IntKind.wrap_i64]; omega
                              have hjw4 : (0 : Int) ≤ (j : Int) ∧ (j : Int) < (fl.length : Int) := by omega
                              have HG2 : Hid (B ≤ g2 ∧ B ≤ wB.heap.size) := by
                                have h1 := HSA.out.lt
                                have h2 := hmB.out.2.2.size
                                show _ ∧ _
                                omega
                              have qg2 := fun o => ((Fr.refl (fun _ => False) wB).alloc o).cell hc2 id
                              have HRCH : Hid (∀ o, Calls Try.prog 108 #[.pointer (some ⟨K.mp, 0, none⟩), .int .i64 f, .int .i64 a] (wB.alloc o) fun e w' => ∃ r m', e = .returned (.bool r) ∧ Hid (Rch srt a [] f mA r m' ∧ MkAt w' q p srt most K v m' ∧ Fr (fun k => k = K.mp) (wB.alloc o) w')) := by
                                intro o
                                have h := HM9.out.quiet ((Fr.refl (fun _ => False) wB).alloc o)
                                rw [HID.out] at h
                                exact reaches_any h f a
                              clear hmB b1 b2 b3 hg2 hc2 hf
                              go_wp2_with fail
                              obtain ⟨o11, ho11⟩ : ∃ o11 : Obj, o11 = .cells #[.int .i64 jk, .int .i64 jp, .int .i64 jno, .int .i64 ja, .int .i64 jt, .int .i64 jc, .int .i64 jof, .int .i64 jpk, .string ⟨#[]⟩] 80 := ⟨_, rfl⟩
                              rw [← ho11]
                              refine (HRCH.out o11).mono ?_
                              rintro e wD ⟨rb, m3, rfl, hR3⟩
                              have HFD : Hid (Fr (TB p K B) w wD) := (HFB.out.alloc _).trans (hR3.out.2.2.mono fun k hk => .inl (.inr hk))
                              have HM3 : Hid (MkAt wD q p srt most K v m3) := hR3.out.2.1
                              have HN3n : Hid (m3.s.n = m1.s.n) := by
                                show _ = _
                                rw [hR3.out.1.kept.2.1]; exact HNA.out
                              cases rb with
                              | true =>
                                have HPR : Hid (ThrPost w q p srt most K v d [] a0 m a wD) := ⟨m3, HN3.out.1 _ hR3.out.1, HM3.out, HI4.out.2.1, .inr (.inr (by rw [HN3n.out]; exact HAIR.out)), HFIN.out _ HFD.out⟩
                                clear hR3 ho11
                                go_wp2
                                go_ret
                                exact ⟨_, rfl, HPR⟩
                              | false =>
                                have hne8 : t8 ≠ K.mp := by have h2 := HMP.out; have h3 := HT8.out; omega
                                have hneg : g2 ≠ K.mp := by have h2 := HMP.out; have h3 := HG2.out; omega
                                have HBD : Hid (BlkAt wD t8 80 9 (Inf.cell ⟨2, ip, ino, ia, it, ic, iof, (j : Int) + 1⟩)) := (HBB.out.alloc _).fr hR3.out.2.2 (by show ¬ (t8 = K.mp); exact hne8)
                                have HSD : Hid (SetAt wD B (seen ++ [a])) := (HSB.out.fr ((Fr.refl (fun _ => False) wB).alloc _) id).fr hR3.out.2.2 (by have h2 := HMP.out; show ¬ (B = K.mp); omega)
                                have hgD := hR3.out.2.2.cell (qg2 o11) (by show ¬ (g2 = K.mp); exact hneg)
                                obtain ⟨pa, pb, pc, n6, n7, n8, hpab⟩ := HM3.out.nums
                                have z8 := HM3.out.frz 8
                                have HN4 := Lib.hid (fun r m4 => HN3.out.2 m3 r m4 hR3.out.1)
                                clear hR3 ho11 hpab n6 n7 HRCH HN3 HN HPC
                                go_wp2_with fail
                                obtain ⟨wE, hwE⟩ : ∃ wE, wE = wD.setCell ⟨K.mp, 8, none⟩ (.int .i64 (wrap64 (pc + 1))) := ⟨_, rfl⟩
                                rw [← hwE]
                                have HME : Hid (MkAt wE q p srt most K v m3) := by rw [hwE]; exact HM3.out.setPassed _
                                have HFDE : Hid (Fr (fun k => k = K.mp) wD wE) := by rw [hwE]; exact (Fr.refl _ wD).setCell (S := fun k => k = K.mp) rfl _
                                clear hwE n8 z8
                                have h0E := HME.out.ptr
                                have HBE : Hid (BlkAt wE t8 80 9 (Inf.cell ⟨2, ip, ino, ia, it, ic, iof, (j : Int) + 1⟩)) := HBD.out.fr HFDE.out (by show ¬ (t8 = K.mp); exact hne8)
                                have ci7 := HBE.out.cell (i := 7) (by omega)
                                simp only [Inf.cell] at ci7
                                have hgE := HFDE.out.cell hgD (by show ¬ (g2 = K.mp); exact hneg)
                                clear hgD
                                go_still_tail 11, (by kernel_rfl)
                                change wpList _ _ _ _ _ wE.drew
                                have HIND : Hid (Calls Try.prog 45 #[.pointer (some ⟨q.sp, 0, none⟩), .int .i64 a, .int .i64 f] wE.drew fun e w' => ∃ x, e = .returned (.int .i64 x) ∧ Hid (MkAt w' q p srt most K v { m3 with s := (indM srt m3.s a f).2 } ∧ Fr p.mine wE.drew w')) :=
                                  in_any (HME.out.quiet (Fr.refl (fun _ => False) wE).drew) a f HF2.out
                                go_wp2_with fail
                                refine HIND.out.mono ?_
                                rintro e wF ⟨x, rfl, hF⟩
                                have HMF : Hid (MkAt (wF.setCell ⟨K.mp, 5, none⟩ (.bool true)) q p srt most K v (m3.ind srt a f)) := hF.out.1.setMoved true
                                have HFE : Hid (Fr p.mine wE wF) := ((Fr.refl _ wE).drew).trans hF.out.2
                                have ci7F := HFE.out.cell ci7 (by intro h; have h1 : t8 < B := HMINE.out _ h; have h3 := HT8.out; omega)
                                have hgF := HFE.out.cell hgE (by intro h; have h1 : g2 < B := HMINE.out _ h; have h3 := HG2.out; omega)
                                have h5F := hF.out.1.mvd
                                have z5F := hF.out.1.frz 5
                                have HSF : Hid (SetAt (wF.setCell ⟨K.mp, 5, none⟩ (.bool true)) B (seen ++ [a])) := by
                                  have hB2 := HMP.out
                                  refine ((HSD.out.fr HFDE.out (by show ¬ (B = K.mp); omega)).fr HFE.out (by intro h; have h1 := HMINE.out _ h; omega)).fr (S := fun k => k = K.mp) ((Fr.refl _ _).setCell (S := fun k => k = K.mp) rfl _) (by show ¬ (B = K.mp); omega)
                                have HFF : Hid (Fr (TB p K B) w (wF.setCell ⟨K.mp, 5, none⟩ (.bool true))) := ((HFD.out.trans (HFDE.out.mono fun k hk => .inl (.inr hk))).trans (HFE.out.mono fun k hk => .inl (.inl hk))).setCell (.inl (.inr rfl)) _
                                clear ci7 hgE hF HIND h0E
                                go_wp2
                                go_roundw
                                case rel =>
                                  refine ⟨f, seen ++ [a], m3.ind srt a f, rfl, HMF.out, HSF.out, HFF.out, fun y hy => ?_, HF2.out, ?_, fun r m4 h => HN4.out r m4 h⟩
                                  · rw [(Kept.ind srt m3 a f).n, HN3n.out]; exact HIR.out y hy
                                  · rw [(Kept.ind srt m3 a f).n, HN3n.out]; exact HI4.out.2.2.1
                                case measure =>
                                  have h2 := HSF.out.len
                                  have h3 := inR_len HSF.out.nodup HIR.out
                                  rw [List.length_append] at h2 h3
                                  have := HLEN.out
                                  have := HNN.out
                                  have := HI4.out.2.2.1
                                  rw [this] at h3
                                  simp at h2 h3 ⊢
                                  omega
                          · have HPC2 := Lib.hid (HPC.out (HCANT.out.2 (.inr (.inr (.inl b3)))))
                            have b3' : (jt != iof) = true := by simpa using b3
                            have b2' : (jk != 0) = false := by simpa using b2
                            have b1' : (eB != 0) = false := by simpa using b1
                            clear hmB b1 b2 b3
                            go_wp2
                            go_ret
                            exact ⟨_, rfl, HPC2.out _⟩
                        · have HPC2 := Lib.hid (HPC.out (HCANT.out.2 (.inr (.inl b2))))
                          have b2' : (jk != 0) = true := by simpa using b2
                          have b1' : (eB != 0) = false := by simpa using b1
                          clear hmB b1 b2
                          go_wp2
                          go_ret
                          exact ⟨_, rfl, HPC2.out _⟩
                      · have HPC2 := Lib.hid (HPC.out (HCANT.out.2 (.inl b1)))
                        have b1' : (eB != 0) = true := by simpa using b1
                        clear hmB b1
                        go_wp2
                        go_ret
                        exact ⟨_, rfl, HPC2.out _⟩
                  · have hql' : (qv != l0) = true := by simpa using hql
                    by_cases he20 : e2 = 0
                    · subst he20
                      have HAIM : Hid (mA = m2.point srt a 0 qv) := by rw [HMA0.out, aim_yes ⟨hql, HE2.out.symm⟩]; rfl
                      have HPT := Lib.hid (pt_any HM8.out a 0 qv hqlt)
                      clear hql
                      go_wp2_with fail
                      refine HPT.out.mono ?_
                      rintro e w9 ⟨x, rfl, hp⟩
                      obtain ⟨wA, hwA⟩ : ∃ wA, wA = w9.setCell ⟨K.mp, 5, none⟩ (.bool true) := ⟨_, rfl⟩
                      have HMA : Hid (MkAt wA q p srt most K v mA) := by rw [HAIM.out, hwA]; exact hp.out.1.setMoved true
                      have HF9 : Hid (Fr (TS p K) w8 wA) := by rw [hwA]; exact (hp.out.2.mono fun k hk => .inl hk).setCell (.inr rfl) _
                      have h59 := hp.out.1.mvd
                      have z59 := hp.out.1.frz 5
                      have HFA : Hid (Fr (TB p K B) w wA) := HF88.out.trans (HF9.out.mono fun k hk => .inl hk)
                      have HBA : Hid (BlkAt wA t8 80 9 (Inf.cell ⟨2, ip, ino, ia, it, ic, iof, (j : Int) + 1⟩)) := HB8.out.fr HF9.out (by
                        have h1 := HMINE.out; have h2 := HMP.out; have h3 := HT8.out
                        rintro (h | h)
                        · have := h1 t8 h; omega
                        · have : t8 = K.mp := h; omega)
                      have HSA : Hid (SetAt wA B (seen ++ [a])) := HS8.out.fr HF9.out (by
                        have h1 := HMINE.out; have h2 := HMP.out
                        rintro (h | h)
                        · have := h1 B h; omega
                        · have : B = K.mp := h; omega)
                      have HWA := Lib.hid hwA
                      clear hwA hp HPT HM8 HF88 HB8 HS8 h08 h98 hc8
                      go_upto_region 16 with fail
                      rw [← HWA.out]
                      clear h59 z59 HWA
                      by_cases hq0 : qv = 0
                      · have hq0' : (qv == 0) = true := by simpa using hq0
                        have HPN : Hid (ThrPost w q p srt most K v d [] a0 m a wA) := ⟨mA, HN.out.1 hq0, HMA.out, HI4.out.2.1, .inr (.inr (by rw [HNA.out]; exact HAIR.out)), HFIN.out _ HFA.out⟩
                        clear hq0
                        go_wp2
                        go_ret
                        exact ⟨_, rfl, HPN⟩
                      · have hq0' : (qv == 0) = false := by simpa using hq0
                        have HQ0 := Lib.hid hq0
                        have HLOOK2 := Lib.hid (mlook_any HMA.out qv)
                        obtain ⟨J, hJ⟩ : ∃ J, J = infAt srt mA.s qv := ⟨_, rfl⟩
                        obtain ⟨fl, hfl⟩ : ∃ fl, fl = ptrAt srt mA.s qv := ⟨_, rfl⟩
                        rw [← hJ, ← hfl] at HLOOK2
                        obtain ⟨jk, jp, jno, ja, jt, jc, jof, jpk⟩ := J
                        unfold Inf.val at HLOOK2
                        simp only at HLOOK2
                        have HCANT : Hid (cant srt mA qv ⟨2, ip, ino, ia, it, ic, iof, (j : Int) + 1⟩ ↔ ((mA.look srt qv).e ≠ 0 ∨ jk ≠ 0 ∨ jt ≠ iof ∨ (fl.length : Int) < (j : Int) + 1)) := by
                          show _ ↔ _
                          unfold cant
                          rw [← hJ, ← hfl]
                        have HFL : Hid (∀ x ∈ fl, x < 9223372036854775808) := fun x hx => (ptr_lt x (by rw [← hfl]; exact hx)).2
                        have HFL60 : Hid (fl.length ≤ 60) := by show _ ≤ 60; rw [hfl]; exact ptr_len HMA.out.sto.ok
                        have HFIELD : Hid (field srt mA.s qv ⟨2, ip, ino, ia, it, ic, iof, (j : Int) + 1⟩ = fl.getD j 0) := by
                          show _ = _
                          unfold field
                          rw [← hfl]
                          simp
                        clear hq0 hJ hfl
                        go_wp2_with fail
                        refine HLOOK2.out.mono ?_
                        rintro e wB ⟨ao2, cap2, rfl, hmB⟩
                        have hM9 := hmB.out.1
                        have h9B := hM9.err
                        obtain ⟨eB, heB⟩ : ∃ eB, eB = (mA.look srt qv).e := ⟨_, rfl⟩
                        rw [← heB] at h9B HCANT
                        have HEB := Lib.hid heB
                        have hbB := HBA.out.fr hmB.out.2.2 (by have h2 := HMP.out; have h3 := HT8.out; show ¬ (t8 = K.mp); omega)
                        have HSB : Hid (SetAt wB B (seen ++ [a])) := HSA.out.fr hmB.out.2.2 (by have h2 := HMP.out; show ¬ (B = K.mp); omega)
                        have HFB : Hid (Fr (TB p K B) w wB) := HFA.out.trans (hmB.out.2.2.mono fun k hk => .inl (.inr hk))
                        have ci6 := hbB.cell (i := 6) (by omega)
                        have ci7 := hbB.cell (i := 7) (by omega)
                        simp only [Inf.cell] at ci6 ci7
                        have qi6 := fun o => ((Fr.refl (fun _ => False) wB).alloc o).cell ci6 id
                        have qi7 := fun o => ((Fr.refl (fun _ => False) wB).alloc o).cell ci7 id
                        have q9B := fun o => ((Fr.refl (fun _ => False) wB).alloc o).cell h9B id
                        have HBB := Lib.hid hbB
                        have HM9 := Lib.hid hM9
                        have HPC : Hid (cant srt mA qv ⟨2, ip, ino, ia, it, ic, iof, (j : Int) + 1⟩ → ∀ o, ThrPost w q p srt most K v d [] a0 m a (wB.alloc o)) := fun hcant o =>
                          ⟨_, HN.out.2.1 HQ0.out hcant, hM9.quiet ((Fr.refl (fun _ => False) wB).alloc o), HI4.out.2.1, .inr (.inr (by rw [look_s, HNA.out]; exact HAIR.out)), HFIN.out _ (HFB.out.alloc _)⟩
                        clear heB hbB hM9 ci6 ci7 h9B
                        by_cases b1 : eB = 0
                        · by_cases b2 : jk = 0
                          · by_cases b3 : jt = iof
                            · by_cases b4 : (fl.length : Int) < (j : Int) + 1
                              · have HPC2 := Lib.hid (HPC.out (HCANT.out.2 (.inr (.inr (.inr b4)))))
                                have b3' : (jt != iof) = false := by simpa using b3
                                have b2' : (jk != 0) = false := by simpa using b2
                                have b1' : (eB != 0) = false := by simpa using b1
                                clear hmB b1 b2 b3
                                go_wp2
                                go_ret
                                exact ⟨_, rfl, HPC2.out _⟩
                              · have HNC : Hid (¬ cant srt mA qv ⟨2, ip, ino, ia, it, ic, iof, (j : Int) + 1⟩) := by
                                  intro hc
                                  rcases HCANT.out.1 hc with h | h | h | h
                                  · exact h b1
                                  · exact h b2
                                  · exact h b3
                                  · exact b4 h
                                have HID : Hid (mA.look srt qv = mA) := look_id (by rw [← HEB.out]; exact b1)
                                have b3' : (jt != iof) = false := by simpa using b3
                                have b2' : (jk != 0) = false := by simpa using b2
                                have b1' : (eB != 0) = false := by simpa using b1
                                have hjl : j < fl.length := by omega
                                obtain ⟨g2, rfl, hg2, hc2⟩ := hmB.out.2.1.elem (j := j) hjl
                                have HF2 : Hid (fl.getD j 0 < 9223372036854775808) := HFL.out _ (getD_mem hjl)
                                obtain ⟨f, hf⟩ : ∃ f, f = fl.getD j 0 := ⟨_, rfl⟩
                                rw [← hf] at hc2 HF2 HFIELD
                                have HN3 := Lib.hid (HN.out.2.2 HQ0.out HNC.out)
                                rw [HFIELD.out] at HN3
                                have hfl60 : fl.length ≤ 60 := HFL60.out
                                have hjw : wrap64 ((j : Int) + 1 - 1) = j := by rw [show (j : Int) + 1 - 1 = j by omega]; exact wrap_fit (by omega) (by omega)
                                have hjw2 : IntKind.i64.wrap ((j : Int) + 1 - 1) = j := by rw [IntKind.wrap_i64]; omega
                                have hjw3 : IntKind.i64.wrap (j : Int) = j := by rw [IntKind.wrap_i64]; omega
                                have hjw4 : (0 : Int) ≤ (j : Int) ∧ (j : Int) < (fl.length : Int) := by omega
                                have HG2 : Hid (B ≤ g2 ∧ B ≤ wB.heap.size) := by
                                  have h1 := HSA.out.lt
                                  have h2 := hmB.out.2.2.size
                                  show _ ∧ _
                                  omega
                                have qg2 := fun o => ((Fr.refl (fun _ => False) wB).alloc o).cell hc2 id
                                have HRCH : Hid (∀ o, Calls Try.prog 108 #[.pointer (some ⟨K.mp, 0, none⟩), .int .i64 f, .int .i64 a] (wB.alloc o) fun e w' => ∃ r m', e = .returned (.bool r) ∧ Hid (Rch srt a [] f mA r m' ∧ MkAt w' q p srt most K v m' ∧ Fr (fun k => k = K.mp) (wB.alloc o) w')) := by
                                  intro o
                                  have h := HM9.out.quiet ((Fr.refl (fun _ => False) wB).alloc o)
                                  rw [HID.out] at h
                                  exact reaches_any h f a
                                clear hmB b1 b2 b3 hg2 hc2 hf
                                go_wp2_with fail
                                obtain ⟨o11, ho11⟩ : ∃ o11 : Obj, o11 = .cells #[.int .i64 jk, .int .i64 jp, .int .i64 jno, .int .i64 ja, .int .i64 jt, .int .i64 jc, .int .i64 jof, .int .i64 jpk, .string ⟨#[]⟩] 80 := ⟨_, rfl⟩
                                rw [← ho11]
                                refine (HRCH.out o11).mono ?_
                                rintro e wD ⟨rb, m3, rfl, hR3⟩
                                have HFD : Hid (Fr (TB p K B) w wD) := (HFB.out.alloc _).trans (hR3.out.2.2.mono fun k hk => .inl (.inr hk))
                                have HM3 : Hid (MkAt wD q p srt most K v m3) := hR3.out.2.1
                                have HN3n : Hid (m3.s.n = m1.s.n) := by
                                  show _ = _
                                  rw [hR3.out.1.kept.2.1]; exact HNA.out
                                cases rb with
                                | true =>
                                  have HPR : Hid (ThrPost w q p srt most K v d [] a0 m a wD) := ⟨m3, HN3.out.1 _ hR3.out.1, HM3.out, HI4.out.2.1, .inr (.inr (by rw [HN3n.out]; exact HAIR.out)), HFIN.out _ HFD.out⟩
                                  clear hR3 ho11
                                  go_wp2
                                  go_ret
                                  exact ⟨_, rfl, HPR⟩
                                | false =>
                                  have hne8 : t8 ≠ K.mp := by have h2 := HMP.out; have h3 := HT8.out; omega
                                  have hneg : g2 ≠ K.mp := by have h2 := HMP.out; have h3 := HG2.out; omega
                                  have HBD : Hid (BlkAt wD t8 80 9 (Inf.cell ⟨2, ip, ino, ia, it, ic, iof, (j : Int) + 1⟩)) := (HBB.out.alloc _).fr hR3.out.2.2 (by show ¬ (t8 = K.mp); exact hne8)
                                  have HSD : Hid (SetAt wD B (seen ++ [a])) := (HSB.out.fr ((Fr.refl (fun _ => False) wB).alloc _) id).fr hR3.out.2.2 (by have h2 := HMP.out; show ¬ (B = K.mp); omega)
                                  have hgD := hR3.out.2.2.cell (qg2 o11) (by show ¬ (g2 = K.mp); exact hneg)
                                  obtain ⟨pa, pb, pc, n6, n7, n8, hpab⟩ := HM3.out.nums
                                  have z8 := HM3.out.frz 8
                                  have HN4 := Lib.hid (fun r m4 => HN3.out.2 m3 r m4 hR3.out.1)
                                  clear hR3 ho11 hpab n6 n7 HRCH HN3 HN HPC
                                  go_wp2_with fail
                                  obtain ⟨wE, hwE⟩ : ∃ wE, wE = wD.setCell ⟨K.mp, 8, none⟩ (.int .i64 (wrap64 (pc + 1))) := ⟨_, rfl⟩
                                  rw [← hwE]
                                  have HME : Hid (MkAt wE q p srt most K v m3) := by rw [hwE]; exact HM3.out.setPassed _
                                  have HFDE : Hid (Fr (fun k => k = K.mp) wD wE) := by rw [hwE]; exact (Fr.refl _ wD).setCell (S := fun k => k = K.mp) rfl _
                                  clear hwE n8 z8
                                  have h0E := HME.out.ptr
                                  have HBE : Hid (BlkAt wE t8 80 9 (Inf.cell ⟨2, ip, ino, ia, it, ic, iof, (j : Int) + 1⟩)) := HBD.out.fr HFDE.out (by show ¬ (t8 = K.mp); exact hne8)
                                  have ci7 := HBE.out.cell (i := 7) (by omega)
                                  simp only [Inf.cell] at ci7
                                  have hgE := HFDE.out.cell hgD (by show ¬ (g2 = K.mp); exact hneg)
                                  clear hgD
                                  go_still_tail 11, (by kernel_rfl)
                                  change wpList _ _ _ _ _ wE.drew
                                  have HIND : Hid (Calls Try.prog 45 #[.pointer (some ⟨q.sp, 0, none⟩), .int .i64 a, .int .i64 f] wE.drew fun e w' => ∃ x, e = .returned (.int .i64 x) ∧ Hid (MkAt w' q p srt most K v { m3 with s := (indM srt m3.s a f).2 } ∧ Fr p.mine wE.drew w')) :=
                                    in_any (HME.out.quiet (Fr.refl (fun _ => False) wE).drew) a f HF2.out
                                  go_wp2_with fail
                                  refine HIND.out.mono ?_
                                  rintro e wF ⟨x, rfl, hF⟩
                                  have HMF : Hid (MkAt (wF.setCell ⟨K.mp, 5, none⟩ (.bool true)) q p srt most K v (m3.ind srt a f)) := hF.out.1.setMoved true
                                  have HFE : Hid (Fr p.mine wE wF) := ((Fr.refl _ wE).drew).trans hF.out.2
                                  have ci7F := HFE.out.cell ci7 (by intro h; have h1 : t8 < B := HMINE.out _ h; have h3 := HT8.out; omega)
                                  have hgF := HFE.out.cell hgE (by intro h; have h1 : g2 < B := HMINE.out _ h; have h3 := HG2.out; omega)
                                  have h5F := hF.out.1.mvd
                                  have z5F := hF.out.1.frz 5
                                  have HSF : Hid (SetAt (wF.setCell ⟨K.mp, 5, none⟩ (.bool true)) B (seen ++ [a])) := by
                                    have hB2 := HMP.out
                                    refine ((HSD.out.fr HFDE.out (by show ¬ (B = K.mp); omega)).fr HFE.out (by intro h; have h1 := HMINE.out _ h; omega)).fr (S := fun k => k = K.mp) ((Fr.refl _ _).setCell (S := fun k => k = K.mp) rfl _) (by show ¬ (B = K.mp); omega)
                                  have HFF : Hid (Fr (TB p K B) w (wF.setCell ⟨K.mp, 5, none⟩ (.bool true))) := ((HFD.out.trans (HFDE.out.mono fun k hk => .inl (.inr hk))).trans (HFE.out.mono fun k hk => .inl (.inl hk))).setCell (.inl (.inr rfl)) _
                                  clear ci7 hgE hF HIND h0E
                                  go_wp2
                                  go_roundw
                                  case rel =>
                                    refine ⟨f, seen ++ [a], m3.ind srt a f, rfl, HMF.out, HSF.out, HFF.out, fun y hy => ?_, HF2.out, ?_, fun r m4 h => HN4.out r m4 h⟩
                                    · rw [(Kept.ind srt m3 a f).n, HN3n.out]; exact HIR.out y hy
                                    · rw [(Kept.ind srt m3 a f).n, HN3n.out]; exact HI4.out.2.2.1
                                  case measure =>
                                    have h2 := HSF.out.len
                                    have h3 := inR_len HSF.out.nodup HIR.out
                                    rw [List.length_append] at h2 h3
                                    have := HLEN.out
                                    have := HNN.out
                                    have := HI4.out.2.2.1
                                    rw [this] at h3
                                    simp at h2 h3 ⊢
                                    omega
                            · have HPC2 := Lib.hid (HPC.out (HCANT.out.2 (.inr (.inr (.inl b3)))))
                              have b3' : (jt != iof) = true := by simpa using b3
                              have b2' : (jk != 0) = false := by simpa using b2
                              have b1' : (eB != 0) = false := by simpa using b1
                              clear hmB b1 b2 b3
                              go_wp2
                              go_ret
                              exact ⟨_, rfl, HPC2.out _⟩
                          · have HPC2 := Lib.hid (HPC.out (HCANT.out.2 (.inr (.inl b2))))
                            have b2' : (jk != 0) = true := by simpa using b2
                            have b1' : (eB != 0) = false := by simpa using b1
                            clear hmB b1 b2
                            go_wp2
                            go_ret
                            exact ⟨_, rfl, HPC2.out _⟩
                        · have HPC2 := Lib.hid (HPC.out (HCANT.out.2 (.inl b1)))
                          have b1' : (eB != 0) = true := by simpa using b1
                          clear hmB b1
                          go_wp2
                          go_ret
                          exact ⟨_, rfl, HPC2.out _⟩
                    · have he2' : (e2 == 0) = false := by simpa using he20
                      have HMA : Hid (MkAt w8 q p srt most K v mA) := by rw [HMA0.out, aim_no (fun h => he20 (HE2.out.trans h.2))]; exact HM8.out
                      have HFA := HF88
                      have HBA := HB8
                      have HSA := HS8
                      obtain ⟨wA, hwA⟩ : ∃ wA, wA = w8 := ⟨_, rfl⟩
                      subst hwA
                      clear hql he20 HM8 HF88 HB8 HS8
                      by_cases hq0 : qv = 0
                      · have hq0' : (qv == 0) = true := by simpa using hq0
                        have HPN : Hid (ThrPost w q p srt most K v d [] a0 m a wA) := ⟨mA, HN.out.1 hq0, HMA.out, HI4.out.2.1, .inr (.inr (by rw [HNA.out]; exact HAIR.out)), HFIN.out _ HFA.out⟩
                        clear hq0
                        go_wp2
                        go_ret
                        exact ⟨_, rfl, HPN⟩
                      · have hq0' : (qv == 0) = false := by simpa using hq0
                        have HQ0 := Lib.hid hq0
                        have HLOOK2 := Lib.hid (mlook_any HMA.out qv)
                        obtain ⟨J, hJ⟩ : ∃ J, J = infAt srt mA.s qv := ⟨_, rfl⟩
                        obtain ⟨fl, hfl⟩ : ∃ fl, fl = ptrAt srt mA.s qv := ⟨_, rfl⟩
                        rw [← hJ, ← hfl] at HLOOK2
                        obtain ⟨jk, jp, jno, ja, jt, jc, jof, jpk⟩ := J
                        unfold Inf.val at HLOOK2
                        simp only at HLOOK2
                        have HCANT : Hid (cant srt mA qv ⟨2, ip, ino, ia, it, ic, iof, (j : Int) + 1⟩ ↔ ((mA.look srt qv).e ≠ 0 ∨ jk ≠ 0 ∨ jt ≠ iof ∨ (fl.length : Int) < (j : Int) + 1)) := by
                          show _ ↔ _
                          unfold cant
                          rw [← hJ, ← hfl]
                        have HFL : Hid (∀ x ∈ fl, x < 9223372036854775808) := fun x hx => (ptr_lt x (by rw [← hfl]; exact hx)).2
                        have HFL60 : Hid (fl.length ≤ 60) := by show _ ≤ 60; rw [hfl]; exact ptr_len HMA.out.sto.ok
                        have HFIELD : Hid (field srt mA.s qv ⟨2, ip, ino, ia, it, ic, iof, (j : Int) + 1⟩ = fl.getD j 0) := by
                          show _ = _
                          unfold field
                          rw [← hfl]
                          simp
                        clear hq0 hJ hfl
                        go_wp2_with fail
                        refine HLOOK2.out.mono ?_
                        rintro e wB ⟨ao2, cap2, rfl, hmB⟩
                        have hM9 := hmB.out.1
                        have h9B := hM9.err
                        obtain ⟨eB, heB⟩ : ∃ eB, eB = (mA.look srt qv).e := ⟨_, rfl⟩
                        rw [← heB] at h9B HCANT
                        have HEB := Lib.hid heB
                        have hbB := HBA.out.fr hmB.out.2.2 (by have h2 := HMP.out; have h3 := HT8.out; show ¬ (t8 = K.mp); omega)
                        have HSB : Hid (SetAt wB B (seen ++ [a])) := HSA.out.fr hmB.out.2.2 (by have h2 := HMP.out; show ¬ (B = K.mp); omega)
                        have HFB : Hid (Fr (TB p K B) w wB) := HFA.out.trans (hmB.out.2.2.mono fun k hk => .inl (.inr hk))
                        have ci6 := hbB.cell (i := 6) (by omega)
                        have ci7 := hbB.cell (i := 7) (by omega)
                        simp only [Inf.cell] at ci6 ci7
                        have qi6 := fun o => ((Fr.refl (fun _ => False) wB).alloc o).cell ci6 id
                        have qi7 := fun o => ((Fr.refl (fun _ => False) wB).alloc o).cell ci7 id
                        have q9B := fun o => ((Fr.refl (fun _ => False) wB).alloc o).cell h9B id
                        have HBB := Lib.hid hbB
                        have HM9 := Lib.hid hM9
                        have HPC : Hid (cant srt mA qv ⟨2, ip, ino, ia, it, ic, iof, (j : Int) + 1⟩ → ∀ o, ThrPost w q p srt most K v d [] a0 m a (wB.alloc o)) := fun hcant o =>
                          ⟨_, HN.out.2.1 HQ0.out hcant, hM9.quiet ((Fr.refl (fun _ => False) wB).alloc o), HI4.out.2.1, .inr (.inr (by rw [look_s, HNA.out]; exact HAIR.out)), HFIN.out _ (HFB.out.alloc _)⟩
                        clear heB hbB hM9 ci6 ci7 h9B
                        by_cases b1 : eB = 0
                        · by_cases b2 : jk = 0
                          · by_cases b3 : jt = iof
                            · by_cases b4 : (fl.length : Int) < (j : Int) + 1
                              · have HPC2 := Lib.hid (HPC.out (HCANT.out.2 (.inr (.inr (.inr b4)))))
                                have b3' : (jt != iof) = false := by simpa using b3
                                have b2' : (jk != 0) = false := by simpa using b2
                                have b1' : (eB != 0) = false := by simpa using b1
                                clear hmB b1 b2 b3
                                go_wp2
                                go_ret
                                exact ⟨_, rfl, HPC2.out _⟩
                              · have HNC : Hid (¬ cant srt mA qv ⟨2, ip, ino, ia, it, ic, iof, (j : Int) + 1⟩) := by
                                  intro hc
                                  rcases HCANT.out.1 hc with h | h | h | h
                                  · exact h b1
                                  · exact h b2
                                  · exact h b3
                                  · exact b4 h
                                have HID : Hid (mA.look srt qv = mA) := look_id (by rw [← HEB.out]; exact b1)
                                have b3' : (jt != iof) = false := by simpa using b3
                                have b2' : (jk != 0) = false := by simpa using b2
                                have b1' : (eB != 0) = false := by simpa using b1
                                have hjl : j < fl.length := by omega
                                obtain ⟨g2, rfl, hg2, hc2⟩ := hmB.out.2.1.elem (j := j) hjl
                                have HF2 : Hid (fl.getD j 0 < 9223372036854775808) := HFL.out _ (getD_mem hjl)
                                obtain ⟨f, hf⟩ : ∃ f, f = fl.getD j 0 := ⟨_, rfl⟩
                                rw [← hf] at hc2 HF2 HFIELD
                                have HN3 := Lib.hid (HN.out.2.2 HQ0.out HNC.out)
                                rw [HFIELD.out] at HN3
                                have hfl60 : fl.length ≤ 60 := HFL60.out
                                have hjw : wrap64 ((j : Int) + 1 - 1) = j := by rw [show (j : Int) + 1 - 1 = j by omega]; exact wrap_fit (by omega) (by omega)
                                have hjw2 : IntKind.i64.wrap ((j : Int) + 1 - 1) = j := by rw [IntKind.wrap_i64]; omega
                                have hjw3 : IntKind.i64.wrap (j : Int) = j := by rw [IntKind.wrap_i64]; omega
                                have hjw4 : (0 : Int) ≤ (j : Int) ∧ (j : Int) < (fl.length : Int) := by omega
                                have HG2 : Hid (B ≤ g2 ∧ B ≤ wB.heap.size) := by
                                  have h1 := HSA.out.lt
                                  have h2 := hmB.out.2.2.size
                                  show _ ∧ _
                                  omega
                                have qg2 := fun o => ((Fr.refl (fun _ => False) wB).alloc o).cell hc2 id
                                have HRCH : Hid (∀ o, Calls Try.prog 108 #[.pointer (some ⟨K.mp, 0, none⟩), .int .i64 f, .int .i64 a] (wB.alloc o) fun e w' => ∃ r m', e = .returned (.bool r) ∧ Hid (Rch srt a [] f mA r m' ∧ MkAt w' q p srt most K v m' ∧ Fr (fun k => k = K.mp) (wB.alloc o) w')) := by
                                  intro o
                                  have h := HM9.out.quiet ((Fr.refl (fun _ => False) wB).alloc o)
                                  rw [HID.out] at h
                                  exact reaches_any h f a
                                clear hmB b1 b2 b3 hg2 hc2 hf
                                go_wp2_with fail
                                obtain ⟨o11, ho11⟩ : ∃ o11 : Obj, o11 = .cells #[.int .i64 jk, .int .i64 jp, .int .i64 jno, .int .i64 ja, .int .i64 jt, .int .i64 jc, .int .i64 jof, .int .i64 jpk, .string ⟨#[]⟩] 80 := ⟨_, rfl⟩
                                rw [← ho11]
                                refine (HRCH.out o11).mono ?_
                                rintro e wD ⟨rb, m3, rfl, hR3⟩
                                have HFD : Hid (Fr (TB p K B) w wD) := (HFB.out.alloc _).trans (hR3.out.2.2.mono fun k hk => .inl (.inr hk))
                                have HM3 : Hid (MkAt wD q p srt most K v m3) := hR3.out.2.1
                                have HN3n : Hid (m3.s.n = m1.s.n) := by
                                  show _ = _
                                  rw [hR3.out.1.kept.2.1]; exact HNA.out
                                cases rb with
                                | true =>
                                  have HPR : Hid (ThrPost w q p srt most K v d [] a0 m a wD) := ⟨m3, HN3.out.1 _ hR3.out.1, HM3.out, HI4.out.2.1, .inr (.inr (by rw [HN3n.out]; exact HAIR.out)), HFIN.out _ HFD.out⟩
                                  clear hR3 ho11
                                  go_wp2
                                  go_ret
                                  exact ⟨_, rfl, HPR⟩
                                | false =>
                                  have hne8 : t8 ≠ K.mp := by have h2 := HMP.out; have h3 := HT8.out; omega
                                  have hneg : g2 ≠ K.mp := by have h2 := HMP.out; have h3 := HG2.out; omega
                                  have HBD : Hid (BlkAt wD t8 80 9 (Inf.cell ⟨2, ip, ino, ia, it, ic, iof, (j : Int) + 1⟩)) := (HBB.out.alloc _).fr hR3.out.2.2 (by show ¬ (t8 = K.mp); exact hne8)
                                  have HSD : Hid (SetAt wD B (seen ++ [a])) := (HSB.out.fr ((Fr.refl (fun _ => False) wB).alloc _) id).fr hR3.out.2.2 (by have h2 := HMP.out; show ¬ (B = K.mp); omega)
                                  have hgD := hR3.out.2.2.cell (qg2 o11) (by show ¬ (g2 = K.mp); exact hneg)
                                  obtain ⟨pa, pb, pc, n6, n7, n8, hpab⟩ := HM3.out.nums
                                  have z8 := HM3.out.frz 8
                                  have HN4 := Lib.hid (fun r m4 => HN3.out.2 m3 r m4 hR3.out.1)
                                  clear hR3 ho11 hpab n6 n7 HRCH HN3 HN HPC
                                  go_wp2_with fail
                                  obtain ⟨wE, hwE⟩ : ∃ wE, wE = wD.setCell ⟨K.mp, 8, none⟩ (.int .i64 (wrap64 (pc + 1))) := ⟨_, rfl⟩
                                  rw [← hwE]
                                  have HME : Hid (MkAt wE q p srt most K v m3) := by rw [hwE]; exact HM3.out.setPassed _
                                  have HFDE : Hid (Fr (fun k => k = K.mp) wD wE) := by rw [hwE]; exact (Fr.refl _ wD).setCell (S := fun k => k = K.mp) rfl _
                                  clear hwE n8 z8
                                  have h0E := HME.out.ptr
                                  have HBE : Hid (BlkAt wE t8 80 9 (Inf.cell ⟨2, ip, ino, ia, it, ic, iof, (j : Int) + 1⟩)) := HBD.out.fr HFDE.out (by show ¬ (t8 = K.mp); exact hne8)
                                  have ci7 := HBE.out.cell (i := 7) (by omega)
                                  simp only [Inf.cell] at ci7
                                  have hgE := HFDE.out.cell hgD (by show ¬ (g2 = K.mp); exact hneg)
                                  clear hgD
                                  go_still_tail 11, (by kernel_rfl)
                                  change wpList _ _ _ _ _ wE.drew
                                  have HIND : Hid (Calls Try.prog 45 #[.pointer (some ⟨q.sp, 0, none⟩), .int .i64 a, .int .i64 f] wE.drew fun e w' => ∃ x, e = .returned (.int .i64 x) ∧ Hid (MkAt w' q p srt most K v { m3 with s := (indM srt m3.s a f).2 } ∧ Fr p.mine wE.drew w')) :=
                                    in_any (HME.out.quiet (Fr.refl (fun _ => False) wE).drew) a f HF2.out
                                  go_wp2_with fail
                                  refine HIND.out.mono ?_
                                  rintro e wF ⟨x, rfl, hF⟩
                                  have HMF : Hid (MkAt (wF.setCell ⟨K.mp, 5, none⟩ (.bool true)) q p srt most K v (m3.ind srt a f)) := hF.out.1.setMoved true
                                  have HFE : Hid (Fr p.mine wE wF) := ((Fr.refl _ wE).drew).trans hF.out.2
                                  have ci7F := HFE.out.cell ci7 (by intro h; have h1 : t8 < B := HMINE.out _ h; have h3 := HT8.out; omega)
                                  have hgF := HFE.out.cell hgE (by intro h; have h1 : g2 < B := HMINE.out _ h; have h3 := HG2.out; omega)
                                  have h5F := hF.out.1.mvd
                                  have z5F := hF.out.1.frz 5
                                  have HSF : Hid (SetAt (wF.setCell ⟨K.mp, 5, none⟩ (.bool true)) B (seen ++ [a])) := by
                                    have hB2 := HMP.out
                                    refine ((HSD.out.fr HFDE.out (by show ¬ (B = K.mp); omega)).fr HFE.out (by intro h; have h1 := HMINE.out _ h; omega)).fr (S := fun k => k = K.mp) ((Fr.refl _ _).setCell (S := fun k => k = K.mp) rfl _) (by show ¬ (B = K.mp); omega)
                                  have HFF : Hid (Fr (TB p K B) w (wF.setCell ⟨K.mp, 5, none⟩ (.bool true))) := ((HFD.out.trans (HFDE.out.mono fun k hk => .inl (.inr hk))).trans (HFE.out.mono fun k hk => .inl (.inl hk))).setCell (.inl (.inr rfl)) _
                                  clear ci7 hgE hF HIND h0E
                                  go_wp2
                                  go_roundw
                                  case rel =>
                                    refine ⟨f, seen ++ [a], m3.ind srt a f, rfl, HMF.out, HSF.out, HFF.out, fun y hy => ?_, HF2.out, ?_, fun r m4 h => HN4.out r m4 h⟩
                                    · rw [(Kept.ind srt m3 a f).n, HN3n.out]; exact HIR.out y hy
                                    · rw [(Kept.ind srt m3 a f).n, HN3n.out]; exact HI4.out.2.2.1
                                  case measure =>
                                    have h2 := HSF.out.len
                                    have h3 := inR_len HSF.out.nodup HIR.out
                                    rw [List.length_append] at h2 h3
                                    have := HLEN.out
                                    have := HNN.out
                                    have := HI4.out.2.2.1
                                    rw [this] at h3
                                    simp at h2 h3 ⊢
                                    omega
                            · have HPC2 := Lib.hid (HPC.out (HCANT.out.2 (.inr (.inr (.inl b3)))))
                              have b3' : (jt != iof) = true := by simpa using b3
                              have b2' : (jk != 0) = false := by simpa using b2
                              have b1' : (eB != 0) = false := by simpa using b1
                              clear hmB b1 b2 b3
                              go_wp2
                              go_ret
                              exact ⟨_, rfl, HPC2.out _⟩
                          · have HPC2 := Lib.hid (HPC.out (HCANT.out.2 (.inr (.inl b2))))
                            have b2' : (jk != 0) = true := by simpa using b2
                            have b1' : (eB != 0) = false := by simpa using b1
                            clear hmB b1 b2
                            go_wp2
                            go_ret
                            exact ⟨_, rfl, HPC2.out _⟩
                        · have HPC2 := Lib.hid (HPC.out (HCANT.out.2 (.inl b1)))
                          have b1' : (eB != 0) = true := by simpa using b1
                          clear hmB b1
                          go_wp2
                          go_ret
                          exact ⟨_, rfl, HPC2.out _⟩
          · have k2' : (ik != 2) = true := by simpa using k2
            have HPL := Lib.hid (HPLN.out (.inl k2))
            clear hIn hl hok hk6 HPLN
            go_wp2_with fail
            refine HLOOK.out.mono ?_
            rintro e w6 ⟨ao, cap, rfl, hm6⟩
            have hm6' := hm6.out.1
            rw [HLK.out] at hm6'
            have h9b := hm6'.err
            rw [← HE.out] at h9b
            have q9 := fun o => ((Fr.refl (fun _ => False) w6).alloc o).cell h9b id
            have HPL2 : Hid (∀ o, ThrPost w q p srt most K v d [] a0 m a (w6.alloc o)) := fun o => ⟨m1, HPL.out, hm6'.quiet ((Fr.refl (fun _ => False) w6).alloc o), HI4.out.2.1, .inr (.inr HAIR.out), HFIN.out _ ((HF5.out.trans (hm6.out.2.2.mono fun k hk => .inl (.inr hk))).alloc _)⟩
            clear hm6 hm6' h9b
            go_wp2
            go_ret
            exact ⟨_, rfl, HPL2.out _⟩
      · have HLK := Lib.hid (look_bad hok)
        have hIz : I = noInf := by rw [hIn]; exact (info_bad hok).2.2.1
        have HBAD : Hid (Thr srt d [] a0 m a (m1.look srt a)) := HI4.out.2.2.2 _ _ (Thr.bad HST.out hok)
        subst hIz
        unfold Inf.val noInf at HLOOK
        simp only at HLOOK
        clear hIn hl hok
        go_wp2_with fail
        refine HLOOK.out.mono ?_
        rintro e w6 ⟨ao, cap, rfl, hm6⟩
        have hm6' := hm6.out.1
        have h9b := hm6'.err
        obtain ⟨e6, he6⟩ : ∃ e6, e6 = (m1.look srt a).e := ⟨_, rfl⟩
        have hne6 : e6 ≠ 0 := by rw [he6, HLK.out]; exact fail_e m1
        have hne6' : (e6 != 0) = true := by simpa using hne6
        have HE6 := Lib.hid he6
        rw [← he6] at h9b
        have q9 := fun o => ((Fr.refl (fun _ => False) w6).alloc o).cell h9b id
        have HPL2 : Hid (∀ o, ThrPost w q p srt most K v d [] a0 m a (w6.alloc o)) := fun o => ⟨_, HBAD.out, hm6'.quiet ((Fr.refl (fun _ => False) w6).alloc o), HI4.out.2.1, .inr (.inl (by rw [← HE6.out]; exact hne6)), HFIN.out _ ((HF5.out.trans (hm6.out.2.2.mono fun k hk => .inl (.inr hk))).alloc _)⟩
        clear hm6 hm6' h9b he6
        go_wp2
        go_ret
        exact ⟨_, rfl, HPL2.out _⟩
end Go.Proofs.Ytjfpijoeddjgmaa
