/- A marker asks whether one closure, passed over, is another. Conditions: the marker's memory reads as the plain model says. -/
import Derived.Test.YtjfpijoeddjgmaaMarkW1
namespace Go.Proofs.Ytjfpijoeddjgmaa
open Go.RowKit Hm
set_option linter.unusedVariables false

/-- How many keys a map's block has. -/
def setLen (w : World) (b : Nat) : Nat := match w.heap[b]? with
  | some (.map es _) => es.size
  | _ => 0
theorem SetAt.len {w : World} {b : Nat} {K : List Int} (h : SetAt w b K) : setLen w b = K.length := by
  obtain ⟨L, clk, h1, rfl⟩ := h
  unfold setLen
  rw [h1.heap]
  simp
theorem ptr_pos {srt : List Inf} {s : HS} {a : Int} (hs : SortsOk srt) (hk : (infAt srt s a).kind = 6 ∨ ((infAt srt s a).kind = 2 ∧ (infAt srt s a).pick ≠ 0)) : 1 ≤ (ptrAt srt s a).length ∧ ((infAt srt s a).kind = 2 → 1 ≤ (infAt srt s a).pick) := by
  by_cases hok : okAt srt s a
  · obtain ⟨k, n, e, hk1, hn1, hn2, hh, hc, hf⟩ := look_in hok
    have hok' : (lookM srt s a).2.2 = 0 := hok
    have hi : infAt srt s a = srt.getD k noInf := by unfold infAt infoM; rw [if_pos hok', e]; rfl
    have hp : ptrAt srt s a = ptrL s a ((srt.getD k noInf).pointers n).toNat := by
      unfold ptrAt ptrsM; rw [count_of e, if_pos rfl]
    rw [hi] at hk ⊢
    rw [hp, ptrL_len]
    have hm : srt.getD k noInf ∈ srt := by
      rw [List.getD_eq_getElem?_getD, List.getElem?_eq_getElem hk1]; exact List.getElem_mem _
    obtain ⟨h1, h2⟩ := hs _ hm
    generalize srt.getD k noInf = I at *
    unfold Inf.pointers
    rcases hk with hk | ⟨hk, hp⟩
    · have := h1 hk
      rw [if_neg (by omega)]
      exact ⟨by omega, fun h => by omega⟩
    · have := h2 hk hp
      rw [if_neg (by omega)]
      exact ⟨by omega, fun _ => this.2⟩
  · have := (info_bad hok).2.2.1
    rw [this] at hk
    exact absurd hk (by decide)
theorem ptr_lt {srt : List Inf} {s : HS} {a : Int} : ∀ x ∈ ptrAt srt s a, -9223372036854775808 ≤ x ∧ x < 9223372036854775808 := by
  unfold ptrAt ptrsM
  split
  · unfold ptrL
    intro x hx
    obtain ⟨i, _, rfl⟩ := List.mem_map.1 hx
    unfold wrap64; omega
  · intro x hx; cases hx
theorem kind_ok {srt : List Inf} {s : HS} {a : Int} (h : (infAt srt s a).kind ≠ 0) : okAt srt s a := by
  refine Classical.byContradiction fun hn => h ?_
  rw [(info_bad hn).2.2.1]; rfl

set_option maxRecDepth 100000 in
set_option maxHeartbeats 2000000 in
theorem reaches_any {w : World} {q : SPl} {p : HP} {srt : List Inf} {most : Int} {K : MkP} {v : Value} {m : MK} (h : MkAt w q p srt most K v m) (a0 b : Int) :
    Calls Try.prog 108 #[.pointer (some ⟨K.mp, 0, none⟩), .int .i64 a0, .int .i64 b] w fun e w' => ∃ r m', e = .returned (.bool r) ∧ Hid (Rch srt b [] a0 m r m' ∧ MkAt w' q p srt most K v m' ∧ Fr (fun k => k = K.mp) w w') := by
  obtain ⟨B, hB⟩ : ∃ B, B = w.heap.size := ⟨_, rfl⟩
  have HFIN : Hid (∀ W, Fr (fun k => k = K.mp ∨ B ≤ k) w W → Fr (fun k => k = K.mp) w W) := by
    rw [hB]
    intro W hW
    refine ⟨hW.os, hW.tape, hW.output, hW.size, fun k hk hS => hW.block k hk fun h => ?_⟩
    rcases h with h | h
    · exact hS h
    · omega
  have HFREE : Hid (∀ k, B ≤ k → Free q p K v k) := by rw [hB]; exact fun k hk => h.fresh hk
  have HMP : Hid (K.mp < B) := by rw [hB]; exact h.mp_lt
  have H1 : Hid (MkAt (w.alloc (.map #[] 0)) q p srt most K v m ∧ SetAt (w.alloc (.map #[] 0)) B [] ∧ Fr (fun k => k = K.mp ∨ B ≤ k) w (w.alloc (.map #[] 0)) ∧ (∀ x ∈ ([] : List Int), inR m.s.n x) ∧ ∀ r m', Rch srt b [] a0 m r m' → Rch srt b [] a0 m r m') := by
    refine ⟨h.quiet ((Fr.refl _ w).alloc _), by rw [hB]; exact SetAt.new w, (Fr.refl _ w).alloc _, (fun x hx => by cases hx), fun r m' h => h⟩
  obtain ⟨N, hN⟩ : ∃ N, N = 32 * m.s.n := ⟨_, rfl⟩
  have HN := Lib.hid hN
  have HSORT := Lib.hid h.sorts
  have hmk := run_makeMap (P := Try.prog) 67 w
  rw [← hB] at hmk
  obtain ⟨e, he⟩ : ∃ e, e = m.e := ⟨_, rfl⟩
  have HE := Lib.hid he
  have hb' := hB.symm
  clear hB h hN he
  go_enter Try.func108, Try.ntmps108
  go_wp2
  go_loopw [1] (fun v1 wr => ∃ a : Int, ∃ seen : List Int, v1 = .int .i64 a ∧ Hid (MkAt wr q p srt most K v m ∧ SetAt wr B seen ∧ Fr (fun k => k = K.mp ∨ B ≤ k) w wr ∧ (∀ x ∈ seen, inR m.s.n x) ∧ ∀ r m', Rch srt b seen a m r m' → Rch srt b [] a0 m r m')) (fun _ wr => N + 1 - setLen wr B)
  case atStart => exact ⟨a0, [], rfl, H1.out⟩
  case round =>
    obtain ⟨a, seen, rfl, hI⟩ := hrel
    clear H1 hmk hb'
    have hlk := hI.out.2.1.look a
    have h9 := hI.out.1.err
    rw [← HE.out] at h9
    by_cases hst : a = 0 ∨ a = b ∨ a ∈ seen ∨ e ≠ 0
    · have HST : Hid (Rch srt b [] a0 m (a == b) m) := hI.out.2.2.2.2 _ _ (Rch.stop (by rw [← HE.out]; exact hst))
      have HW : Hid (MkAt wr q p srt most K v m ∧ Fr (fun k => k = K.mp) w wr) := ⟨hI.out.1, HFIN.out _ hI.out.2.2.1⟩
      clear hI
      by_cases c1 : a = 0
      · subst c1
        clear hst
        go_wp2
        go_ret
        exact ⟨_, m, rfl, HST.out, HW.out.1, HW.out.2⟩
      · by_cases c2 : a = b
        · subst c2
          have HST2 := Lib.hid (show Rch srt a [] a0 m true m by have := HST.out; simpa using this)
          clear hst HST
          go_wp2
          go_ret
          exact ⟨_, m, rfl, HST2.out, HW.out.1, HW.out.2⟩
        · by_cases c3 : a ∈ seen
          · rw [decide_eq_true c3] at hlk
            clear hst c3
            go_wp2
            go_ret
            exact ⟨_, m, rfl, HST.out, HW.out.1, HW.out.2⟩
          · have c4 : e ≠ 0 := by
              rcases hst with h | h | h | h
              · exact absurd h c1
              · exact absurd h c2
              · exact absurd h c3
              · exact h
            rw [decide_eq_false c3] at hlk
            have c4' : (e == 0) = false := by simpa using c4
            clear hst c3
            go_wp2
            go_ret
            exact ⟨_, m, rfl, HST.out, HW.out.1, HW.out.2⟩
    · have c1 : a ≠ 0 := fun h => hst (.inl h)
      have c2 : a ≠ b := fun h => hst (.inr (.inl h))
      have c3 : a ∉ seen := fun h => hst (.inr (.inr (.inl h)))
      have c4 : e = 0 := Classical.byContradiction fun h => hst (.inr (.inr (.inr h)))
      rw [decide_eq_false c3] at hlk
      have d1 : (a != 0) = true := by simpa using c1
      have d2 : (a != b) = true := by simpa using c2
      obtain ⟨w5, hup, hs5, hf5⟩ := hI.out.2.1.put c3
      have HM5 : Hid (MkAt w5 q p srt most K v m) := hI.out.1.fr hf5 fun k (hk : k = B) => HFREE.out k (by omega)
      have HS5 := Lib.hid hs5
      have HF5 : Hid (Fr (fun k => k = K.mp ∨ B ≤ k) w w5) := hI.out.2.2.1.trans (hf5.mono fun k (hk : k = B) => .inr (by omega))
      have HLOOK := Lib.hid (mlook_any HM5.out a)
      have HST := Lib.hid hst
      have HC3 := Lib.hid c3
      have HLEN : Hid (setLen wr B = seen.length) := hI.out.2.1.len
      have HI4 := Lib.hid hI.out.2.2.2
      subst c4
      clear hs5 hf5 hst c3 hI
      obtain ⟨I, hIn⟩ : ∃ I, I = infAt srt m.s a := ⟨_, rfl⟩
      obtain ⟨l, hl⟩ : ∃ l, l = ptrAt srt m.s a := ⟨_, rfl⟩
      rw [← hIn, ← hl] at HLOOK
      unfold Inf.val at HLOOK
      by_cases hk : I.kind = 6
      · have hok : okAt srt m.s a := kind_ok (by rw [← hIn, hk]; decide)
        have hpos := (ptr_pos HSORT.out (a := a) (s := m.s) (.inl (by rw [← hIn]; exact hk))).1
        rw [← hl] at hpos
        have HR : Hid (∀ r m', Rch srt b (seen ++ [a]) (l.getD 0 0) m r m' → Rch srt b [] a0 m r m') := fun r m' h => HI4.out.2 _ _ (Rch.go (by rw [← HE.out]; exact HST.out) (by rw [← hIn]; exact hk) (by rw [← hl]; exact h))
        have HIR : Hid (∀ x ∈ seen ++ [a], inR m.s.n x) := by
          intro x hx
          rcases List.mem_append.1 hx with hx | hx
          · exact HI4.out.1 x hx
          · rw [List.mem_singleton] at hx
            subst hx
            exact hok.inR HM5.out.heap.wf
        have HLK := Lib.hid (look_ok hok)
        clear hIn hl hok
        go_wp2_with fail
        refine HLOOK.out.mono ?_
        rintro e w6 ⟨ao, cap, rfl, hm6⟩
        obtain ⟨g, rfl, hg, hc⟩ := hm6.out.2.1.elem (j := 0) hpos
        have hcal : ∀ o, (w6.alloc o).cell? ⟨g, 0, none⟩ = some (.int .i64 (l.getD 0 0)) := fun o => ((Fr.refl (fun _ => False) w6).alloc o).cell hc id
        obtain ⟨a2, ha2⟩ : ∃ a2, a2 = l.getD 0 0 := ⟨_, rfl⟩
        rw [← ha2] at hcal HR
        have HM6 : Hid (∀ o, MkAt (w6.alloc o) q p srt most K v m ∧ SetAt (w6.alloc o) B (seen ++ [a]) ∧ Fr (fun k => k = K.mp ∨ B ≤ k) w (w6.alloc o)) := by
          intro o
          have h1 := hm6.out.1
          rw [HLK.out] at h1
          have hf := hm6.out.2.2
          refine ⟨h1.quiet ((Fr.refl _ w6).alloc _), (HS5.out.fr hf (by have := HMP.out; show ¬ (B = K.mp); omega)).fr ((Fr.refl (fun _ => False) w6).alloc o) id, (HF5.out.trans (hf.mono fun k hk => .inl hk)).alloc _⟩
        clear hm6 hg hc ha2
        go_wp2
        go_roundw
        case rel => exact ⟨a2, seen ++ [a], rfl, (HM6.out _).1, (HM6.out _).2.1, (HM6.out _).2.2, HIR.out, HR.out⟩
        case measure =>
          have h1 := (HM6.out (.cells #[.int .i64 6, .int .i64 I.ptrs, .int .i64 I.nons, .int .i64 I.ar, .int .i64 I.tag, .int .i64 I.code, .int .i64 I.of, .int .i64 I.pick, .string ⟨#[]⟩] 80)).2.1
          have h2 := h1.len
          have h3 := inR_len h1.nodup HIR.out
          rw [List.length_append] at h2 h3
          have := HLEN.out
          have := HN.out
          simp at h2 h3 ⊢
          omega
      · have HR : Hid (Rch srt b [] a0 m false (m.look srt a)) := HI4.out.2 _ _ (Rch.no (by rw [← HE.out]; exact HST.out) (by rw [← hIn]; exact hk))
        have hk' : (I.kind != 6) = true := by simpa using hk
        clear hIn hl
        go_wp2_with fail
        refine HLOOK.out.mono ?_
        rintro e w6 ⟨ao, cap, rfl, hm6⟩
        go_wp2
        go_ret
        exact ⟨_, _, rfl, HR.out, hm6.out.1.quiet ((Fr.refl _ w6).alloc _), HFIN.out _ ((HF5.out.trans (hm6.out.2.2.mono fun k hk => .inl hk)).alloc _)⟩
end Go.Proofs.Ytjfpijoeddjgmaa
