/- A store of closures: Hole, Ind. Conditions: the store's memory reads as the plain model says. -/
import Derived.Test.YtjfpijoeddjgmaaObj2
namespace Go.Proofs.Ytjfpijoeddjgmaa
open Go.RowKit Hm
set_option linter.unusedVariables false

/-- The first sort of a kind. -/
def kindAt (srt : List Inf) (kind : Int) : Option Nat := (List.range srt.length).find? (fun i => (srt.getD i noInf).kind == kind)
/-- become. -/
def becomeM (srt : List Inf) (s : HS) (a kind : Int) : Int × HS :=
  if (lookM srt s a).2.2 = 0 then
    match kindAt srt kind with
    | some i => (0, s.write a.toNat 0 (headOf i (lookM srt s a).2.1))
    | none => (13, s)
  else ((lookM srt s a).2.2, s)

set_option maxRecDepth 100000 in
set_option maxHeartbeats 1000000 in
theorem become_any {q : SPl} {p : HP} {srt : List Inf} {s : HS} (a kind : Int) (w : World) (hA : HeapAt w p s) (hS : StoreAt w q p srt) :
    Calls Try.prog 80 #[.pointer (some ⟨q.sp, 0, none⟩), .int .i64 a, .int .i64 kind] w fun e w' => e = .returned (.int .i64 (becomeM srt s a kind).1) ∧ HeapAt w' p (becomeM srt s a kind).2 ∧ Fr p.mine w w' := by
  have hlook := look_any a w hA hS
  have FIN : Hid (∀ W, Fr (fun _ => False) w W → HeapAt W p s ∧ Fr p.mine w W) := fun W hW => ⟨hA.fr hW fun _ _ => id, hW.any⟩
  obtain ⟨R, hR⟩ : ∃ R, R = becomeM srt s a kind := ⟨_, rfl⟩
  rw [← hR]
  unfold becomeM at hR
  by_cases he : (lookM srt s a).2.2 = 0
  · rw [if_pos he] at hR
    obtain ⟨k, n, e, hk, hn1, hn2, hh, hcap, _⟩ := look_in he
    rw [e] at hR hlook
    simp only at hR hlook
    have HLOOK := Lib.hid hlook
    have HST := Lib.hid hS
    have HR := Lib.hid hR
    have hfew := hS.few
    have hwr : Hid (∀ W (i : Nat), i < srt.length → Fr (fun _ => False) w W → Calls Try.prog 24 #[.pointer (some ⟨p.h, 0, none⟩), .int .i64 a, .int .i64 0, .int .u64 (headOf i n)] W fun e w' => e = .returned (.int .i64 0) ∧ Hid (HeapAt w' p (s.write a.toNat 0 (headOf i n)) ∧ Fr p.mine w w')) := by
      intro W i hi hf
      refine (write_any a 0 _ W (hA.fr hf fun _ _ => id) (by unfold headOf; omega)).mono ?_
      rw [if_pos hh, if_pos hh]
      rintro e w' ⟨rfl, h1, h2⟩
      exact ⟨rfl, h1, hf.any.trans h2⟩
    obtain ⟨m, hm⟩ : ∃ m, m = srt.length := ⟨_, rfl⟩
    have h1 := hS.h1
    rw [← hm] at h1 hfew hwr
    have HM := Lib.hid hm
    clear hlook he e hS hA hR hk hh hcap hm
    go_enter Try.func80, Try.ntmps80
    go_wp2_with fail
    refine HLOOK.out.mono ?_
    rintro e w2 ⟨rfl, hF2⟩
    have h1' := hF2.cell h1 id
    have HF2 := Lib.hid hF2
    clear hF2 HLOOK h1
    go_wp2
    go_loopw [29] (fun v29 wr => ∃ i : Nat, v29 = .int .i64 i ∧ i ≤ m ∧ Hid (Fr (fun _ => False) w wr ∧ ∀ j, j < i → (srt.getD j noInf).kind ≠ kind)) (fun v29 _ => m - (intOf v29).toNat)
    case atStart => exact ⟨0, rfl, by omega, HF2.out, fun j hj => absurd hj (Nat.not_lt_zero _)⟩
    case round =>
      obtain ⟨i, rfl, hi, hI⟩ := hrel
      clear HF2 h1'
      by_cases him : i < m
      · have hil : i < srt.length := by rw [← HM.out]; exact him
        have hS2 := HST.out.fr hI.out.1 id id
        have h0 := hS2.h0
        have c0 := hS2.sort hil (c := 0) (by omega)
        have c1 := hS2.sort hil (c := 1) (by omega)
        have c2 := hS2.sort hil (c := 2) (by omega)
        have c3 := hS2.sort hil (c := 3) (by omega)
        have c4 := hS2.sort hil (c := 4) (by omega)
        have c5 := hS2.sort hil (c := 5) (by omega)
        have c6 := hS2.sort hil (c := 6) (by omega)
        have c7 := hS2.sort hil (c := 7) (by omega)
        have c8 := hS2.sort hil (c := 8) (by omega)
        simp only [Inf.cell, Nat.add_zero] at c0 c1 c2 c3 c4 c5 c6 c7 c8
        have h0al : ∀ o, (wr.alloc o).cell? ⟨q.sp, 0, none⟩ = some (.pointer (some ⟨p.h, 0, none⟩)) := fun o => ((Fr.refl (fun _ => False) wr).alloc o).cell h0 id
        obtain ⟨I, hI2⟩ : ∃ I, I = srt.getD i noInf := ⟨_, rfl⟩
        rw [← hI2] at c0 c1 c2 c3 c4 c5 c6 c7
        have HI2 := Lib.hid hI2
        clear hI2 hS2 hil
        by_cases hkd : I.kind = kind
        · have hkb : (I.kind == kind) = true := by simpa using hkd
          have HKD := Lib.hid hkd
          clear hkd
          have hhd := Lib.hid (head_ok (i : Int) (n : Int) ⟨by omega, by omega, by omega, by omega⟩)
          have hwr2 := Lib.hid (hwr.out · i him)
          obtain ⟨hd, hde⟩ : ∃ hd, hd = headOf (i : Int) (n : Int) := ⟨_, rfl⟩
          rw [← hde] at hhd hwr2
          have HDE := Lib.hid hde
          clear hde
          go_wp2_with (first
            | (go_at_call 69; refine (hhd.out _).mono ?_; rintro e w3 ⟨rfl, rfl⟩)
            | (go_at_call 24; refine (hwr2.out _ (hI.out.1.alloc _)).mono ?_; rintro e w3 ⟨rfl, hH⟩))
          go_ret
          have hsome : kindAt srt kind = some i := by
            unfold kindAt
            rw [List.find?_range_eq_some]
            refine ⟨by simp only [beq_iff_eq]; rw [← HI2.out]; exact HKD.out, List.mem_range.2 (by rw [← HM.out]; exact him), fun j hj => ?_⟩
            have := hI.out.2 j hj
            simpa using this
          have h := HR.out
          rw [hsome] at h
          simp only at h
          rw [← HDE.out] at h
          subst h
          exact ⟨rfl, hH.out⟩
        · have hkb : (I.kind == kind) = false := by simpa using hkd
          have HKD := Lib.hid hkd
          clear hkd
          go_wp2
          go_roundw
          case rel =>
            refine ⟨i + 1, by go_num, by omega, hI.out.1.alloc _, fun j hj => ?_⟩
            rcases Nat.lt_succ_iff_lt_or_eq.1 hj with h | rfl
            · exact hI.out.2 j h
            · rw [← HI2.out]; exact HKD.out
          case measure => simp [intOf]; omega
      · have him2 : i = m := by omega
        subst him2
        go_wp2
        go_ret
        have hnone : kindAt srt kind = none := by
          unfold kindAt
          rw [List.find?_eq_none]
          intro j hj
          have := hI.out.2 j (by rw [HM.out]; exact List.mem_range.1 hj)
          simpa using this
        have h := HR.out
        rw [hnone] at h
        subst h
        exact ⟨rfl, FIN.out _ hI.out.1⟩
  · rw [if_neg he] at hR
    obtain ⟨e, he0, e2, h1, h2⟩ := look_err he
    rw [e2] at hR hlook
    subst hR
    have HLOOK := Lib.hid hlook
    have hen : (e != 0) = true := by simpa using he0
    clear hlook he e2 hS hA
    go_enter Try.func80, Try.ntmps80
    go_wp2_with (first | (go_at_call 33; refine HLOOK.out.mono ?_; rintro e w1 ⟨rfl, hF⟩))
    go_ret
    exact ⟨rfl, FIN.out _ hF⟩

theorem hole_any {q : SPl} {p : HP} {srt : List Inf} {s : HS} (a : Int) (w : World) (hA : HeapAt w p s) (hS : StoreAt w q p srt) :
    Calls Try.prog 44 #[.pointer (some ⟨q.sp, 0, none⟩), .int .i64 a] w fun e w' => e = .returned (.int .i64 (becomeM srt s a 7).1) ∧ HeapAt w' p (becomeM srt s a 7).2 ∧ Fr p.mine w w' := by
  have h := Lib.hid (become_any a 7 w hA hS)
  clear hA hS
  go_enter Try.func44, Try.ntmps44
  go_wp2_with (first | (go_at_call 80; refine h.out.mono ?_; rintro e w1 ⟨rfl, hF⟩))
  go_ret
  exact ⟨rfl, hF⟩

/-- Ind. -/
def indM (srt : List Inf) (s : HS) (a x : Int) : Int × HS :=
  if x < 0 then (1, s) else if (becomeM srt s a 6).1 = 0 then wrM (becomeM srt s a 6).2 a 1 x else ((becomeM srt s a 6).1, (becomeM srt s a 6).2)
theorem ind_any {q : SPl} {p : HP} {srt : List Inf} {s : HS} (a x : Int) (w : World) (hA : HeapAt w p s) (hS : StoreAt w q p srt) (hsp : ∀ k, p.mine k → k ≠ q.sp ∧ k ≠ q.sb) (hx : x < 9223372036854775808) :
    Calls Try.prog 45 #[.pointer (some ⟨q.sp, 0, none⟩), .int .i64 a, .int .i64 x] w fun e w' => e = .returned (.int .i64 (indM srt s a x).1) ∧ HeapAt w' p (indM srt s a x).2 ∧ Fr p.mine w w' := by
  have h := become_any a 6 w hA hS
  obtain ⟨R, hR⟩ : ∃ R, R = indM srt s a x := ⟨_, rfl⟩
  rw [← hR]
  unfold indM at hR
  have HA := Lib.hid hA
  have HST := Lib.hid hS
  have hsep : Hid (¬ p.mine q.sp) := fun h => (hsp _ h).1 rfl
  by_cases hx0 : x < 0
  · rw [if_pos hx0] at hR
    subst hR
    clear hA hS h
    go_enter Try.func45, Try.ntmps45
    go_wp2
    go_ret
    exact ⟨rfl, HA.out, Fr.refl _ _⟩
  · rw [if_neg hx0] at hR
    generalize becomeM srt s a 6 = T at *
    obtain ⟨e0, t⟩ := T
    simp only at h hR
    by_cases he : e0 = 0
    · subst he
      rw [if_pos rfl] at hR
      have hu := uwrap_fit (x := x) (by omega)
      have hx1 : 0 ≤ x := by omega
      have hwr : Hid (∀ W, HeapAt W p t → Fr p.mine w W → Calls Try.prog 24 #[.pointer (some ⟨p.h, 0, none⟩), .int .i64 a, .int .i64 1, .int .u64 x] W fun e w' => e = .returned (.int .i64 R.1) ∧ Hid (HeapAt w' p R.2 ∧ Fr p.mine w w')) := by
        intro W hW hf
        refine (wr_any a 1 x W hW (by omega)).mono ?_
        rw [← hR]
        rintro e w' ⟨rfl, h1, h2⟩
        exact ⟨rfl, h1, hf.trans h2⟩
      obtain ⟨R1, R2⟩ := R
      have H := Lib.hid h
      clear hA hS h hR hx0
      go_enter Try.func45, Try.ntmps45
      go_wp2_with (first
        | (go_at_call 80; refine H.out.mono ?_; rintro e w1 ⟨rfl, hH1, hF1⟩; have h0 := hF1.cell (HST.out.h0) hsep.out; have hH := Lib.hid hH1; have hF := Lib.hid hF1; clear hH1 hF1)
        | (go_at_call 24; refine (hwr.out _ hH.out hF.out).mono ?_; rintro e w2 ⟨rfl, hG⟩))
      go_ret
      exact ⟨rfl, hG.out⟩
    · rw [if_neg he] at hR
      subst hR
      have hen : (e0 != 0) = true := by simpa using he
      have H := Lib.hid h
      clear hA hS h
      go_enter Try.func45, Try.ntmps45
      go_wp2_with (first | (go_at_call 80; refine H.out.mono ?_; rintro e w1 ⟨rfl, hF⟩))
      go_ret
      exact ⟨rfl, hF⟩
end Go.Proofs.Ytjfpijoeddjgmaa
