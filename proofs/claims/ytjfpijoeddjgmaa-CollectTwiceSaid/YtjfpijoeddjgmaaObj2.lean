/- A store of closures: New, Hole, Ind. Conditions: the store's memory reads as the plain model says. -/
import Derived.Test.YtjfpijoeddjgmaaObj1
namespace Go.Proofs.Ytjfpijoeddjgmaa
open Go.RowKit Hm
set_option linter.unusedVariables false

theorem fits_head {i : Inf} (h : i.Ok) {n : Int} (hf : i.fits n = true) : 1 ≤ n ∧ n ≤ 60 := by
  unfold Inf.fits at hf
  have := h.sum; have := h.p0; have := h.n0
  split at hf
  · have := of_decide_eq_true hf; omega
  · split at hf
    · have := of_decide_eq_true hf; omega
    · have h1 := of_decide_eq_true hf
      unfold Inf.size at h1
      split at h1
      · omega
      · omega

/-- New: the address, the error, the heap. -/
def newM (srt : List Inf) (s : HS) (sort size : Int) : Nat × Int × HS :=
  if 0 ≤ sort ∧ sort < srt.length then
    (if (srt.getD sort.toNat noInf).fits size = true then
      (if (s.alloc (1 + size)).2.1 = 0 then ((s.alloc (1 + size)).1, 0, (s.alloc (1 + size)).2.2.write (s.alloc (1 + size)).1 0 (headOf sort size)) else (0, (s.alloc (1 + size)).2.1, s))
    else (0, 1, s))
  else (0, 1, s)

set_option maxRecDepth 100000 in
set_option maxHeartbeats 1000000 in
theorem new_obj {q : SPl} {p : HP} {srt : List Inf} {s : HS} (sort size : Int) (w : World) (hA : HeapAt w p s) (hS : StoreAt w q p srt) (hsp : ∀ k, p.mine k → k ≠ q.sp ∧ k ≠ q.sb) :
    Calls Try.prog 29 #[.pointer (some ⟨q.sp, 0, none⟩), .int .i64 sort, .int .i64 size] w fun e w' => e = .returned (.tuple #[.int .i64 (newM srt s sort size).1, .int .i64 (newM srt s sort size).2.1]) ∧ HeapAt w' p (newM srt s sort size).2.2 ∧ Fr (fun k => p.mine k) w w' := by
  have h0 := hS.h0
  have h1 := hS.h1
  have HA := Lib.hid hA
  have FIN : Hid (∀ W, Fr (fun _ => False) w W → HeapAt W p s ∧ Fr p.mine w W) := fun W hW => ⟨hA.fr hW fun _ _ => id, hW.any⟩
  have HF := Lib.hid (Fr.refl (fun _ => False) w)
  obtain ⟨R, hR⟩ : ∃ R, R = newM srt s sort size := ⟨_, rfl⟩
  rw [← hR]
  unfold newM at hR
  have hfew := hS.few
  by_cases c1 : sort < 0
  · rw [if_neg (by omega)] at hR
    subst hR
    clear hA hS
    go_enter Try.func29, Try.ntmps29
    go_wp2
    go_ret2
    exact ⟨rfl, FIN.out _ HF.out⟩
  · obtain ⟨k, rfl⟩ := Int.eq_ofNat_of_zero_le (show 0 ≤ sort by omega)
    by_cases c2 : srt.length ≤ k
    · rw [if_neg (by omega)] at hR
      subst hR
      generalize srt.length = n at *
      have hb : decide ((n : Int) ≤ (k : Int)) = true := by simp; omega
      clear hA hS
      go_enter Try.func29, Try.ntmps29
      go_wp2
      go_ret2
      exact ⟨rfl, FIN.out _ HF.out⟩
    · have hk : k < srt.length := by omega
      rw [if_pos (by omega)] at hR
      rw [Int.toNat_natCast] at hR
      have c0 := hS.sort hk (c := 0) (by omega)
      have c1' := hS.sort hk (c := 1) (by omega)
      have c2' := hS.sort hk (c := 2) (by omega)
      have c3 := hS.sort hk (c := 3) (by omega)
      have c4 := hS.sort hk (c := 4) (by omega)
      have c5 := hS.sort hk (c := 5) (by omega)
      have c6 := hS.sort hk (c := 6) (by omega)
      have c7 := hS.sort hk (c := 7) (by omega)
      have c8 := hS.sort hk (c := 8) (by omega)
      simp only [Inf.cell, Nat.add_zero] at c0 c1' c2' c3 c4 c5 c6 c7 c8
      have hok := getD_ok hS.ok hk
      have hfits := fun W => fits_any (srt.getD k noInf) hok size W
      have hfh := fun h => fits_head hok (n := size) h
      generalize srt.getD k noInf = I at *
      generalize I.fits size = ft at *
      unfold Inf.val at hfits
      have HFITS := Lib.hid (show ∀ W, Fr (fun _ => False) w W → Calls Try.prog 68 #[.agg #[.int .i64 I.kind, .int .i64 I.ptrs, .int .i64 I.nons, .int .i64 I.ar, .int .i64 I.tag, .int .i64 I.code, .int .i64 I.of, .int .i64 I.pick, .string ⟨#[]⟩], .int .i64 size] W fun e w' => e = .returned (.bool ft) ∧ Fr (fun _ => False) w w' from by
        intro W hW
        refine (hfits W).mono ?_
        rintro e w' ⟨rfl, h⟩
        exact ⟨rfl, hW.trans (Fr.of_below h)⟩)
      have HST := Lib.hid hS
      generalize srt.length = n at *
      have hnk : decide ((n : Int) ≤ (k : Int)) = false := by simp; omega
      have hnk' : decide (n ≤ k) = false := by simp; omega
      cases ft
      · rw [if_neg (by simp)] at hR
        subst hR
        clear hA hS hfits hfh hok c1 c2
        go_enter Try.func29, Try.ntmps29
        go_wp2_with (first | (go_at_call 68; refine (HFITS.out _ HF.out).mono ?_; rintro e w1 ⟨rfl, hF1⟩))
        go_ret2
        exact ⟨rfl, FIN.out _ hF1⟩
      · rw [if_pos rfl] at hR
        have hsz := hfh rfl
        have hhd := head_ok (k : Int) size ⟨by omega, by omega, hsz.1, hsz.2⟩
        have HHD := Lib.hid hhd
        have hal := HS.alloc_cases hA.wf (1 + size)
        have halc : Hid (∀ W, Fr (fun _ => False) w W → Calls Try.prog 21 #[.pointer (some ⟨p.h, 0, none⟩), .int .i64 (1 + size)] W fun e w' => e = .returned (.tuple #[.int .i64 (s.alloc (1 + size)).1, .int .i64 (s.alloc (1 + size)).2.1]) ∧ Hid (HeapAt w' p (s.alloc (1 + size)).2.2 ∧ Fr p.mine w w')) := by
          intro W hW
          refine (alloc_any (1 + size) W (hA.fr hW fun _ _ => id)).mono ?_
          rintro e w' ⟨rfl, h1, h2⟩
          exact ⟨rfl, h1, hW.any.trans h2⟩
        have hwf := hA.wf.alloc (1 + size)
        generalize s.alloc (1 + size) = A at *
        obtain ⟨ad, er, t⟩ := A
        simp only at hal halc hR hwf
        have hsep : Hid (¬ p.mine q.sp) := fun h => (hsp _ h).1 rfl
        by_cases her : er = 0
        · subst her
          rw [if_pos rfl] at hR
          have hcap : 0 < t.cap ad := by
            rcases hal with ⟨h, _⟩ | ⟨_, _, _, _, h⟩
            · exact absurd rfl h
            · rw [h]; split
              · omega
              · have := (cls_is (1 + size).toNat).pos; omega
          have hhv : 0 ≤ headOf (k : Int) size ∧ headOf (k : Int) size < 18446744073709551616 := by unfold headOf; omega
          have hwr : Hid (∀ W, HeapAt W p t → Fr p.mine w W → Calls Try.prog 24 #[.pointer (some ⟨p.h, 0, none⟩), .int .i64 ad, .int .i64 0, .int .u64 (headOf k size)] W fun e w' => e = .returned (.int .i64 0) ∧ Hid (HeapAt w' p (t.write ad 0 (headOf k size)) ∧ Fr p.mine w w')) := by
            intro W hW hf
            have hh : HS.has t (ad : Int) 0 := by unfold HS.has; rw [Int.toNat_natCast]; omega
            refine (write_any ad 0 _ W hW hhv).mono ?_
            rw [if_pos hh, if_pos hh, Int.toNat_natCast]
            rintro e w' ⟨rfl, h1, h2⟩
            exact ⟨rfl, h1, hf.trans h2⟩
          subst hR
          generalize headOf (k : Int) size = hd at *
          clear hA hS hfits hfh hok c1 c2 hal hhd hwf
          go_enter Try.func29, Try.ntmps29
          go_wp2_with (first
            | (go_at_call 68; refine (HFITS.out _ HF.out).mono ?_; rintro e w1 ⟨rfl, hF1⟩; have h0 := hF1.cell h0 id)
            | (go_at_call 69; refine (HHD.out _).mono ?_; rintro e w1 ⟨rfl, rfl⟩)
            | (go_at_call 21; refine (halc.out _ hF1).mono ?_; rintro e w2 ⟨rfl, hH2⟩; have h0 := hH2.out.2.cell (HST.out.h0) hsep.out)
            | (go_at_call 24; refine (hwr.out _ hH2.out.1 hH2.out.2).mono ?_; rintro e w3 ⟨rfl, hH3⟩))
          go_ret2
          exact ⟨rfl, hH3.out⟩
        · rw [if_neg her] at hR
          subst hR
          have hen : (er != 0) = true := by simpa using her
          have ht : t = s := by
            rcases hal with ⟨_, _, h⟩ | ⟨h, _⟩
            · exact h
            · exact absurd h her
          rw [ht] at halc
          clear hA hS hfits hfh hok c1 c2 hal hhd hwf ht
          go_enter Try.func29, Try.ntmps29
          go_wp2_with (first
            | (go_at_call 68; refine (HFITS.out _ HF.out).mono ?_; rintro e w1 ⟨rfl, hF1⟩; have h0 := hF1.cell h0 id)
            | (go_at_call 69; refine (HHD.out _).mono ?_; rintro e w1 ⟨rfl, rfl⟩)
            | (go_at_call 21; refine (halc.out _ hF1).mono ?_; rintro e w2 ⟨rfl, hH2⟩))
          go_ret2
          exact ⟨rfl, hH2.out⟩
end Go.Proofs.Ytjfpijoeddjgmaa
