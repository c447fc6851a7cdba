/- A store of closures: count. Conditions: the store's memory reads as the plain model says. -/
import Derived.Test.YtjfpijoeddjgmaaLook
namespace Go.Proofs.Ytjfpijoeddjgmaa
open Go.RowKit Hm
set_option linter.unusedVariables false
theorem look_in {srt : List Inf} {s : HS} {a : Int} (h : (lookM srt s a).2.2 = 0) :
    ∃ k n : Nat, lookM srt s a = ((k : Int), (n : Int), 0) ∧ k < srt.length ∧ 1 ≤ n ∧ n ≤ 60 ∧ HS.has s a 0 ∧ 1 + n ≤ s.cap a.toNat ∧ (srt.getD k noInf).fits n = true := by
  unfold lookM at h ⊢
  by_cases hh : HS.has s a 0
  · rw [if_pos hh] at h ⊢
    by_cases hi : headIn srt (s.word a.toNat) (s.cap a.toNat) = true
    · rw [if_pos hi] at h ⊢
      unfold headIn at hi
      simp only [Bool.and_eq_true, decide_eq_true_eq] at hi
      obtain ⟨⟨h0, h1, h2, h3⟩, h4, h5, h6⟩ := hi
      generalize wordSort (s.word a.toNat) = S at *
      generalize wordSize (s.word a.toNat) = Z at *
      obtain ⟨k, rfl⟩ := Int.eq_ofNat_of_zero_le h0
      obtain ⟨n, rfl⟩ := Int.eq_ofNat_of_zero_le (show 0 ≤ Z by omega)
      rw [Int.toNat_natCast] at h5
      exact ⟨k, n, rfl, by omega, by omega, by omega, hh, by omega, h5⟩
    · rw [if_neg hi] at h; exact absurd h (by decide)
  · rw [if_neg hh] at h; exact absurd h (by decide)
theorem look_err {srt : List Inf} {s : HS} {a : Int} (h : (lookM srt s a).2.2 ≠ 0) : ∃ e, e ≠ 0 ∧ lookM srt s a = (0, 0, e) ∧ 1 ≤ e ∧ e ≤ 12 := by
  unfold lookM at h ⊢
  (repeat' split at h)
  · exact absurd rfl h
  · rename_i h1 h2
    refine ⟨12, by decide, ?_, by decide, by decide⟩
    rw [if_pos h1, if_neg h2]
  · rename_i h1
    refine ⟨1, by decide, ?_, by decide, by decide⟩
    rw [if_neg h1]

/-- What count tells: pointers, other words, the error. -/
def countM (srt : List Inf) (s : HS) (a : Int) : Int × Int × Int :=
  if (lookM srt s a).2.2 = 0 then ((srt.getD (lookM srt s a).1.toNat noInf).pointers (lookM srt s a).2.1, (srt.getD (lookM srt s a).1.toNat noInf).nons, 0) else (0, 0, (lookM srt s a).2.2)

def Vcnt (I : Inf) (Z P : Int) (tb : Nat) : Nat → Value
  | 0 => I.val
  | 1 => .int .i64 Z
  | 2 => .int .i64 P
  | 3 => .pointer (some ⟨tb, 2, none⟩)
  | 4 => .int .i64 I.nons
  | 5 => .int .i64 P
  | 6 => .int .i64 I.nons
  | 7 => .int .i64 0
  | _ => undef

set_option maxRecDepth 100000 in
set_option maxHeartbeats 1000000 in
theorem count_any {q : SPl} {p : HP} {srt : List Inf} {s : HS} (a : Int) (w : World) (hA : HeapAt w p s) (hS : StoreAt w q p srt) :
    Calls Try.prog 74 #[.pointer (some ⟨q.sp, 0, none⟩), .int .i64 a] w fun e w' => e = .returned (.tuple #[.int .i64 (countM srt s a).1, .int .i64 (countM srt s a).2.1, .int .i64 (countM srt s a).2.2]) ∧ Fr (fun _ => False) w w' := by
  have hlook := look_any a w hA hS
  obtain ⟨R, hR⟩ : ∃ R, R = countM srt s a := ⟨_, rfl⟩
  rw [← hR]
  unfold countM at hR
  by_cases he : (lookM srt s a).2.2 = 0
  · rw [if_pos he] at hR
    obtain ⟨k, n, e, hk, hn1, hn2, _⟩ := look_in he
    rw [e] at hR hlook
    simp only [Int.toNat_natCast] at hR
    have h1 := hS.h1
    have c0 := hS.sort hk (c := 0) (by omega)
    have c1 := hS.sort hk (c := 1) (by omega)
    have c2 := hS.sort hk (c := 2) (by omega)
    have c3 := hS.sort hk (c := 3) (by omega)
    have c4 := hS.sort hk (c := 4) (by omega)
    have c5 := hS.sort hk (c := 5) (by omega)
    have c6 := hS.sort hk (c := 6) (by omega)
    have c7 := hS.sort hk (c := 7) (by omega)
    have c8 := hS.sort hk (c := 8) (by omega)
    simp only [Inf.cell, Nat.add_zero] at c0 c1 c2 c3 c4 c5 c6 c7 c8
    have hfew := hS.few
    generalize srt.getD k noInf = I at *
    generalize srt.length = m at *
    have HPTR : Hid (∀ W, Calls Try.prog 93 #[.agg #[.int .i64 I.kind, .int .i64 I.ptrs, .int .i64 I.nons, .int .i64 I.ar, .int .i64 I.tag, .int .i64 I.code, .int .i64 I.of, .int .i64 I.pick, .string ⟨#[]⟩], .int .i64 n] W fun e w' => e = .returned (.int .i64 (I.pointers n)) ∧ Below W.heap.size W w') := fun W => pointers_any I n W
    generalize I.pointers n = P at *
    subst hR
    have HLOOK := Lib.hid hlook
    clear hlook he e hS hA
    go_enter Try.func74, Try.ntmps74
    go_wp2_with fail
    refine HLOOK.out.mono ?_
    rintro e w2 ⟨rfl, hF2⟩
    have h1 := hF2.cell h1 id
    have c0 := hF2.cell c0 id
    have c1 := hF2.cell c1 id
    have c2 := hF2.cell c2 id
    have c3 := hF2.cell c3 id
    have c4 := hF2.cell c4 id
    have c5 := hF2.cell c5 id
    have c6 := hF2.cell c6 id
    have c7 := hF2.cell c7 id
    have c8 := hF2.cell c8 id
    have HF2 := Lib.hid hF2
    clear hF2 HLOOK
    go_wp2_with fail
    obtain ⟨W, hW⟩ : ∃ W, W = w2.alloc (.cells #[.int .i64 I.kind, .int .i64 I.ptrs, .int .i64 I.nons, .int .i64 I.ar, .int .i64 I.tag, .int .i64 I.code, .int .i64 I.of, .int .i64 I.pick, .string ⟨#[]⟩] 80) := ⟨_, rfl⟩
    have HFW : Hid (Fr (fun _ => False) w W) := by rw [hW]; exact HF2.out.alloc _
    obtain ⟨tb, htb⟩ : ∃ tb, tb = w2.heap.size := ⟨_, rfl⟩
    have k0 : W.cell? ⟨tb, 0, none⟩ = some (.int .i64 I.kind) := by rw [hW, htb]; simp
    have k1 : W.cell? ⟨tb, 1, none⟩ = some (.int .i64 I.ptrs) := by rw [hW, htb]; simp
    have k2 : W.cell? ⟨tb, 2, none⟩ = some (.int .i64 I.nons) := by rw [hW, htb]; simp
    have k3 : W.cell? ⟨tb, 3, none⟩ = some (.int .i64 I.ar) := by rw [hW, htb]; simp
    have k4 : W.cell? ⟨tb, 4, none⟩ = some (.int .i64 I.tag) := by rw [hW, htb]; simp
    have k5 : W.cell? ⟨tb, 5, none⟩ = some (.int .i64 I.code) := by rw [hW, htb]; simp
    have k6 : W.cell? ⟨tb, 6, none⟩ = some (.int .i64 I.of) := by rw [hW, htb]; simp
    have k7 : W.cell? ⟨tb, 7, none⟩ = some (.int .i64 I.pick) := by rw [hW, htb]; simp
    have k8 : W.cell? ⟨tb, 8, none⟩ = some (.string ⟨#[]⟩) := by rw [hW, htb]; simp
    rw [← hW, ← htb]
    clear hW htb c0 c1 c2 c3 c4 c5 c6 c7 c8 h1
    refine wp_region_inv (n := 33) rfl rfl (by kernel_rfl) (fun j v _ => v = Vcnt I n P tb j) (fun D w' => Hid (Fr (fun _ => False) W w')) ((Fr.refl _ W).drew) ?step ?fin
    case step =>
      intro i o ho D a w' hF hJ hDi hdep
      match i, ho with
      | 0, ho =>
        obtain rfl := Option.some.inj ho
        have d10 := hF.out 10 (by rfl); simp only [Array.getD_eq_getD_getElem?, List.getElem?_toArray, List.getElem?_cons_succ, List.getElem?_cons_zero, Option.getD_some] at d10
        have e0 := hJ.out.cell k0 id; have e1 := hJ.out.cell k1 id; have e2 := hJ.out.cell k2 id; have e3 := hJ.out.cell k3 id; have e4 := hJ.out.cell k4 id; have e5 := hJ.out.cell k5 id; have e6 := hJ.out.cell k6 id; have e7 := hJ.out.cell k7 id; have e8 := hJ.out.cell k8 id
        go_simp
        exact RegPost.mk _ rfl (fun _ _ _ h => h) hJ
      | 1, ho =>
        obtain rfl := Option.some.inj ho
        have d8 := hF.out 8 (by rfl); simp only [Array.getD_eq_getD_getElem?, List.getElem?_toArray, List.getElem?_cons_succ, List.getElem?_cons_zero, Option.getD_some] at d8
        go_simp
        exact RegPost.mk _ rfl (fun _ _ _ h => h) hJ
      | 2, ho =>
        obtain rfl := Option.some.inj ho
        have d28 := hF.mine 0 _ _ rfl rfl (hdep ⟨0, .data⟩ (by simp) rfl); simp only [Vcnt] at d28
        have d29 := hF.mine 1 _ _ rfl rfl (hdep ⟨1, .data⟩ (by simp) rfl); simp only [Vcnt] at d29
        go_simp
        refine (HPTR.out w').mono ?_
        rintro e w3 ⟨rfl, hb⟩
        exact RegPost.mk _ rfl (fun _ _ _ h => h) (hJ.out.trans (Fr.of_below hb))
      | 3, ho =>
        obtain rfl := Option.some.inj ho
        have d10 := hF.out 10 (by rfl); simp only [Array.getD_eq_getD_getElem?, List.getElem?_toArray, List.getElem?_cons_succ, List.getElem?_cons_zero, Option.getD_some] at d10
        go_simp
        exact RegPost.mk _ rfl (fun _ _ _ h => h) hJ
      | 4, ho =>
        obtain rfl := Option.some.inj ho
        have d31 := hF.mine 3 _ _ rfl rfl (hdep ⟨3, .data⟩ (by simp) rfl); simp only [Vcnt] at d31
        have e2 := hJ.out.cell k2 id
        go_simp
        exact RegPost.mk _ rfl (fun _ _ _ h => h) hJ
      | 5, ho =>
        obtain rfl := Option.some.inj ho
        have d30 := hF.mine 2 _ _ rfl rfl (hdep ⟨2, .data⟩ (by simp) rfl); simp only [Vcnt] at d30
        go_simp
        exact RegPost.mk _ rfl (fun _ _ _ h => h) hJ
      | 6, ho =>
        obtain rfl := Option.some.inj ho
        have d32 := hF.mine 4 _ _ rfl rfl (hdep ⟨4, .data⟩ (by simp) rfl); simp only [Vcnt] at d32
        go_simp
        exact RegPost.mk _ rfl (fun _ _ _ h => h) hJ
      | 7, ho =>
        obtain rfl := Option.some.inj ho
        go_simp
        exact RegPost.mk _ rfl (fun _ _ _ h => h) hJ
      | i + 8, ho => simp at ho
    case fin =>
      intro D a w' hF hJ hall
      have e4 := hF.mine 5 _ _ rfl rfl (hall 5 (by decide)); simp only [Vcnt] at e4
      have e5 := hF.mine 6 _ _ rfl rfl (hall 6 (by decide)); simp only [Vcnt] at e5
      have e6 := hF.mine 7 _ _ rfl rfl (hall 7 (by decide)); simp only [Vcnt] at e6
      have hl := act_lit a 33 hF.size
      rw [hF.defers] at hl
      simp only [List.range, List.range.loop, List.map_cons, List.map_nil, e4, e5, e6] at hl
      rw [hl]
      clear hl hF
      go_wp2
      go_ret3
      exact ⟨rfl, HFW.out.trans hJ.out⟩
  · rw [if_neg he] at hR
    obtain ⟨e, he0, e2, h1, h2⟩ := look_err he
    rw [e2] at hR hlook
    subst hR
    have HLOOK := Lib.hid hlook
    have hen : (e != 0) = true := by simpa using he0
    clear hlook he e2 hS hA
    go_enter Try.func74, Try.ntmps74
    go_wp2_with (first | (go_at_call 33; refine HLOOK.out.mono ?_; rintro e w1 ⟨rfl, hF⟩))
    go_ret3
    exact ⟨rfl, by assumption⟩
end Go.Proofs.Ytjfpijoeddjgmaa
