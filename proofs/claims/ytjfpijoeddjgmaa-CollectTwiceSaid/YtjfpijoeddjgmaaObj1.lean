/- A store of closures: Num, Set, Point. Conditions: the store's memory reads as the plain model says. -/
import Derived.Test.YtjfpijoeddjgmaaCount
namespace Go.Proofs.Ytjfpijoeddjgmaa
open Go.RowKit Hm
set_option linter.unusedVariables false

theorem count_in {srt : List Inf} {s : HS} {a : Int} (hok : ∀ i ∈ srt, i.Ok) (h : (countM srt s a).2.2 = 0) :
    ∃ n k : Nat, countM srt s a = ((n : Int), (k : Int), 0) ∧ n ≤ 60 ∧ k ≤ 60 := by
  unfold countM at h ⊢
  by_cases he : (lookM srt s a).2.2 = 0
  · rw [if_pos he] at h ⊢
    obtain ⟨k, n, e, hk, hn1, hn2, _⟩ := look_in he
    rw [e]
    have o := getD_ok hok hk
    simp only [Int.toNat_natCast]
    generalize srt.getD k noInf = I at *
    have hp : 0 ≤ I.pointers n ∧ I.pointers n ≤ 60 := by unfold Inf.pointers; have := o.p0; have := o.p1; split <;> omega
    have := o.n0; have := o.n1
    obtain ⟨x, hx⟩ := Int.eq_ofNat_of_zero_le hp.1
    obtain ⟨y, hy⟩ := Int.eq_ofNat_of_zero_le o.n0
    exact ⟨x, y, by rw [hx, hy], by omega, by omega⟩
  · rw [if_neg he] at h; exact absurd h he
theorem count_err {srt : List Inf} {s : HS} {a : Int} (h : (countM srt s a).2.2 ≠ 0) : ∃ e, e ≠ 0 ∧ countM srt s a = (0, 0, e) ∧ 1 ≤ e ∧ e ≤ 12 := by
  unfold countM at h ⊢
  by_cases he : (lookM srt s a).2.2 = 0
  · rw [if_pos he] at h; exact absurd rfl h
  · rw [if_neg he] at h ⊢
    obtain ⟨e, h1, h2, h3, h4⟩ := look_err he
    rw [h2]
    exact ⟨e, h1, rfl, h3, h4⟩

/-- Num. -/
def numM (srt : List Inf) (s : HS) (a : Int) : Int × Int :=
  if (countM srt s a).2.2 = 0 then (if (countM srt s a).2.1 < 1 then (0, 1) else if HS.has s a (1 + (countM srt s a).1) then (s.word (a.toNat + (1 + (countM srt s a).1).toNat), 0) else (0, 1)) else (0, (countM srt s a).2.2)

theorem num_any {q : SPl} {p : HP} {srt : List Inf} {s : HS} (a : Int) (w : World) (hA : HeapAt w p s) (hS : StoreAt w q p srt) :
    Calls Try.prog 35 #[.pointer (some ⟨q.sp, 0, none⟩), .int .i64 a] w fun e w' => e = .returned (.tuple #[.int .u64 (numM srt s a).1, .int .i64 (numM srt s a).2]) ∧ Fr (fun _ => False) w w' := by
  have hcnt := count_any a w hA hS
  have h0 := hS.h0
  obtain ⟨R, hR⟩ : ∃ R, R = numM srt s a := ⟨_, rfl⟩
  rw [← hR]
  unfold numM at hR
  by_cases he : (countM srt s a).2.2 = 0
  · rw [if_pos he] at hR
    obtain ⟨n, k, e, hn, hk⟩ := count_in hS.ok he
    rw [e] at hR hcnt
    simp only at hR hcnt
    have HCNT := Lib.hid hcnt
    have hread := fun W (hW : Fr (fun _ => False) w W) => read_any a (1 + (n : Int)) W (hA.fr hW fun _ _ => id)
    by_cases hk1 : (k : Int) < 1
    · rw [if_pos hk1] at hR
      subst hR
      clear hread hcnt he e hS hA
      go_enter Try.func35, Try.ntmps35
      go_wp2_with (first | (go_at_call 74; refine HCNT.out.mono ?_; rintro e w1 ⟨rfl, hF⟩))
      go_ret2
      exact ⟨rfl, by assumption⟩
    · rw [if_neg hk1] at hR
      by_cases hh : HS.has s a (1 + (n : Int))
      · simp only [if_pos hh] at hR hread
        subst hR
        have HREAD := Lib.hid hread
        clear hread hcnt he e hS hA hh
        go_enter Try.func35, Try.ntmps35
        go_wp2_with (first
          | (go_at_call 74; refine HCNT.out.mono ?_; rintro e w1 ⟨rfl, hF⟩; have h0 := hF.cell h0 id)
          | (go_at_call 23; refine (HREAD.out _ hF).mono ?_; rintro e w2 ⟨rfl, rfl⟩))
        go_ret2
        exact ⟨rfl, by assumption⟩
      · simp only [if_neg hh] at hR hread
        subst hR
        have HREAD := Lib.hid hread
        clear hread hcnt he e hS hA hh
        go_enter Try.func35, Try.ntmps35
        go_wp2_with (first
          | (go_at_call 74; refine HCNT.out.mono ?_; rintro e w1 ⟨rfl, hF⟩; have h0 := hF.cell h0 id)
          | (go_at_call 23; refine (HREAD.out _ hF).mono ?_; rintro e w2 ⟨rfl, rfl⟩))
        go_ret2
        exact ⟨rfl, by assumption⟩
  · rw [if_neg he] at hR
    obtain ⟨e, he0, e2, h1, h2⟩ := count_err he
    rw [e2] at hR hcnt
    subst hR
    have HCNT := Lib.hid hcnt
    have hen : (e != 0) = true := by simpa using he0
    clear hcnt he e2 hS hA
    go_enter Try.func35, Try.ntmps35
    go_wp2_with (first | (go_at_call 74; refine HCNT.out.mono ?_; rintro e w1 ⟨rfl, hF⟩))
    go_ret2
    exact ⟨rfl, by assumption⟩

/-- A word of a closure is written: the error, the heap. -/
def wrM (s : HS) (a i v : Int) : Int × HS := if HS.has s a i then (0, s.write a.toNat i.toNat v) else (1, s)
theorem wr_any {p : HP} {s : HS} (a i v : Int) (w : World) (hA : HeapAt w p s) (hv : 0 ≤ v ∧ v < 18446744073709551616) :
    Calls Try.prog 24 #[.pointer (some ⟨p.h, 0, none⟩), .int .i64 a, .int .i64 i, .int .u64 v] w fun e w' => e = .returned (.int .i64 (wrM s a i v).1) ∧ HeapAt w' p (wrM s a i v).2 ∧ Fr p.mine w w' := by
  refine (write_any a i v w hA hv).mono ?_
  unfold wrM
  split
  · exact fun e w' h => h
  · exact fun e w' h => h
theorem Fr.any {w w' : World} (h : Fr (fun _ => False) w w') {S : Nat → Prop} : Fr S w w' := h.mono fun k hk => hk.elim

/-- Set. -/
def setM (srt : List Inf) (s : HS) (a v : Int) : Int × HS :=
  if (countM srt s a).2.2 = 0 then (if (countM srt s a).2.1 < 1 then (1, s) else wrM s a (1 + (countM srt s a).1) v) else ((countM srt s a).2.2, s)
theorem set_any {q : SPl} {p : HP} {srt : List Inf} {s : HS} (a v : Int) (w : World) (hA : HeapAt w p s) (hS : StoreAt w q p srt) (hv : 0 ≤ v ∧ v < 18446744073709551616) :
    Calls Try.prog 43 #[.pointer (some ⟨q.sp, 0, none⟩), .int .i64 a, .int .u64 v] w fun e w' => e = .returned (.int .i64 (setM srt s a v).1) ∧ HeapAt w' p (setM srt s a v).2 ∧ Fr p.mine w w' := by
  have hcnt := count_any a w hA hS
  have h0 := hS.h0
  have HA := Lib.hid hA
  obtain ⟨R, hR⟩ : ∃ R, R = setM srt s a v := ⟨_, rfl⟩
  rw [← hR]
  unfold setM at hR
  by_cases he : (countM srt s a).2.2 = 0
  · rw [if_pos he] at hR
    obtain ⟨n, k, e, hn, hk⟩ := count_in hS.ok he
    rw [e] at hR hcnt
    simp only at hR hcnt
    have HCNT := Lib.hid hcnt
    by_cases hk1 : (k : Int) < 1
    · rw [if_pos hk1] at hR
      subst hR
      clear hcnt he e hS hA
      go_enter Try.func43, Try.ntmps43
      go_wp2_with (first | (go_at_call 74; refine HCNT.out.mono ?_; rintro e w1 ⟨rfl, hF⟩))
      go_ret
      exact ⟨rfl, HA.out.fr (by assumption) (fun _ _ => id), (Fr.any (by assumption))⟩
    · rw [if_neg hk1] at hR
      have hwr : Hid (∀ W, Fr (fun _ => False) w W → Calls Try.prog 24 #[.pointer (some ⟨p.h, 0, none⟩), .int .i64 a, .int .i64 (1 + (n : Int)), .int .u64 v] W fun e w' => e = .returned (.int .i64 R.1) ∧ Hid (HeapAt w' p R.2 ∧ Fr p.mine w w')) := by
        intro W hW
        refine (wr_any a (1 + (n : Int)) v W (hA.fr hW fun _ _ => id) hv).mono ?_
        rw [← hR]
        rintro e w' ⟨rfl, h1, h2⟩
        exact ⟨rfl, h1, hW.any.trans h2⟩
      obtain ⟨R1, R2⟩ := R
      clear hcnt he e hS hA hR
      go_enter Try.func43, Try.ntmps43
      go_wp2_with (first
        | (go_at_call 74; refine HCNT.out.mono ?_; rintro e w1 ⟨rfl, hF⟩; have h0 := hF.cell h0 id)
        | (go_at_call 24; refine (hwr.out _ hF).mono ?_; rintro e w2 ⟨rfl, hG⟩))
      go_ret
      exact ⟨rfl, hG.out⟩
  · rw [if_neg he] at hR
    obtain ⟨e, he0, e2, h1, h2⟩ := count_err he
    rw [e2] at hR hcnt
    subst hR
    have HCNT := Lib.hid hcnt
    have hen : (e != 0) = true := by simpa using he0
    clear hcnt he e2 hS hA
    go_enter Try.func43, Try.ntmps43
    go_wp2_with (first | (go_at_call 74; refine HCNT.out.mono ?_; rintro e w1 ⟨rfl, hF⟩))
    go_ret
    exact ⟨rfl, HA.out.fr (by assumption) (fun _ _ => id), (Fr.any (by assumption))⟩

/-- Point. -/
def pointM (srt : List Inf) (s : HS) (a i tt : Int) : Int × HS :=
  if (countM srt s a).2.2 = 0 then (if i < 0 ∨ (countM srt s a).1 ≤ i ∨ tt < 0 then (1, s) else wrM s a (1 + i) tt) else ((countM srt s a).2.2, s)
theorem point_any {q : SPl} {p : HP} {srt : List Inf} {s : HS} (a i tt : Int) (w : World) (hA : HeapAt w p s) (hS : StoreAt w q p srt) (hv : tt < 9223372036854775808) :
    Calls Try.prog 42 #[.pointer (some ⟨q.sp, 0, none⟩), .int .i64 a, .int .i64 i, .int .i64 tt] w fun e w' => e = .returned (.int .i64 (pointM srt s a i tt).1) ∧ HeapAt w' p (pointM srt s a i tt).2 ∧ Fr p.mine w w' := by
  have hcnt := count_any a w hA hS
  have h0 := hS.h0
  have HA := Lib.hid hA
  obtain ⟨R, hR⟩ : ∃ R, R = pointM srt s a i tt := ⟨_, rfl⟩
  rw [← hR]
  unfold pointM at hR
  by_cases he : (countM srt s a).2.2 = 0
  · rw [if_pos he] at hR
    obtain ⟨n, k, e, hn, hk⟩ := count_in hS.ok he
    rw [e] at hR hcnt
    simp only at hR hcnt
    have HCNT := Lib.hid hcnt
    by_cases hbad : i < 0 ∨ (n : Int) ≤ i ∨ tt < 0
    · rw [if_pos hbad] at hR
      subst hR
      clear hcnt he e hS hA
      have FIN : Hid (∀ W, Fr (fun _ => False) w W → HeapAt W p s ∧ Fr p.mine w W) := fun W hW => ⟨HA.out.fr hW fun _ _ => id, hW.any⟩
      by_cases c1 : i < 0
      · clear hbad
        go_enter Try.func42, Try.ntmps42
        go_wp2_with (first | (go_at_call 74; refine HCNT.out.mono ?_; rintro e w1 ⟨rfl, hF⟩))
        go_ret
        exact ⟨rfl, FIN.out _ hF⟩
      · by_cases c2 : (n : Int) ≤ i
        · clear hbad
          go_enter Try.func42, Try.ntmps42
          go_wp2_with (first | (go_at_call 74; refine HCNT.out.mono ?_; rintro e w1 ⟨rfl, hF⟩))
          go_ret
          exact ⟨rfl, FIN.out _ hF⟩
        · have c3 : tt < 0 := by omega
          clear hbad
          go_enter Try.func42, Try.ntmps42
          go_wp2_with (first | (go_at_call 74; refine HCNT.out.mono ?_; rintro e w1 ⟨rfl, hF⟩))
          go_ret
          exact ⟨rfl, FIN.out _ hF⟩
    · rw [if_neg hbad] at hR
      have b1 : 0 ≤ i := by omega
      have b2 : i < (n : Int) := by omega
      have b3 : 0 ≤ tt := by omega
      clear hbad
      have hu := uwrap_fit (x := tt) (by omega)
      have hwr : Hid (∀ W, Fr (fun _ => False) w W → Calls Try.prog 24 #[.pointer (some ⟨p.h, 0, none⟩), .int .i64 a, .int .i64 (1 + i), .int .u64 tt] W fun e w' => e = .returned (.int .i64 R.1) ∧ Hid (HeapAt w' p R.2 ∧ Fr p.mine w w')) := by
        intro W hW
        refine (wr_any a (1 + i) tt W (hA.fr hW fun _ _ => id) (by omega)).mono ?_
        rw [← hR]
        rintro e w' ⟨rfl, h1, h2⟩
        exact ⟨rfl, h1, hW.any.trans h2⟩
      obtain ⟨R1, R2⟩ := R
      clear hcnt he e hS hA hR
      go_enter Try.func42, Try.ntmps42
      go_wp2_with (first
        | (go_at_call 74; refine HCNT.out.mono ?_; rintro e w1 ⟨rfl, hF⟩; have h0 := hF.cell h0 id)
        | (go_at_call 24; refine (hwr.out _ hF).mono ?_; rintro e w2 ⟨rfl, hG⟩))
      go_ret
      exact ⟨rfl, hG.out⟩
  · rw [if_neg he] at hR
    obtain ⟨e, he0, e2, h1, h2⟩ := count_err he
    rw [e2] at hR hcnt
    subst hR
    have HCNT := Lib.hid hcnt
    have hen : (e != 0) = true := by simpa using he0
    clear hcnt he e2 hS hA
    go_enter Try.func42, Try.ntmps42
    go_wp2_with (first | (go_at_call 74; refine HCNT.out.mono ?_; rintro e w1 ⟨rfl, hF⟩))
    go_ret
    exact ⟨rfl, HA.out.fr (by assumption) (fun _ _ => id), (Fr.any (by assumption))⟩
end Go.Proofs.Ytjfpijoeddjgmaa
