/- Law 16's example: lives. No condition. -/
import Derived.Test.YtjfpijoeddjgmaaHeapWd
namespace Go.Proofs.Ytjfpijoeddjgmaa
open Go.RowKit Hm
set_option linter.unusedVariables false

theorem live_nums : ((HS.empty 2).alloc 2).1 = 1 ∧ (((HS.empty 2).alloc 2).2.2.alloc 3).1 = 33 ∧ ((((HS.empty 2).alloc 2).2.2.alloc 3).2.2.alloc 2).1 = 3 ∧ ((((HS.empty 2).alloc 2).2.2.alloc 3).2.2.alloc 2).2.1 = 0 ∧
    ((((HS.empty 2).alloc 2).2.2.alloc 3).2.2.alloc 2).2.2.cap 33 = 4 := by decide

theorem new_any (words : Int) (n : Nat) (w : World) (h1 : 32 ≤ words) (h2 : words ≤ 65536) (hn : words / 32 = n) (B : Nat) (w0 : World) (hb : Below B w0 w) (hB : B ≤ w.heap.size) :
    Calls Try.prog 20 #[.int .i64 words] w fun e w' => ∃ p : HP, e = .returned (.tuple #[.pointer (some ⟨p.h, 0, none⟩), .int .i64 0]) ∧ (∀ k, p.mine k → B ≤ k) ∧ HeapAt w' p (HS.empty n) ∧ Below B w0 w' ∧ B ≤ w'.heap.size := by
  refine (new_ok words n w h1 h2 hn).mono ?_
  rintro e w' ⟨p, rfl, h3, h4, h5⟩
  exact ⟨p, rfl, fun k hk => Nat.le_trans hB (h3 k hk), h4, hb.trans (h5.mono hB), Nat.le_trans hB h5.size⟩

theorem cap_of {p : HP} {s : HS} (a : Int) (w : World) (hA : HeapAt w p s) :
    Calls Try.prog 22 #[.pointer (some ⟨p.h, 0, none⟩), .int .i64 a] w fun e w' => e = .returned (.int .i64 (s.cap a.toNat)) ∧ w = w' := by
  obtain ⟨L, clk, cl, hR, hwf, _, _, hn1, hn2⟩ := hA
  exact cap_any a w hR hwf hn2

/-- A heap at a place of the call's own: what each call leaves of it. -/
structure Own (B : Nat) (w0 w : World) (p : HP) (s : HS) : Prop where
  mine : ∀ k, p.mine k → B ≤ k
  at' : HeapAt w p s
  below : Below B w0 w
  size : B ≤ w.heap.size
theorem Own.step {B : Nat} {w0 w w' : World} {p : HP} {s t : HS} (h : Own B w0 w p s) (hf : Fr p.mine w w') (ha : HeapAt w' p t) : Own B w0 w' p t :=
  ⟨h.mine, ha, h.below.trans (hf.below h.size h.mine), Nat.le_trans h.size hf.size⟩
theorem Own.alloc {B : Nat} {w0 w : World} {p : HP} {s : HS} (h : Own B w0 w p s) (n : Int) :
    Calls Try.prog 21 #[.pointer (some ⟨p.h, 0, none⟩), .int .i64 n] w fun e w' => e = .returned (.tuple #[.int .i64 (s.alloc n).1, .int .i64 (s.alloc n).2.1]) ∧ Own B w0 w' p (s.alloc n).2.2 := by
  refine (alloc_any n w h.at').mono ?_
  rintro e w' ⟨rfl, h1, h2⟩
  exact ⟨rfl, h.step h2 h1⟩

theorem lives16 (w : World) : Calls Try.prog 19 #[] w fun e w' => e = .returned (.bool true) ∧ Below w.heap.size w w' := by
  obtain ⟨B, hB⟩ : ∃ B, B = w.heap.size := ⟨_, rfl⟩
  rw [← hB]
  have H1 : Hid (Calls Try.prog 20 #[.int .i64 64] w fun e w' => ∃ p : HP, e = .returned (.tuple #[.pointer (some ⟨p.h, 0, none⟩), .int .i64 0]) ∧ Hid (Own B w w' p (HS.empty 2))) := by
    refine (new_any 64 2 w (by decide) (by decide) (by decide) B w (Below.refl _ _) (by omega)).mono ?_
    rintro e w' ⟨p, rfl, h1, h2, h3, h4⟩
    exact ⟨p, rfl, h1, h2, h3, h4⟩
  clear hB
  obtain ⟨n1, n2, n3, n4, n5⟩ := live_nums
  obtain ⟨r1, hr1⟩ : ∃ r, r = (HS.empty 2).alloc 2 := ⟨_, rfl⟩
  rw [← hr1] at n1 n2 n3 n4 n5
  obtain ⟨r2, hr2⟩ : ∃ r, r = r1.2.2.alloc 3 := ⟨_, rfl⟩
  rw [← hr2] at n2 n3 n4 n5
  obtain ⟨r3, hr3⟩ : ∃ r, r = r2.2.2.alloc 2 := ⟨_, rfl⟩
  rw [← hr3] at n3 n4 n5
  obtain ⟨a1, e1, s1⟩ := r1
  obtain ⟨a2, e2, s2⟩ := r2
  obtain ⟨a3, e3, s3⟩ := r3
  simp only at n1 n2 n3 n4 n5 hr2 hr3
  subst n1 n2 n3 n4
  have HR1 := Lib.hid hr1.symm
  have HR2 := Lib.hid hr2.symm
  have HR3 := Lib.hid hr3.symm
  have HN5 := Lib.hid n5
  clear hr1 hr2 hr3 n5
  go_enter Try.func19, Try.ntmps19
  go_wp2_with fail
  refine H1.out.mono ?_
  rintro e w1 ⟨p, rfl, h1⟩
  go_wp2_with fail
  refine (h1.out.alloc 2).mono ?_
  rintro e w2 ⟨rfl, h2⟩
  rw [HR1.out] at h2 ⊢
  have h2 := Lib.hid h2
  go_wp2_with fail
  refine (h2.out.alloc 3).mono ?_
  rintro e w3 ⟨rfl, h3⟩
  rw [HR2.out] at h3 ⊢
  have h3 := Lib.hid h3
  go_wp2_with fail
  refine (h3.out.alloc 2).mono ?_
  rintro e w4 ⟨rfl, h4⟩
  rw [HR3.out] at h4 ⊢
  have h4 := Lib.hid h4
  have hc := Lib.hid (cap_of 33 w4 h4.out.at')
  go_wp2_with (first | (go_at_call 22; refine hc.out.mono ?_; rw [show ((s3.cap (33 : Int).toNat : Nat) : Int) = 4 by rw [show (33 : Int).toNat = 33 from rfl, HN5.out]; rfl]; rintro e w5 ⟨rfl, rfl⟩))
  go_ret
  exact ⟨rfl, h4.out.below⟩
end Go.Proofs.Ytjfpijoeddjgmaa
