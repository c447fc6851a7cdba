/- A store of closures: Info. Conditions: the store's memory reads as the plain model says. -/
import Derived.Test.YtjfpijoeddjgmaaPtrs
namespace Go.Proofs.Ytjfpijoeddjgmaa
open Go.RowKit Hm
set_option linter.unusedVariables false
def infoM (srt : List Inf) (s : HS) (a : Int) : Inf × Int :=
  if (lookM srt s a).2.2 = 0 then (srt.getD (lookM srt s a).1.toNat noInf, 0) else (noInf, (lookM srt s a).2.2)
set_option maxRecDepth 100000 in
set_option maxHeartbeats 1000000 in
theorem info_any {q : SPl} {p : HP} {srt : List Inf} {s : HS} (a : Int) (w : World) (hA : HeapAt w p s) (hS : StoreAt w q p srt) :
    Calls Try.prog 41 #[.pointer (some ⟨q.sp, 0, none⟩), .int .i64 a] w fun e w' => e = .returned (.tuple #[(infoM srt s a).1.val, .int .i64 (infoM srt s a).2]) ∧ Fr (fun _ => False) w w' := by
  have hlook := fun W (hW : Fr (fun _ => False) w W) => look_any a W (hA.fr hW fun _ _ => id) (hS.fr hW id id)
  have HF := Lib.hid (Fr.refl (fun _ => False) w)
  obtain ⟨R, hR⟩ : ∃ R, R = infoM srt s a := ⟨_, rfl⟩
  rw [← hR]
  unfold infoM at hR
  by_cases he : (lookM srt s a).2.2 = 0
  · rw [if_pos he] at hR
    obtain ⟨k, n, e, hk, _⟩ := look_in he
    rw [e] at hR hlook
    simp only [Int.toNat_natCast] at hR hlook
    subst hR
    obtain ⟨I, hI⟩ : ∃ I, I = srt.getD k noInf := ⟨_, rfl⟩
    rw [← hI]
    have HI2 := Lib.hid hI
    clear hI
    have HLOOK := Lib.hid hlook
    have HST := Lib.hid hS
    clear hlook he e hS hA
    go_enter Try.func41, Try.ntmps41
    go_wp2_with fail
    refine (HLOOK.out _ (HF.out.alloc _)).mono ?_
    rintro e w1 ⟨rfl, hF1⟩
    have hS2 := HST.out.fr (((Fr.refl (fun _ => False) w).alloc _).trans hF1) id id
    have h1 := hS2.h1
    have c0 := hS2.sort hk (c := 0) (by omega)
    have c1 := hS2.sort hk (c := 1) (by omega)
    have c2 := hS2.sort hk (c := 2) (by omega)
    have c3 := hS2.sort hk (c := 3) (by omega)
    have c4 := hS2.sort hk (c := 4) (by omega)
    have c5 := hS2.sort hk (c := 5) (by omega)
    have c6 := hS2.sort hk (c := 6) (by omega)
    have c7 := hS2.sort hk (c := 7) (by omega)
    have c8 := hS2.sort hk (c := 8) (by omega)
    simp only [Inf.cell, Nat.add_zero] at c0 c1 c2 c3 c4 c5 c6 c7 c8
    have hfew := HST.out.few
    rw [← HI2.out] at c0 c1 c2 c3 c4 c5 c6 c7
    generalize srt.length = m at h1 hfew hk
    clear hS2
    obtain ⟨tb, htb⟩ : ∃ tb, tb = w.heap.size := ⟨_, rfl⟩
    have hblk : BlkAt w1 tb 80 9 (fun i => if i = 8 then .string ⟨#[]⟩ else .int .i64 0) := by
      rw [htb]
      exact (blk_new w 80 _ 9 _ rfl).fr hF1 id
    have f0 := hblk.frozen 0
    have f1 := hblk.frozen 1
    have f2 := hblk.frozen 2
    have f3 := hblk.frozen 3
    have f4 := hblk.frozen 4
    have f5 := hblk.frozen 5
    have f6 := hblk.frozen 6
    have f7 := hblk.frozen 7
    have f8 := hblk.frozen 8
    have z0 := hblk.cell (i := 0) (by omega)
    have z1 := hblk.cell (i := 1) (by omega)
    have z2 := hblk.cell (i := 2) (by omega)
    have z3 := hblk.cell (i := 3) (by omega)
    have z4 := hblk.cell (i := 4) (by omega)
    have z5 := hblk.cell (i := 5) (by omega)
    have z6 := hblk.cell (i := 6) (by omega)
    have z7 := hblk.cell (i := 7) (by omega)
    have z8 := hblk.cell (i := 8) (by omega)
    simp only [show ¬ ((0 : Nat) = 8) by omega, show ¬ ((1 : Nat) = 8) by omega, show ¬ ((2 : Nat) = 8) by omega, show ¬ ((3 : Nat) = 8) by omega, show ¬ ((4 : Nat) = 8) by omega, show ¬ ((5 : Nat) = 8) by omega, show ¬ ((6 : Nat) = 8) by omega, show ¬ ((7 : Nat) = 8) by omega, if_true, if_false] at z0 z1 z2 z3 z4 z5 z6 z7 z8
    have HB := Lib.hid hblk
    have HT := Lib.hid htb
    have HF1 := Lib.hid hF1
    rw [← htb]
    clear hblk htb hF1
    go_wp2_with fail
    refine bodyPost_ret (v := .tuple #[I.val, .int .i64 0]) ?_ rfl ⟨rfl, ?_⟩
    · unfold results
      go_simp
      rfl
    · have h1 : Fr (fun k => w.heap.size ≤ k) w w1 := (Fr.any ((Fr.refl (fun _ => False) w).alloc _)).trans (Fr.any HF1.out)
      have hS : w.heap.size ≤ tb := by rw [HT.out]; exact Nat.le_refl _
      exact Fr.of_below (((((((((h1.setCell (x := ⟨tb, 0, none⟩) hS _).setCell (x := ⟨tb, 1, none⟩) hS _).setCell (x := ⟨tb, 2, none⟩) hS _).setCell (x := ⟨tb, 3, none⟩) hS _).setCell (x := ⟨tb, 4, none⟩) hS _).setCell (x := ⟨tb, 5, none⟩) hS _).setCell (x := ⟨tb, 6, none⟩) hS _).setCell (x := ⟨tb, 7, none⟩) hS _).setCell (x := ⟨tb, 8, none⟩) hS _ |>.below (Nat.le_refl _) fun k hk => hk)
  · rw [if_neg he] at hR
    obtain ⟨e, he0, e2, h1, h2⟩ := look_err he
    rw [e2] at hR hlook
    subst hR
    have HLOOK := Lib.hid hlook
    have hen : (e != 0) = true := by simpa using he0
    clear hlook he e2 hS hA
    go_enter Try.func41, Try.ntmps41
    go_wp2_with fail
    refine (HLOOK.out _ (HF.out.alloc _)).mono ?_
    rintro e w1 ⟨rfl, hF1⟩
    obtain ⟨tb, htb⟩ : ∃ tb, tb = w.heap.size := ⟨_, rfl⟩
    have hblk : BlkAt w1 tb 80 9 (fun i => if i = 8 then .string ⟨#[]⟩ else .int .i64 0) := by
      rw [htb]
      exact (blk_new w 80 _ 9 _ rfl).fr hF1 id
    have f0 := hblk.frozen 0
    have f1 := hblk.frozen 1
    have f2 := hblk.frozen 2
    have f3 := hblk.frozen 3
    have f4 := hblk.frozen 4
    have f5 := hblk.frozen 5
    have f6 := hblk.frozen 6
    have f7 := hblk.frozen 7
    have f8 := hblk.frozen 8
    have z0 := hblk.cell (i := 0) (by omega)
    have z1 := hblk.cell (i := 1) (by omega)
    have z2 := hblk.cell (i := 2) (by omega)
    have z3 := hblk.cell (i := 3) (by omega)
    have z4 := hblk.cell (i := 4) (by omega)
    have z5 := hblk.cell (i := 5) (by omega)
    have z6 := hblk.cell (i := 6) (by omega)
    have z7 := hblk.cell (i := 7) (by omega)
    have z8 := hblk.cell (i := 8) (by omega)
    simp only [show ¬ ((0 : Nat) = 8) by omega, show ¬ ((1 : Nat) = 8) by omega, show ¬ ((2 : Nat) = 8) by omega, show ¬ ((3 : Nat) = 8) by omega, show ¬ ((4 : Nat) = 8) by omega, show ¬ ((5 : Nat) = 8) by omega, show ¬ ((6 : Nat) = 8) by omega, show ¬ ((7 : Nat) = 8) by omega, if_true, if_false] at z0 z1 z2 z3 z4 z5 z6 z7 z8
    have HB := Lib.hid hblk
    have HT := Lib.hid htb
    have HF1 := Lib.hid hF1
    rw [← htb]
    clear hblk htb hF1
    go_wp2_with fail
    refine bodyPost_ret (v := .tuple #[noInf.val, .int .i64 e]) ?_ rfl ⟨rfl, ?_⟩
    · unfold results
      go_simp
      rfl
    · have h1 : Fr (fun k => w.heap.size ≤ k) w w1 := (Fr.any ((Fr.refl (fun _ => False) w).alloc _)).trans (Fr.any HF1.out)
      have hS : w.heap.size ≤ tb := by rw [HT.out]; exact Nat.le_refl _
      exact Fr.of_below (((((((((h1.setCell (x := ⟨tb, 0, none⟩) hS _).setCell (x := ⟨tb, 1, none⟩) hS _).setCell (x := ⟨tb, 2, none⟩) hS _).setCell (x := ⟨tb, 3, none⟩) hS _).setCell (x := ⟨tb, 4, none⟩) hS _).setCell (x := ⟨tb, 5, none⟩) hS _).setCell (x := ⟨tb, 6, none⟩) hS _).setCell (x := ⟨tb, 7, none⟩) hS _).setCell (x := ⟨tb, 8, none⟩) hS _ |>.below (Nat.le_refl _) fun k hk => hk)
end Go.Proofs.Ytjfpijoeddjgmaa
