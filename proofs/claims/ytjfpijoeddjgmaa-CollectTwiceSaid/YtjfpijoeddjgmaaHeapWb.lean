/- HeapW4, HeapW5, HeapW6, HeapW7 in one text. Conditions: as each says. -/
import Derived.Test.YtjfpijoeddjgmaaHeapWa
import Derived.Test.YtjfpijoeddjgmaaRegs
import Derived.Test.YtjfpijoeddjgmaaHm2
import Derived.Deep.DeepCutAuto
import Derived.KernelRfl
/- The heap: a large cell is taken: the first two free blocks. Conditions: the heap reads as the plain model says. -/
namespace Go.Proofs.Ytjfpijoeddjgmaa
open Go.RowKit Hm
set_option linter.unusedSimpArgs false

def Vlarge (hp kb cb ub b n : Nat) : Nat → Value
  | 0 => .pointer (some ⟨hp, 0, none⟩)
  | 1 => .pointer (some ⟨hp, 0, none⟩)
  | 2 => .pointer (some ⟨hp, 1, none⟩)
  | 3 => .slice (some ⟨kb, 0, none⟩) n n
  | 4 => .int .i64 b
  | 5 => .pointer (some ⟨hp, 0, none⟩)
  | 6 => .pointer (some ⟨hp, 0, none⟩)
  | 7 => .pointer (some ⟨hp, 2, none⟩)
  | 8 => .slice (some ⟨cb, 0, none⟩) n n
  | 9 => .int .i64 b
  | 10 => .pointer (some ⟨hp, 0, none⟩)
  | 11 => .pointer (some ⟨hp, 0, none⟩)
  | 12 => .pointer (some ⟨hp, 3, none⟩)
  | 13 => .slice (some ⟨ub, 0, none⟩) (1 + 32 * n) (1 + 32 * n)
  | 14 => .int .i64 b
  | 15 => .int .i64 (1 + b * 32)
  | 16 => .pointer (some ⟨kb, b, none⟩)
  | 18 => .pointer (some ⟨cb, b, none⟩)
  | 20 => .pointer (some ⟨ub, 1 + b * 32, none⟩)
  | _ => undef
def Wlarge (w : World) (kb cb ub b : Nat) (x y z : Bool) : World :=
  let w1 := if x then w.setCell ⟨kb, b, none⟩ (.int .i64 (-1)) else w
  let w2 := if y then w1.setCell ⟨cb, b, none⟩ (.int .i64 1) else w1
  if z then w2.setCell ⟨ub, 1 + b * 32, none⟩ (.bool true) else w2

set_option maxHeartbeats 1000000 in
theorem large_any {p : HP} {s : HS} (w : World) (hA : HeapAt w p s) :
    Calls Try.prog 61 #[.pointer (some ⟨p.h, 0, none⟩), .int .i64 2] w fun e w' =>
      e = .returned (.tuple #[.int .i64 (s.alloc 64).1, .int .i64 (s.alloc 64).2.1]) ∧ HeapAt w' p (s.alloc 64).2.2 ∧ Fr p.mine w w' := by
  obtain ⟨L, clk, cl, hR, hwf, hF, hC, hn1, hn2⟩ := hA
  have hrun := fun w hR => run_any (p := p) (s := s) (wd := s.word) (cn := fun b => (s.cnt b : Int)) (us := s.used) (L := L) (clk := clk) (cl := cl) 2 w hR hC hn2 (by omega) (by omega)
  simp only [Int.cast_ofNat_Int] at hrun
  have HRUN := Lib.hid hrun
  have HR := Lib.hid hR
  clear hrun
  have h1 : w.cell? ⟨p.h, 1, none⟩ = some (.slice (some ⟨p.kb, 0, none⟩) s.n s.n) := hR.st.cell (by omega)
  have h2 : w.cell? ⟨p.h, 2, none⟩ = some (.slice (some ⟨p.cb, 0, none⟩) s.n s.n) := hR.st.cell (by omega)
  have h3 : w.cell? ⟨p.h, 3, none⟩ = some (.slice (some ⟨p.ub, 0, none⟩) (1 + 32 * s.n) (1 + 32 * s.n)) := hR.st.cell (by omega)
  cases hr : s.run 2 with
  | none =>
    have hri : runInt s 2 = -1 := by unfold runInt; rw [hr]
    rw [hri] at HRUN
    have ha : Hid (s.alloc 64 = (0, 9, s)) := by
      show s.alloc 64 = (0, 9, s)
      unfold HS.alloc; rw [if_neg (by omega), if_pos (by omega), hr]
    have HA : Hid (HeapAt w p s) := ⟨L, clk, cl, hR, hwf, hF, hC, hn1, hn2⟩
    clear hR hwf hF hC hr hri
    go_enter Try.func61, Try.ntmps61
    go_wp2_with (first | (go_at_call 64; refine (HRUN.out _ HR.out).mono ?_; rintro e w' ⟨rfl, rfl⟩))
    go_ret2
    rw [ha.out]
    exact ⟨rfl, HA.out, Fr.refl _ _⟩
  | some b =>
    have hbn := HS.run_some hr
    have hri : runInt s 2 = (b : Int) := by unfold runInt; rw [hr]
    rw [hri] at HRUN
    have FIN : Hid ((Ending.returned (.tuple #[.int .i64 (1 + (b : Int) * 32), .int .i64 0]) = .returned (.tuple #[.int .i64 (s.alloc 64).1, .int .i64 (s.alloc 64).2.1])) ∧ HeapAt ((((w.drew.setCell ⟨p.kb, b, none⟩ (.int .i64 (-1))).setCell ⟨p.cb, b, none⟩ (.int .i64 1)).setCell ⟨p.ub, 1 + b * 32, none⟩ (.bool true)).setCell ⟨p.kb, b + 1, none⟩ (.int .i64 (-2))) p (s.alloc 64).2.2 ∧
        Fr p.mine w ((((w.drew.setCell ⟨p.kb, b, none⟩ (.int .i64 (-1))).setCell ⟨p.cb, b, none⟩ (.int .i64 1)).setCell ⟨p.ub, 1 + b * 32, none⟩ (.bool true)).setCell ⟨p.kb, b + 1, none⟩ (.int .i64 (-2)))) := by
      have ha : s.alloc 64 = (1 + 32 * b, 0, s.takeLarge b) := by unfold HS.alloc; rw [if_neg (by omega), if_pos (by omega), hr]
      rw [ha]
      have hk0 := HS.run_free hr 0 (by omega)
      have hk1 := HS.run_free hr 1 (by omega)
      have hbn' := HS.run_some hr
      rw [show 1 + b * 32 = 1 + 32 * b by omega]
      refine ⟨by show Ending.returned (.tuple #[.int .i64 (1 + (b : Int) * 32), .int .i64 0]) = .returned (.tuple #[.int .i64 ((1 + 32 * b : Nat) : Int), .int .i64 0]); rw [show ((1 + 32 * b : Nat) : Int) = 1 + (b : Int) * 32 by omega], ⟨L, clk, cl, ?_, hwf.takeLarge (by omega) (by simpa using hk0) hk1, hF.takeLarge hwf hk1, hC.takeLarge b, hn1, hn2⟩, ?_⟩
      · have h := (((hR.drew.setKind b (-1)).setCnt b 1).setUsed (1 + 32 * b) true).setKind (b + 1) (-2)
        have hc : (fun b' => ((s.takeLarge b).cnt b' : Int)) = upd (fun b' => (s.cnt b' : Int)) b 1 := by
          funext b'; rw [HS.cnt_takeLarge hwf hk1]; unfold upd; split <;> rfl
        show Raw _ p s.n s.word (s.takeLarge b).kind (fun b' => ((s.takeLarge b).cnt b' : Int)) (s.takeLarge b).used L clk cl
        rw [hc]
        exact h
      · exact (((((Fr.refl _ w).drew.setCell (by simp [HP.mine]) _).setCell (by simp [HP.mine]) _).setCell (by simp [HP.mine]) _).setCell (by simp [HP.mine]) _)
    have f1 := hR.kd.frozen
    have f2 := hR.cn.frozen
    have f3 := hR.us.frozen
    have k0 := hR.kd.cell (i := b) (by omega)
    have k1 := hR.kd.cell (i := b + 1) (by omega)
    have c0 := hR.cn.cell (i := b) (by omega)
    have u0 := hR.us.cell (i := 1 + b * 32) (by omega)
    have n1 := hR.ok.k1
    have n2 := hR.ok.k2
    have n3 := hR.ok.c1
    have n4 := hR.ok.h2
    have n5 := hR.ok.h3
    have n6 := hR.ok.h4
    have hb1 : b + 1 < s.n := by omega
    have hb0 : b < s.n := by omega
    have hb2 : b * 32 < 32 * s.n := by omega
    clear hR hbn hri hr hF hC hwf
    go_enter Try.func61, Try.ntmps61
    go_wp2_with (first | (go_at_call 64; refine (HRUN.out _ HR.out).mono ?_; rintro e w' ⟨rfl, rfl⟩))
    have hw1 : ∀ x y z, (Wlarge w.drew p.kb p.cb p.ub b x y z).cell? ⟨p.h, 1, none⟩ = some (.slice (some ⟨p.kb, 0, none⟩) s.n s.n) := by
      intro x y z; cases x <;> cases y <;> cases z <;> simp [Wlarge, h1, World.cell?_setCell_other, n4.symm, n5.symm, n6.symm]
    have hw2 : ∀ x y z, (Wlarge w.drew p.kb p.cb p.ub b x y z).cell? ⟨p.h, 2, none⟩ = some (.slice (some ⟨p.cb, 0, none⟩) s.n s.n) := by
      intro x y z; cases x <;> cases y <;> cases z <;> simp [Wlarge, h2, World.cell?_setCell_other, n4.symm, n5.symm, n6.symm]
    have hw3 : ∀ x y z, (Wlarge w.drew p.kb p.cb p.ub b x y z).cell? ⟨p.h, 3, none⟩ = some (.slice (some ⟨p.ub, 0, none⟩) (1 + 32 * s.n) (1 + 32 * s.n)) := by
      intro x y z; cases x <;> cases y <;> cases z <;> simp [Wlarge, h3, World.cell?_setCell_other, n4.symm, n5.symm, n6.symm]
    refine wp_region_inv (n := 47) rfl rfl (by kernel_rfl) (fun j v _ => v = Vlarge p.h p.kb p.cb p.ub b s.n j) (fun D w' => w' = Wlarge w.drew p.kb p.cb p.ub b (D 17) (D 19) (D 21)) rfl ?step ?fin
    case step =>
      intro i o ho D a w' hF hJ hDi hdep
      match i, ho with
      | 0, ho =>
        obtain rfl := Option.some.inj ho
        have d0 := hF.out 0 (by rfl); simp only [Array.getD_eq_getD_getElem?, List.getElem?_toArray, List.getElem?_cons_succ, List.getElem?_cons_zero, Option.getD_some] at d0
        subst hJ
        go_simp
        exact RegPost.mk _ rfl (fun _ _ _ h => h) (by simp [upd])
      | 1, ho =>
        obtain rfl := Option.some.inj ho
        have d13 := hF.mine 0 _ _ rfl rfl (hdep ⟨0, .data⟩ (by simp) rfl); simp only [Vlarge] at d13
        subst hJ
        go_simp
        exact RegPost.mk _ rfl (fun _ _ _ h => h) (by simp [upd])
      | 2, ho =>
        obtain rfl := Option.some.inj ho
        have d14 := hF.mine 1 _ _ rfl rfl (hdep ⟨1, .data⟩ (by simp) rfl); simp only [Vlarge] at d14
        subst hJ
        go_simp
        exact RegPost.mk _ rfl (fun _ _ _ h => h) (by simp [upd])
      | 3, ho =>
        obtain rfl := Option.some.inj ho
        have d15 := hF.mine 2 _ _ rfl rfl (hdep ⟨2, .data⟩ (by simp) rfl); simp only [Vlarge] at d15
        subst hJ
        go_simp
        exact RegPost.mk _ rfl (fun _ _ _ h => h) (by simp [upd])
      | 4, ho =>
        obtain rfl := Option.some.inj ho
        have d6 := hF.out 6 (by rfl); simp only [Array.getD_eq_getD_getElem?, List.getElem?_toArray, List.getElem?_cons_succ, List.getElem?_cons_zero, Option.getD_some] at d6
        subst hJ
        go_simp
        exact RegPost.mk _ rfl (fun _ _ _ h => h) (by simp [upd])
      | 5, ho =>
        obtain rfl := Option.some.inj ho
        have d0 := hF.out 0 (by rfl); simp only [Array.getD_eq_getD_getElem?, List.getElem?_toArray, List.getElem?_cons_succ, List.getElem?_cons_zero, Option.getD_some] at d0
        subst hJ
        go_simp
        exact RegPost.mk _ rfl (fun _ _ _ h => h) (by simp [upd])
      | 6, ho =>
        obtain rfl := Option.some.inj ho
        have d18 := hF.mine 5 _ _ rfl rfl (hdep ⟨5, .data⟩ (by simp) rfl); simp only [Vlarge] at d18
        subst hJ
        go_simp
        exact RegPost.mk _ rfl (fun _ _ _ h => h) (by simp [upd])
      | 7, ho =>
        obtain rfl := Option.some.inj ho
        have d19 := hF.mine 6 _ _ rfl rfl (hdep ⟨6, .data⟩ (by simp) rfl); simp only [Vlarge] at d19
        subst hJ
        go_simp
        exact RegPost.mk _ rfl (fun _ _ _ h => h) (by simp [upd])
      | 8, ho =>
        obtain rfl := Option.some.inj ho
        have d20 := hF.mine 7 _ _ rfl rfl (hdep ⟨7, .data⟩ (by simp) rfl); simp only [Vlarge] at d20
        subst hJ
        go_simp
        exact RegPost.mk _ rfl (fun _ _ _ h => h) (by simp [upd])
      | 9, ho =>
        obtain rfl := Option.some.inj ho
        have d6 := hF.out 6 (by rfl); simp only [Array.getD_eq_getD_getElem?, List.getElem?_toArray, List.getElem?_cons_succ, List.getElem?_cons_zero, Option.getD_some] at d6
        subst hJ
        go_simp
        exact RegPost.mk _ rfl (fun _ _ _ h => h) (by simp [upd])
      | 10, ho =>
        obtain rfl := Option.some.inj ho
        have d0 := hF.out 0 (by rfl); simp only [Array.getD_eq_getD_getElem?, List.getElem?_toArray, List.getElem?_cons_succ, List.getElem?_cons_zero, Option.getD_some] at d0
        subst hJ
        go_simp
        exact RegPost.mk _ rfl (fun _ _ _ h => h) (by simp [upd])
      | 11, ho =>
        obtain rfl := Option.some.inj ho
        have d23 := hF.mine 10 _ _ rfl rfl (hdep ⟨10, .data⟩ (by simp) rfl); simp only [Vlarge] at d23
        subst hJ
        go_simp
        exact RegPost.mk _ rfl (fun _ _ _ h => h) (by simp [upd])
      | 12, ho =>
        obtain rfl := Option.some.inj ho
        have d24 := hF.mine 11 _ _ rfl rfl (hdep ⟨11, .data⟩ (by simp) rfl); simp only [Vlarge] at d24
        subst hJ
        go_simp
        exact RegPost.mk _ rfl (fun _ _ _ h => h) (by simp [upd])
      | 13, ho =>
        obtain rfl := Option.some.inj ho
        have d25 := hF.mine 12 _ _ rfl rfl (hdep ⟨12, .data⟩ (by simp) rfl); simp only [Vlarge] at d25
        subst hJ
        go_simp
        exact RegPost.mk _ rfl (fun _ _ _ h => h) (by simp [upd])
      | 14, ho =>
        obtain rfl := Option.some.inj ho
        have d6 := hF.out 6 (by rfl); simp only [Array.getD_eq_getD_getElem?, List.getElem?_toArray, List.getElem?_cons_succ, List.getElem?_cons_zero, Option.getD_some] at d6
        subst hJ
        go_simp
        exact RegPost.mk _ rfl (fun _ _ _ h => h) (by simp [upd])
      | 15, ho =>
        obtain rfl := Option.some.inj ho
        have d27 := hF.mine 14 _ _ rfl rfl (hdep ⟨14, .data⟩ (by simp) rfl); simp only [Vlarge] at d27
        subst hJ
        go_simp
        refine (at_any _ _ (by omega) (by omega)).mono ?_
        rintro e w'' ⟨rfl, rfl⟩
        exact RegPost.mk _ rfl (fun _ _ _ h => h) (by simp [upd])
      | 16, ho =>
        obtain rfl := Option.some.inj ho
        have d16 := hF.mine 3 _ _ rfl rfl (hdep ⟨3, .data⟩ (by simp) rfl); simp only [Vlarge] at d16
        have d17 := hF.mine 4 _ _ rfl rfl (hdep ⟨4, .data⟩ (by simp) rfl); simp only [Vlarge] at d17
        subst hJ
        go_simp
        exact RegPost.mk _ rfl (fun _ _ _ h => h) (by simp [upd])
      | 17, ho =>
        obtain rfl := Option.some.inj ho
        have d29 := hF.mine 16 _ _ rfl rfl (hdep ⟨16, .data⟩ (by simp) rfl); simp only [Vlarge] at d29
        have e19 := hF.back hDi 19 rfl ⟨17, .chain⟩ (by simp) rfl rfl; have e21 := hF.back e19 21 rfl ⟨19, .chain⟩ (by simp) rfl rfl; rw [hDi, e19, e21] at hJ
        simp only [Wlarge, if_true, if_false, Bool.false_eq_true] at hJ
        subst hJ
        go_simp
        exact RegPost.mk0 (fun _ _ _ h => h) (by show _ = Wlarge _ _ _ _ _ _ _ _; simp [upd, *]; rfl)
      | 18, ho =>
        obtain rfl := Option.some.inj ho
        have d21 := hF.mine 8 _ _ rfl rfl (hdep ⟨8, .data⟩ (by simp) rfl); simp only [Vlarge] at d21
        have d22 := hF.mine 9 _ _ rfl rfl (hdep ⟨9, .data⟩ (by simp) rfl); simp only [Vlarge] at d22
        subst hJ
        go_simp
        exact RegPost.mk _ rfl (fun _ _ _ h => h) (by simp [upd])
      | 19, ho =>
        obtain rfl := Option.some.inj ho
        have d30 := hF.mine 18 _ _ rfl rfl (hdep ⟨18, .data⟩ (by simp) rfl); simp only [Vlarge] at d30
        have e17 := hdep ⟨17, .chain⟩ (by simp) rfl; have e21 := hF.back hDi 21 rfl ⟨19, .chain⟩ (by simp) rfl rfl; dsimp only at e17; rw [e17, hDi, e21] at hJ
        simp only [Wlarge, if_true, if_false, Bool.false_eq_true] at hJ
        subst hJ
        go_simp
        exact RegPost.mk0 (fun _ _ _ h => h) (by show _ = Wlarge _ _ _ _ _ _ _ _; simp [upd, *]; rfl)
      | 20, ho =>
        obtain rfl := Option.some.inj ho
        have d26 := hF.mine 13 _ _ rfl rfl (hdep ⟨13, .data⟩ (by simp) rfl); simp only [Vlarge] at d26
        have d28 := hF.mine 15 _ _ rfl rfl (hdep ⟨15, .data⟩ (by simp) rfl); simp only [Vlarge] at d28
        subst hJ
        go_simp
        rw [if_pos (by omega), show (1 + (b : Int) * 32).toNat = 1 + b * 32 by omega]
        go_simp
        exact RegPost.mk _ rfl (fun _ _ _ h => h) (by simp [upd])
      | 21, ho =>
        obtain rfl := Option.some.inj ho
        have d31 := hF.mine 20 _ _ rfl rfl (hdep ⟨20, .data⟩ (by simp) rfl); simp only [Vlarge] at d31
        have e19 := hdep ⟨19, .chain⟩ (by simp) rfl; have e17 := hdep ⟨17, .phase⟩ (by simp) rfl; dsimp only at e17 e19; rw [e17, e19, hDi] at hJ
        simp only [Wlarge, if_true, if_false, Bool.false_eq_true] at hJ
        subst hJ
        go_simp
        exact RegPost.mk0 (fun _ _ _ h => h) (by show _ = Wlarge _ _ _ _ _ _ _ _; simp [upd, *]; rfl)
      | i + 22, ho => simp at ho
    case fin =>
      intro D a w' hF hJ hall
      have t17 := hall 17 (by decide)
      have t19 := hall 19 (by decide)
      have t21 := hall 21 (by decide)
      rw [t17, t19, t21] at hJ
      simp only [Wlarge, if_true] at hJ
      subst hJ
      have hl := act_lit a 47 hF.size
      rw [hF.defers] at hl
      simp only [List.range, List.range.loop, List.map_cons, List.map_nil, hF.out 0 (by rfl), hF.out 1 (by rfl), hF.out 2 (by rfl), hF.out 3 (by rfl), hF.out 4 (by rfl), hF.out 5 (by rfl), hF.out 6 (by rfl), hF.out 7 (by rfl), hF.out 8 (by rfl), hF.out 9 (by rfl), hF.out 10 (by rfl), hF.out 11 (by rfl), hF.out 12 (by rfl), hF.out 32 (by rfl), hF.out 33 (by rfl), hF.out 34 (by rfl), hF.out 35 (by rfl), hF.out 36 (by rfl), hF.out 37 (by rfl), hF.out 38 (by rfl), hF.out 39 (by rfl), hF.out 40 (by rfl), hF.out 41 (by rfl), hF.out 42 (by rfl), hF.out 43 (by rfl), hF.out 44 (by rfl), hF.out 45 (by rfl), hF.out 46 (by rfl)] at hl
      simp only [Array.getD_eq_getD_getElem?, List.getElem?_toArray, List.getElem?_cons_succ, List.getElem?_cons_zero, Option.getD_some] at hl
      rw [hl]
      clear hl hF
      go_wp2
      go_loopw [7] (fun v wr => (v = .int .i64 1 ∧ wr = ((w.drew.setCell ⟨p.kb, b, none⟩ (.int .i64 (-1))).setCell ⟨p.cb, b, none⟩ (.int .i64 1)).setCell ⟨p.ub, 1 + b * 32, none⟩ (.bool true)) ∨
        (v = .int .i64 2 ∧ wr = (((w.drew.setCell ⟨p.kb, b, none⟩ (.int .i64 (-1))).setCell ⟨p.cb, b, none⟩ (.int .i64 1)).setCell ⟨p.ub, 1 + b * 32, none⟩ (.bool true)).setCell ⟨p.kb, b + 1, none⟩ (.int .i64 (-2)))) (fun v _ => 2 - (intOf v).toNat)
      case atStart => exact .inl ⟨rfl, rfl⟩
      case round =>
        rcases hrel with ⟨rfl, rfl⟩ | ⟨rfl, rfl⟩
        · go_wp2
          go_roundw
          case rel => exact .inr ⟨rfl, by first | rfl | trace_state⟩
          case measure => simp [intOf]
        · go_wp2_with (first | (go_at_call 90; refine (at_any _ _ (by omega) (by omega)).mono ?_; rintro e w' ⟨rfl, rfl⟩))
          go_ret2
          exact FIN.out
end Go.Proofs.Ytjfpijoeddjgmaa

/- The heap: Alloc of a small cell in a block that has one free. Conditions: the heap reads as the plain model says. -/
namespace Go.Proofs.Ytjfpijoeddjgmaa
open Go.RowKit Hm
set_option linter.unusedSimpArgs false
theorem zero_int (w : World) : (zeroValue 3).run Try.prog w = .ok (.int .i64 0) w := by kernel_rfl

set_option maxRecDepth 100000 in
set_option maxHeartbeats 1000000 in
theorem allocA {p : HP} {s : HS} (n : Nat) (w : World) (hA : HeapAt w p s) (h1n : 1 ≤ n) (h2n : n ≤ 32) (b0 : Nat) (hblk : s.blk (cls n) = some b0) :
    Calls Try.prog 21 #[.pointer (some ⟨p.h, 0, none⟩), .int .i64 n] w fun e w' =>
      e = .returned (.tuple #[.int .i64 (s.alloc n).1, .int .i64 (s.alloc n).2.1]) ∧ HeapAt w' p (s.alloc n).2.2 ∧ Fr p.mine w w' := by
  obtain ⟨L, clk, cl, hR, hwf, hF, hC, hn1, hn2⟩ := hA
  obtain ⟨hb0, hk0, ⟨j0, hj0⟩, hfirst⟩ := HS.blk_some hblk
  obtain ⟨hj1, hj2, hj3⟩ := HS.slot_some hj0
  obtain ⟨c, hc⟩ : ∃ c, c = cls n := ⟨_, rfl⟩
  have hcls := cls_is n
  rw [← hc] at hblk hk0 hj0 hfirst hj1 hj2 hj3 hcls
  have hcp := hcls.pos
  have hcl := hcls.le
  have hdiv : c * (32 / c) = 32 := hcls.dvd
  obtain ⟨D, hD⟩ : ∃ D, D = 32 / c := ⟨_, rfl⟩
  have hDi : (32 : Int) / (c : Int) = D := by rw [hD]; exact (Int.natCast_ediv 32 c).symm
  obtain ⟨f0, f1, f2⟩ := hF c hcls
  obtain ⟨F, hFe⟩ := Int.eq_ofNat_of_zero_le f0
  have hfr : F ≤ b0 := by
    rcases Nat.lt_or_ge b0 F with h | h
    · have := f2 b0 (by omega) hk0
      have h3 := (HS.slot_isSome hcls hk0).1 (by rw [hj0]; rfl)
      omega
    · exact h
  have hcnt : ∀ b, b < s.n → s.kind b = (c : Int) → (s.cnt b < D ↔ (s.slot c b).isSome = true) := fun b _ hk => by rw [hD]; exact (HS.slot_isSome hcls hk).symm
  have hfull : Hid (∀ b', b' < b0 → s.kind b' = (c : Int) → D ≤ s.cnt b') := fun b' hb' hk' => by
    have h1 := hfirst b' hb' hk'
    have h2 := hcnt b' (by omega) hk'
    rw [h1] at h2
    simp at h2; exact h2
  have hat0 : s.cnt b0 < D := (hcnt b0 hb0 hk0).2 (by rw [hj0]; rfl)
  have FIN : Hid (s.alloc (n : Int) = (1 + 32 * b0 + c * j0, 0, s.takeSlot (1 + 32 * b0 + c * j0))) := by
    show s.alloc (n : Int) = _
    unfold HS.alloc
    rw [if_neg (by omega), if_neg (by omega)]
    simp only [Int.toNat_natCast]
    rw [← hc, hblk]
    simp only [hj0, Option.getD_some]
  have FINAL : Hid (∀ {W w3 : World}, Fr p.mine w W → Raw w3 p s.n s.word s.kind (upd (fun b => (s.cnt b : Int)) b0 ((s.cnt b0 : Int) + 1)) (upd s.used (1 + 32 * b0 + c * j0) true) (put clk (c : Int) (b0 : Int) L) (clkOf L clk (c : Int)) cl → Fr p.mine W w3 →
      (Ending.returned (.tuple #[.int .i64 ((1 + 32 * b0 + c * j0 : Nat) : Int), .int .i64 0]) = .returned (.tuple #[.int .i64 (s.alloc n).1, .int .i64 (s.alloc n).2.1]) ∧ HeapAt w3 p (s.alloc n).2.2 ∧ Fr p.mine w w3)) := by
    intro W w3 hF1 hR3 hF3
    rw [FIN.out]
    refine ⟨rfl, ⟨put clk (c : Int) (b0 : Int) L, clkOf L clk (c : Int), cl, ?_, hwf.takeSlot hcls hk0 hj1, ?_, hC.takeSlot _, hn1, hn2⟩, hF1.trans hF3⟩
    · have e : (fun b => (((s.takeSlot (1 + 32 * b0 + c * j0)).cnt b : Nat) : Int)) = upd (fun b => (s.cnt b : Int)) b0 ((s.cnt b0 : Int) + 1) := by
        funext b'; rw [HS.cnt_takeSlot hwf hcls hk0 (hcls.lt_iff.2 hj1) hj2]; unfold upd; split <;> simp
      show Raw w3 p s.n s.word s.kind (fun b => (((s.takeSlot (1 + 32 * b0 + c * j0)).cnt b : Nat) : Int)) _ _ _ cl
      rw [e]; exact hR3
    · have := hF.takeSlot hwf hcls hk0 (hcls.lt_iff.2 hj1) hj2 (fun b' hb' hk' => by rw [← hD]; exact hfull.out b' hb' hk')
      refine cast (congrArg _ ?_) this
      funext k
      rw [lk_put]
      split <;> rfl
  have hj3 := Lib.hid hj3
  have hclass := fun w => class_any n w h1n h2n
  simp only [← hc] at hclass
  have HCL := Lib.hid hclass
  have HCE := Lib.hid hc
  have HR := Lib.hid hR
  have HFE := Lib.hid hFe
  have HD := Lib.hid hDi
  clear hR hDi hdiv hcnt hfirst hblk hC f0 f2 hclass hc hFe
  go_enter Try.func21, Try.ntmps21
  go_wp2_with fail
  refine (HCL.out _).mono ?_
  rintro e w1 ⟨rfl, hb1⟩
  have hR1 := HR.out.fr (Fr.of_below (S := fun _ => False) hb1) (fun _ _ h => h)
  have hlk := run_lookup_at (P := Try.prog) (T := 123) (z := .int .i64 0) Try.underlying123 Try.underlying3 (zero_int w1) hR1.mp (c : Int)
  have h4 : w1.cell? ⟨p.h, 4, none⟩ = some (.map (some p.mb)) := hR1.st.cell (by omega)
  have h1 : w1.cell? ⟨p.h, 1, none⟩ = some (.slice (some ⟨p.kb, 0, none⟩) s.n s.n) := hR1.st.cell (by omega)
  have h2 : w1.cell? ⟨p.h, 2, none⟩ = some (.slice (some ⟨p.cb, 0, none⟩) s.n s.n) := hR1.st.cell (by omega)
  rw [show (Option.map (Value.int .i64) (lk L c)).getD (.int .i64 0) = .int .i64 F by
    rw [← HFE.out]; cases lk L (c : Int) <;> rfl] at hlk
  go_wp2_with fail
  have HR1 := Lib.hid hR1
  have HLK := Lib.hid hlk
  clear hR1 hlk h4 h1 h2
  go_loopw [7] (fun v wr => ∃ b k : Nat, v = .int .i64 b ∧ wr = w1.drewN k ∧ b ≤ b0) (fun v _ => s.n - (intOf v).toNat)
  case atStart => exact ⟨F, 0, rfl, rfl, hfr⟩
  case round =>
    obtain ⟨b, k, rfl, rfl, hbb⟩ := hrel
    have hRk := HR1.out.drewN k
    obtain ⟨wk, hwk⟩ : ∃ wk, wk = w1.drewN k := ⟨_, rfl⟩
    rw [← hwk] at hRk ⊢
    have HWK := Lib.hid hwk
    clear hwk
    have h4 : wk.cell? ⟨p.h, 4, none⟩ = some (.map (some p.mb)) := hRk.st.cell (by omega)
    have h1 : wk.cell? ⟨p.h, 1, none⟩ = some (.slice (some ⟨p.kb, 0, none⟩) s.n s.n) := hRk.st.cell (by omega)
    have h2 : wk.cell? ⟨p.h, 2, none⟩ = some (.slice (some ⟨p.cb, 0, none⟩) s.n s.n) := hRk.st.cell (by omega)
    have hbn : b < s.n := by omega
    have hk1 := hRk.kd.cell hbn
    have hc1 := hRk.cn.cell hbn
    by_cases hlast : b = b0
    · subst hlast
      rw [hk0] at hk1
      have hat : ((s.cnt b : Nat) : Int) < 32 / (c : Int) := by rw [HD.out]; omega
      have heq : ((c : Int) == (c : Int)) = true := by simp
      have HRK := Lib.hid hRk
      obtain ⟨o, ho⟩ : ∃ o : Obj, o = .map ((put clk (c : Int) (b : Int) L).map (entOf (Value.int .i64))).toArray (clkOf L clk c) := ⟨_, rfl⟩
      have hup : ∀ nq, (Instr.mapUpdate 123 (.map (some p.mb)) (.int .i64 c) (.int .i64 b)).run Try.prog (wk.drewN nq) = .ok () (World.putMap (wk.drewN nq) p.mb o) := fun nq => by
        rw [ho]; exact run_update_at Try.underlying123 Try.underlying3 (hRk.drewN nq).mp (c : Int) (b : Int)
      have HO := Lib.hid ho
      clear hRk ho
      go_wp2_with fail
      go_quiet (fail)
      go_wp2_with fail
      have hR2 : Raw (World.putMap (wk.drewN nq) p.mb o) p s.n s.word s.kind (fun b => (s.cnt b : Int)) s.used (put clk (c : Int) (b : Int) L) (clkOf L clk (c : Int)) cl := by
        rw [HO.out]; exact (HRK.out.drewN nq).putMap (c : Int) (b : Int)
      have hF2 : Fr p.mine w (World.putMap (wk.drewN nq) p.mb o) := by
        rw [HWK.out]
        exact (((Fr.of_below hb1).drewN k).drewN nq).putMap (by simp [HP.mine]) _
      refine (take_raw b c j0 _ hR2 hbn hn2 hcls (hcls.lt_iff.2 hj1) (by omega) (by have := hwf.cnt_le b; omega) hj3.out hj2).mono ?_
      rintro e w3 ⟨rfl, hR3, hF3⟩
      have HAF := FINAL.out hF2 hR3 hF3
      clear hR3 hF3 hR2 hF2
      go_wp2_with fail
      go_ret2
      exact HAF
    · have hlt : b < b0 := by omega
      have hne : (b : Int) + 1 ≤ b0 := by omega
      by_cases hkc : s.kind b = (c : Int)
      · rw [hkc] at hk1
        have hat : 32 / (c : Int) ≤ ((s.cnt b : Nat) : Int) := by rw [HD.out]; have := hfull.out b hlt hkc; omega
        have hat' : decide (((s.cnt b : Nat) : Int) < 32 / (c : Int)) = false := by rw [decide_eq_false_iff_not]; omega
        have HKC := Lib.hid hkc
        clear hRk hkc hk0
        go_wp2_with fail
        go_quiet (fail)
        go_wp2_with fail
        go_roundw
        case rel => exact ⟨b + 1, k + nq, by go_num, by rw [HWK.out]; exact World.drewN_drewN .., by omega⟩
        case measure => simp [intOf]; omega
      · obtain ⟨K, hK⟩ : ∃ K, K = s.kind b := ⟨_, rfl⟩
        rw [← hK] at hk1 hkc
        have hkb : (K == (c : Int)) = false := by simpa using hkc
        have HK := Lib.hid hK
        clear hRk hkc hK hk0
        go_wp2_with fail
        go_quiet (fail)
        go_wp2_with fail
        go_roundw
        case rel => exact ⟨b + 1, k + nq, by go_num, by rw [HWK.out]; exact World.drewN_drewN .., by omega⟩
        case measure => simp [intOf]; omega
end Go.Proofs.Ytjfpijoeddjgmaa

/- The heap: Alloc of a small cell where no block has one free: a new block, or none. Conditions: the heap reads as the plain model says. -/
namespace Go.Proofs.Ytjfpijoeddjgmaa
open Go.RowKit Hm
set_option linter.unusedSimpArgs false
theorem heap_putMap_same (w : World) (b : Nat) (o : Obj) (h : b < w.heap.size) : (World.putMap w b o).heap[b]? = some o := by
  simp [World.putMap, h]
theorem putMap_putMap (w : World) (b : Nat) (o o' : Obj) : World.putMap (World.putMap w b o) b o' = World.putMap w b o' := by
  simp [World.putMap]
set_option maxRecDepth 100000 in
set_option maxHeartbeats 1000000 in
theorem allocBC {p : HP} {s : HS} (n : Nat) (w : World) (hA : HeapAt w p s) (h1n : 1 ≤ n) (h2n : n ≤ 32) (hblk : s.blk (cls n) = none) :
    Calls Try.prog 21 #[.pointer (some ⟨p.h, 0, none⟩), .int .i64 n] w fun e w' =>
      e = .returned (.tuple #[.int .i64 (s.alloc n).1, .int .i64 (s.alloc n).2.1]) ∧ HeapAt w' p (s.alloc n).2.2 ∧ Fr p.mine w w' := by
  obtain ⟨L, clk, cl, hR, hwf, hF, hC, hn1, hn2⟩ := hA
  obtain ⟨c, hc⟩ : ∃ c, c = cls n := ⟨_, rfl⟩
  have hcls := cls_is n
  rw [← hc] at hblk hcls
  have hcp := hcls.pos
  have hcl := hcls.le
  have hdiv : c * (32 / c) = 32 := hcls.dvd
  obtain ⟨D, hD⟩ : ∃ D, D = 32 / c := ⟨_, rfl⟩
  have hDi : (32 : Int) / (c : Int) = D := by rw [hD]; exact (Int.natCast_ediv 32 c).symm
  obtain ⟨f0, f1, f2⟩ := hF c hcls
  obtain ⟨F, hFe⟩ := Int.eq_ofNat_of_zero_le f0
  have hfr : F ≤ s.n := by omega
  have hcnt : ∀ b, b < s.n → s.kind b = (c : Int) → (s.cnt b < D ↔ (s.slot c b).isSome = true) := fun b _ hk => by rw [hD]; exact (HS.slot_isSome hcls hk).symm
  have hfull0 : ∀ b', b' < s.n → s.kind b' = (c : Int) → 32 / c ≤ s.cnt b' := fun b' hb' hk' => by
    have h1 := HS.blk_none hblk b' hb' hk'
    have h2 := hcnt b' hb' hk'
    rw [h1] at h2
    simp at h2; omega
  have hfull := Lib.hid hfull0
  have FINB : Hid (∀ {W : World}, s.run 1 = none → Raw W p s.n s.word s.kind (fun b => (s.cnt b : Int)) s.used (put clk (c : Int) (s.n : Int) L) (clkOf L clk (c : Int)) cl → Fr p.mine w W →
      (Ending.returned (.tuple #[.int .i64 0, .int .i64 9]) = .returned (.tuple #[.int .i64 (s.alloc n).1, .int .i64 (s.alloc n).2.1]) ∧ HeapAt W p (s.alloc n).2.2 ∧ Fr p.mine w W)) := by
    intro W hr hR3 hF3
    have ha : s.alloc (n : Int) = (0, 9, s) := by
      unfold HS.alloc
      rw [if_neg (by omega), if_neg (by omega)]
      simp only [Int.toNat_natCast]
      rw [← hc, hblk]
      simp only [hr]
    rw [ha]
    refine ⟨rfl, ⟨put clk (c : Int) (s.n : Int) L, clkOf L clk (c : Int), cl, hR3, hwf, ?_, hC, hn1, hn2⟩, hF3⟩
    have := hF.none hcls hfull0
    refine cast (congrArg _ ?_) this
    funext k
    rw [lk_put]
    split <;> rfl
  have FINC : Hid (∀ {W w7 : World} {b1 : Nat}, s.run 1 = some b1 → Fr p.mine w W → Raw w7 p s.n s.word (upd s.kind b1 (c : Int)) (upd (fun b => (s.cnt b : Int)) b1 ((s.cnt b1 : Int) + 1)) (upd s.used (1 + 32 * b1 + c * 0) true) (put (clkOf L clk (c : Int)) (c : Int) (b1 : Int) (put clk (c : Int) (s.n : Int) L)) (clkOf (put clk (c : Int) (s.n : Int) L) (clkOf L clk (c : Int)) (c : Int)) (b1 : Int) → Fr p.mine W w7 →
      (Ending.returned (.tuple #[.int .i64 ((1 + 32 * b1 + c * 0 : Nat) : Int), .int .i64 0]) = .returned (.tuple #[.int .i64 (s.alloc n).1, .int .i64 (s.alloc n).2.1]) ∧ HeapAt w7 p (s.alloc n).2.2 ∧ Fr p.mine w w7)) := by
    intro W w7 b1 hr hF1 hR7 hF7
    have ha : s.alloc (n : Int) = (1 + 32 * b1, 0, s.takeNew b1 c) := by
      unfold HS.alloc
      rw [if_neg (by omega), if_neg (by omega)]
      simp only [Int.toNat_natCast]
      rw [← hc, hblk]
      simp only [hr]
    have hb1n := HS.run_some hr
    have hb1k : s.kind b1 = 0 := by simpa using HS.run_free hr 0 (by omega)
    rw [ha, Nat.mul_zero, Nat.add_zero] at *
    refine ⟨rfl, ⟨put (clkOf L clk (c : Int)) (c : Int) (b1 : Int) (put clk (c : Int) (s.n : Int) L), clkOf (put clk (c : Int) (s.n : Int) L) (clkOf L clk (c : Int)) (c : Int), (b1 : Int), ?_, hwf.takeNew hcls (by omega) hb1k, ?_, HS.HintC.takeNew hcls (by omega) (fun b' hb' => ?_), hn1, hn2⟩, hF1.trans hF7⟩
    · have e : (fun b => (((s.takeNew b1 c).cnt b : Nat) : Int)) = upd (fun b => (s.cnt b : Int)) b1 ((s.cnt b1 : Int) + 1) := by
        funext b'; rw [HS.cnt_takeNew hwf hcls hb1k]; unfold upd; split
        · rw [HS.WF.cnt_free (s := s) (.inl hb1k)]; rfl
        · rfl
      show Raw w7 p s.n s.word (s.takeNew b1 c).kind (fun b => (((s.takeNew b1 c).cnt b : Nat) : Int)) _ _ _ _
      rw [e]; exact hR7
    · have := hF.takeNew hwf hcls (by omega) hb1k hfull0
      refine cast (congrArg _ ?_) this
      funext k
      rw [lk_put, lk_put]
      split <;> rfl
    · obtain ⟨i, hi, hk⟩ := HS.run_first hr b' hb'
      have : i = 0 := by omega
      subst this; simpa using hk
  have HC := Lib.hid hC
  have HBLK := Lib.hid hblk
  clear hblk hC
  have hclass := fun w => class_any n w h1n h2n
  simp only [← hc] at hclass
  have HCL := Lib.hid hclass
  have HCE := Lib.hid hc
  have HR := Lib.hid hR
  have HFE := Lib.hid hFe
  have HD := Lib.hid hDi
  clear hR hDi hdiv hcnt f0 f2 hclass hc hFe hfull0
  go_enter Try.func21, Try.ntmps21
  go_wp2_with fail
  refine (HCL.out _).mono ?_
  rintro e w1 ⟨rfl, hb1⟩
  have hR1 := HR.out.fr (Fr.of_below (S := fun _ => False) hb1) (fun _ _ h => h)
  have hlk := run_lookup_at (P := Try.prog) (T := 123) (z := .int .i64 0) Try.underlying123 Try.underlying3 (zero_int w1) hR1.mp (c : Int)
  have h4 : w1.cell? ⟨p.h, 4, none⟩ = some (.map (some p.mb)) := hR1.st.cell (by omega)
  have h1 : w1.cell? ⟨p.h, 1, none⟩ = some (.slice (some ⟨p.kb, 0, none⟩) s.n s.n) := hR1.st.cell (by omega)
  have h2 : w1.cell? ⟨p.h, 2, none⟩ = some (.slice (some ⟨p.cb, 0, none⟩) s.n s.n) := hR1.st.cell (by omega)
  rw [show (Option.map (Value.int .i64) (lk L c)).getD (.int .i64 0) = .int .i64 F by
    rw [← HFE.out]; cases lk L (c : Int) <;> rfl] at hlk
  go_wp2_with fail
  have HR1 := Lib.hid hR1
  have HLK := Lib.hid hlk
  clear hR1 hlk h4 h1 h2
  go_loopw [7] (fun v wr => ∃ b k : Nat, v = .int .i64 b ∧ wr = w1.drewN k ∧ b ≤ s.n) (fun v _ => s.n - (intOf v).toNat)
  case atStart => exact ⟨F, 0, rfl, rfl, hfr⟩
  case round =>
    obtain ⟨b, k, rfl, rfl, hbb⟩ := hrel
    have hRk := HR1.out.drewN k
    obtain ⟨wk, hwk⟩ : ∃ wk, wk = w1.drewN k := ⟨_, rfl⟩
    rw [← hwk] at hRk ⊢
    have HWK := Lib.hid hwk
    clear hwk
    have h4 : wk.cell? ⟨p.h, 4, none⟩ = some (.map (some p.mb)) := hRk.st.cell (by omega)
    have h1 : wk.cell? ⟨p.h, 1, none⟩ = some (.slice (some ⟨p.kb, 0, none⟩) s.n s.n) := hRk.st.cell (by omega)
    have h2 : wk.cell? ⟨p.h, 2, none⟩ = some (.slice (some ⟨p.cb, 0, none⟩) s.n s.n) := hRk.st.cell (by omega)
    by_cases hbn : b < s.n
    · have hk1 := hRk.kd.cell hbn
      have hc1 := hRk.cn.cell hbn
      by_cases hkc : s.kind b = (c : Int)
      · rw [hkc] at hk1
        have hat : 32 / (c : Int) ≤ ((s.cnt b : Nat) : Int) := by rw [HD.out]; have := hfull.out b hbn hkc; omega
        have hat' : decide (((s.cnt b : Nat) : Int) < 32 / (c : Int)) = false := by rw [decide_eq_false_iff_not]; omega
        have HKC := Lib.hid hkc
        have HRK := Lib.hid hRk
        clear hRk hkc
        go_wp2_with fail
        go_quiet (fail)
        go_wp2_with fail
        go_roundw
        case rel => exact ⟨b + 1, k + nq, by go_num, by rw [HWK.out]; exact World.drewN_drewN .., by omega⟩
        case measure => simp [intOf]; omega
      · obtain ⟨K, hK⟩ : ∃ K, K = s.kind b := ⟨_, rfl⟩
        rw [← hK] at hk1 hkc
        have hkb : (K == (c : Int)) = false := by simpa using hkc
        have HK := Lib.hid hK
        clear hRk hkc hK
        go_wp2_with fail
        go_quiet (fail)
        go_wp2_with fail
        go_roundw
        case rel => exact ⟨b + 1, k + nq, by go_num, by rw [HWK.out]; exact World.drewN_drewN .., by omega⟩
        case measure => simp [intOf]; omega
    · have HRK := Lib.hid hRk
      obtain ⟨o, ho⟩ : ∃ o : Obj, o = .map ((put clk (c : Int) (s.n : Int) L).map (entOf (Value.int .i64))).toArray (clkOf L clk c) := ⟨_, rfl⟩
      have hup : (Instr.mapUpdate 123 (.map (some p.mb)) (.int .i64 c) (.int .i64 (s.n : Int))).run Try.prog wk.drew = .ok () (World.putMap wk.drew p.mb o) := by
        rw [ho]; exact run_update_at Try.underlying123 Try.underlying3 hRk.drew.mp (c : Int) (s.n : Int)
      have HO := Lib.hid ho
      clear hRk ho
      go_wp2_with fail
      go_still_tail 10, (by kernel_rfl)
      change wpList _ _ _ _ _ wk.drew
      go_wp2_with fail
      have hR2 : Raw (World.putMap wk.drew p.mb o) p s.n s.word s.kind (fun b => (s.cnt b : Int)) s.used (put clk (c : Int) (s.n : Int) L) (clkOf L clk (c : Int)) cl := by
        rw [HO.out]; exact HRK.out.drew.putMap (c : Int) (s.n : Int)
      have hF2 : Fr p.mine w (World.putMap wk.drew p.mb o) := by
        rw [HWK.out]
        exact (((Fr.of_below hb1).drewN k).drew).putMap (by simp [HP.mine]) _
      obtain ⟨w2, hw2⟩ : ∃ w2, w2 = World.putMap wk.drew p.mb o := ⟨_, rfl⟩
      rw [← hw2] at hR2 hF2
      refine (run_any (k := 1) _ (by rw [← hw2]; exact hR2) HC.out hn2 (by omega) (by omega)).mono ?_
      rw [← hw2]
      clear hw2 hup HO HWK HRK h4 h1 h2
      have HR2 := Lib.hid hR2
      have HF2 := Lib.hid hF2
      cases hr : s.run 1 with
      | none =>
        have hri : runInt s 1 = -1 := by unfold runInt; rw [hr]
        rw [hri]
        have HAF := FINB.out hr hR2 hF2
        clear hr hri hR2 hF2
        rintro e w3 ⟨rfl, rfl⟩
        go_wp2_with fail
        go_ret2
        exact HAF
      | some b1 =>
        have hri : runInt s 1 = (b1 : Int) := by unfold runInt; rw [hr]
        have hb1n := HS.run_some hr
        have hb1k : s.kind b1 = 0 := by simpa using HS.run_free hr 0 (by omega)
        rw [hri]
        have h4 : w2.cell? ⟨p.h, 4, none⟩ = some (.map (some p.mb)) := hR2.st.cell (by omega)
        have h1 : w2.cell? ⟨p.h, 1, none⟩ = some (.slice (some ⟨p.kb, 0, none⟩) s.n s.n) := hR2.st.cell (by omega)
        have hk1 := hR2.kd.cell (i := b1) (by omega)
        have hfk := hR2.kd.frozen b1
        have hR3 := (hR2.setKind b1 (c : Int)).drew
        have hme := run_entry_at (P := Try.prog) (T := 123) (z := (0 : Int)) Try.underlying123 Try.underlying3 (zero_int _) hR3.mp (c : Int)
        have hes := fun w hb => run_entryStore_at (P := Try.prog) (T := 123) (w := w) (b := p.mb) (z := (0 : Int)) (c' := clkOf (put clk (c : Int) (s.n : Int) L) (clkOf L clk (c : Int)) (c : Int)) (c : Int) (b1 : Int) (vf := Value.int .i64) hb hR3.mp.borns hR3.mp.lt
        obtain ⟨w4, hw4⟩ : ∃ w4, w4 = World.putMap (w2.setCell ⟨p.kb, b1, none⟩ (.int .i64 c)).drew p.mb (.map ((made (0 : Int) (put clk (c : Int) (s.n : Int) L) (clkOf L clk (c : Int)) (c : Int)).map (entOf (Value.int .i64))).toArray (clkOf (put clk (c : Int) (s.n : Int) L) (clkOf L clk (c : Int)) (c : Int))) := ⟨_, rfl⟩
        rw [← hw4] at hme
        have hes := hes w4 (by rw [hw4]; exact heap_putMap_same _ _ _ hR3.mp.blk_lt)
        obtain ⟨w5, hw5⟩ : ∃ w5, w5 = World.putMap w4 p.mb (.map ((put (clkOf L clk (c : Int)) (c : Int) (b1 : Int) (put clk (c : Int) (s.n : Int) L)).map (entOf (Value.int .i64))).toArray (clkOf (put clk (c : Int) (s.n : Int) L) (clkOf L clk (c : Int)) (c : Int))) := ⟨_, rfl⟩
        rw [← hw5] at hes
        have hR5 : Raw w5 p s.n s.word (upd s.kind b1 (c : Int)) (fun b => (s.cnt b : Int)) s.used (put (clkOf L clk (c : Int)) (c : Int) (b1 : Int) (put clk (c : Int) (s.n : Int) L)) (clkOf (put clk (c : Int) (s.n : Int) L) (clkOf L clk (c : Int)) (c : Int)) cl := by
          have h := hR3.putMap (c : Int) (b1 : Int)
          have e : w5 = World.putMap (w2.setCell ⟨p.kb, b1, none⟩ (.int .i64 c)).drew p.mb (.map ((put (clkOf L clk (c : Int)) (c : Int) (b1 : Int) (put clk (c : Int) (s.n : Int) L)).map (entOf (Value.int .i64))).toArray (clkOf (put clk (c : Int) (s.n : Int) L) (clkOf L clk (c : Int)) (c : Int))) := by
            rw [hw5, hw4]; exact putMap_putMap _ _ _ _
          rw [e]; exact h
        have hF5 : Fr p.mine w w5 := by
          rw [hw5, hw4]
          exact ((((hF2.setCell (by simp [HP.mine]) _).drew).putMap (by simp [HP.mine]) _).putMap (by simp [HP.mine]) _)
        obtain ⟨V, hV⟩ : ∃ V : Int, V = (lk (put clk (c : Int) (s.n : Int) L) (c : Int)).getD 0 := ⟨_, rfl⟩
        obtain ⟨ST, hST⟩ : ∃ ST : Nat, ST = stampOf (put clk (c : Int) (s.n : Int) L) (clkOf L clk (c : Int)) (c : Int) := ⟨_, rfl⟩
        rw [← hV, ← hST] at hme
        rw [← hST] at hes
        have hcl5 : w5.cell? ⟨p.h, 5, none⟩ = some (.int .i64 cl) := hR5.st.cell (by omega)
        have hfz5 : w5.frozen? ⟨p.h, 5, none⟩ = false := hR5.st.frozen 5
        have hbb1 : b1 < s.n := by omega
        have HR5 := Lib.hid hR5
        have HF5 := Lib.hid hF5
        have HRUN1 := Lib.hid hr
        clear hw4 hw5 hV hST hR5 hF5 hR2 hF2 hR3 hri hb1n hr
        have HB1K := Lib.hid hb1k
        clear hb1k
        rintro e w3 ⟨rfl, rfl⟩
        go_wp2_with fail
        go_region
        have hR6 := HR5.out.setClear (b1 : Int)
        have hF6 : Fr p.mine w (w5.setCell ⟨p.h, 5, none⟩ (.int .i64 b1)) := HF5.out.setCell (by simp [HP.mine]) _
        go_wp2_with fail
        refine (take_raw b1 c 0 _ hR6 hbb1 hn2 hcls (by omega) (by omega) (by have := hwf.cnt_le b1; omega) (fun j hj => by omega) (hwf.unused (.inl HB1K.out) (by omega))).mono ?_
        rintro e w7 ⟨rfl, hR7, hF7⟩
        have HAF := FINC.out HRUN1.out hF6 hR7 hF7
        clear hR6 hF6 hR7 hF7
        go_wp2_with fail
        go_ret2
        exact HAF
end Go.Proofs.Ytjfpijoeddjgmaa

/- The heap: Alloc, for every number; of no heap too. Conditions: the heap reads as the plain model says. -/
namespace Go.Proofs.Ytjfpijoeddjgmaa
open Go.RowKit Hm
set_option maxRecDepth 100000 in
set_option maxHeartbeats 400000 in
theorem alloc_any {p : HP} {s : HS} (n : Int) (w : World) (hA : HeapAt w p s) :
    Calls Try.prog 21 #[.pointer (some ⟨p.h, 0, none⟩), .int .i64 n] w fun e w' =>
      e = .returned (.tuple #[.int .i64 (s.alloc n).1, .int .i64 (s.alloc n).2.1]) ∧ HeapAt w' p (s.alloc n).2.2 ∧ Fr p.mine w w' := by
  by_cases hbad : n < 1 ∨ 64 < n
  · have ha : Hid (s.alloc n = (0, 1, s)) := by show s.alloc n = _; unfold HS.alloc; rw [if_pos hbad]
    rcases hbad with hb | hb
    · go_enter Try.func21, Try.ntmps21
      go_wp2
      go_ret2
      rw [ha.out]
      exact ⟨rfl, hA, Fr.refl _ _⟩
    · go_enter Try.func21, Try.ntmps21
      go_wp2
      go_ret2
      rw [ha.out]
      exact ⟨rfl, hA, Fr.refl _ _⟩
  · have hn1 : 1 ≤ n := by omega
    have hn2 : n ≤ 64 := by omega
    clear hbad
    by_cases hl : 32 < n
    · have hd : Hid ((n + 32 - 1) / 32 = 2) := by show (n + 32 - 1) / 32 = 2; omega
      have hL := large_any w hA
      have e : s.alloc 64 = s.alloc n := by
        unfold HS.alloc
        simp only [show ¬ ((64 : Int) < 1 ∨ (64 : Int) < 64) by omega, show ¬ (n < 1 ∨ 64 < n) by omega, show (32 : Int) < 64 by omega, hl, if_true, if_false]
      rw [e] at hL
      have HL := Lib.hid hL
      clear hL e hA
      go_enter Try.func21, Try.ntmps21
      go_wp2_with fail
      rw [hd.out]
      refine HL.out.mono ?_
      rintro e w1 ⟨rfl, hA1, hF1⟩
      go_wp2
      go_ret2
      exact ⟨rfl, hA1, hF1⟩
    · obtain ⟨m, rfl⟩ := Int.eq_ofNat_of_zero_le (show 0 ≤ n by omega)
      cases hb : s.blk (cls m) with
      | none => exact allocBC m w hA (by omega) (by omega) hb
      | some b0 => exact allocA m w hA (by omega) (by omega) b0 hb

theorem allocNil (n : Int) (w : World) : Calls Try.prog 21 #[.pointer none, .int .i64 n] w fun e w' => e = .returned (.tuple #[.int .i64 0, .int .i64 1]) ∧ w = w' := by
  go_enter Try.func21, Try.ntmps21
  go_wp2
  go_ret2
  exact ⟨rfl, rfl⟩
theorem capNil (a : Int) (w : World) : Calls Try.prog 22 #[.pointer none, .int .i64 a] w fun e w' => e = .returned (.int .i64 0) ∧ w = w' := by
  go_enter Try.func22, Try.ntmps22
  go_wp2
  go_ret
  exact ⟨rfl, rfl⟩
end Go.Proofs.Ytjfpijoeddjgmaa
