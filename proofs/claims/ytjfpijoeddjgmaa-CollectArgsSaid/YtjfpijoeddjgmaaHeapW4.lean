/- The heap: a large cell is taken: the first two free blocks. Conditions: the heap reads as the plain model says. -/
import Derived.Test.YtjfpijoeddjgmaaHeapW3
import Derived.Test.YtjfpijoeddjgmaaReg
import Derived.Test.YtjfpijoeddjgmaaHm2
import Derived.Deep.DeepCutAuto
import Derived.KernelRfl
namespace Go.Proofs.Ytjfpijoeddjgmaa
open Go.RowKit Hm
set_option linter.unusedSimpArgs false

def Vlarge (hp kb cb ub b n : Nat) : Nat → Value
  | 0 => .pointer (some ⟨hp, 0, none⟩)
  | 1 => .pointer (some ⟨hp, 0, none⟩)
  | 2 => .pointer (some ⟨hp, 1, none⟩)
  | 3 => .slice (some ⟨kb, 0, none⟩) n n
  | 4 => .int .i64 b
  | 5 => .pointer (some ⟨hp, 0, none⟩)
  | 6 => .pointer (some ⟨hp, 0, none⟩)
  | 7 => .pointer (some ⟨hp, 2, none⟩)
  | 8 => .slice (some ⟨cb, 0, none⟩) n n
  | 9 => .int .i64 b
  | 10 => .pointer (some ⟨hp, 0, none⟩)
  | 11 => .pointer (some ⟨hp, 0, none⟩)
  | 12 => .pointer (some ⟨hp, 3, none⟩)
  | 13 => .slice (some ⟨ub, 0, none⟩) (1 + 32 * n) (1 + 32 * n)
  | 14 => .int .i64 b
  | 15 => .int .i64 (1 + b * 32)
  | 16 => .pointer (some ⟨kb, b, none⟩)
  | 18 => .pointer (some ⟨cb, b, none⟩)
  | 20 => .pointer (some ⟨ub, 1 + b * 32, none⟩)
  | _ => undef
def Wlarge (w : World) (kb cb ub b : Nat) (x y z : Bool) : World :=
  let w1 := if x then w.setCell ⟨kb, b, none⟩ (.int .i64 (-1)) else w
  let w2 := if y then w1.setCell ⟨cb, b, none⟩ (.int .i64 1) else w1
  if z then w2.setCell ⟨ub, 1 + b * 32, none⟩ (.bool true) else w2

set_option maxHeartbeats 1000000 in
theorem large_any {p : HP} {s : HS} (w : World) (hA : HeapAt w p s) :
    Calls Try.prog 61 #[.pointer (some ⟨p.h, 0, none⟩), .int .i64 2] w fun e w' =>
      e = .returned (.tuple #[.int .i64 (s.alloc 64).1, .int .i64 (s.alloc 64).2.1]) ∧ HeapAt w' p (s.alloc 64).2.2 ∧ Fr p.mine w w' := by
  obtain ⟨L, clk, cl, hR, hwf, hF, hC, hn1, hn2⟩ := hA
  have hrun := fun w hR => run_any (p := p) (s := s) (wd := s.word) (cn := fun b => (s.cnt b : Int)) (us := s.used) (L := L) (clk := clk) (cl := cl) 2 w hR hC hn2 (by omega) (by omega)
  simp only [Int.cast_ofNat_Int] at hrun
  have HRUN := Lib.hid hrun
  have HR := Lib.hid hR
  clear hrun
  have h1 : w.cell? ⟨p.h, 1, none⟩ = some (.slice (some ⟨p.kb, 0, none⟩) s.n s.n) := hR.st.cell (by omega)
  have h2 : w.cell? ⟨p.h, 2, none⟩ = some (.slice (some ⟨p.cb, 0, none⟩) s.n s.n) := hR.st.cell (by omega)
  have h3 : w.cell? ⟨p.h, 3, none⟩ = some (.slice (some ⟨p.ub, 0, none⟩) (1 + 32 * s.n) (1 + 32 * s.n)) := hR.st.cell (by omega)
  cases hr : s.run 2 with
  | none =>
    have hri : runInt s 2 = -1 := by unfold runInt; rw [hr]
    rw [hri] at HRUN
    have ha : Hid (s.alloc 64 = (0, 9, s)) := by
      show s.alloc 64 = (0, 9, s)
      unfold HS.alloc; rw [if_neg (by omega), if_pos (by omega), hr]
    have HA : Hid (HeapAt w p s) := ⟨L, clk, cl, hR, hwf, hF, hC, hn1, hn2⟩
    clear hR hwf hF hC hr hri
    go_enter Try.func61, Try.ntmps61
    go_wp2_with (first | (go_at_call 64; refine (HRUN.out _ HR.out).mono ?_; rintro e w' ⟨rfl, rfl⟩))
    go_ret2
    rw [ha.out]
    exact ⟨rfl, HA.out, Fr.refl _ _⟩
  | some b =>
    have hbn := HS.run_some hr
    have hri : runInt s 2 = (b : Int) := by unfold runInt; rw [hr]
    rw [hri] at HRUN
    have FIN : Hid ((Ending.returned (.tuple #[.int .i64 (1 + (b : Int) * 32), .int .i64 0]) = .returned (.tuple #[.int .i64 (s.alloc 64).1, .int .i64 (s.alloc 64).2.1])) ∧ HeapAt ((((w.drew.setCell ⟨p.kb, b, none⟩ (.int .i64 (-1))).setCell ⟨p.cb, b, none⟩ (.int .i64 1)).setCell ⟨p.ub, 1 + b * 32, none⟩ (.bool true)).setCell ⟨p.kb, b + 1, none⟩ (.int .i64 (-2))) p (s.alloc 64).2.2 ∧
        Fr p.mine w ((((w.drew.setCell ⟨p.kb, b, none⟩ (.int .i64 (-1))).setCell ⟨p.cb, b, none⟩ (.int .i64 1)).setCell ⟨p.ub, 1 + b * 32, none⟩ (.bool true)).setCell ⟨p.kb, b + 1, none⟩ (.int .i64 (-2)))) := by
      have ha : s.alloc 64 = (1 + 32 * b, 0, s.takeLarge b) := by unfold HS.alloc; rw [if_neg (by omega), if_pos (by omega), hr]
      rw [ha]
      have hk0 := HS.run_free hr 0 (by omega)
      have hk1 := HS.run_free hr 1 (by omega)
      have hbn' := HS.run_some hr
      rw [show 1 + b * 32 = 1 + 32 * b by omega]
      refine ⟨by show Ending.returned (.tuple #[.int .i64 (1 + (b : Int) * 32), .int .i64 0]) = .returned (.tuple #[.int .i64 ((1 + 32 * b : Nat) : Int), .int .i64 0]); rw [show ((1 + 32 * b : Nat) : Int) = 1 + (b : Int) * 32 by omega], ⟨L, clk, cl, ?_, hwf.takeLarge (by omega) (by simpa using hk0) hk1, hF.takeLarge hwf hk1, hC.takeLarge b, hn1, hn2⟩, ?_⟩
      · have h := (((hR.drew.setKind b (-1)).setCnt b 1).setUsed (1 + 32 * b) true).setKind (b + 1) (-2)
        have hc : (fun b' => ((s.takeLarge b).cnt b' : Int)) = upd (fun b' => (s.cnt b' : Int)) b 1 := by
          funext b'; rw [HS.cnt_takeLarge hwf hk1]; unfold upd; split <;> rfl
        show Raw _ p s.n s.word (s.takeLarge b).kind (fun b' => ((s.takeLarge b).cnt b' : Int)) (s.takeLarge b).used L clk cl
        rw [hc]
        exact h
      · exact (((((Fr.refl _ w).drew.setCell (by simp [HP.mine]) _).setCell (by simp [HP.mine]) _).setCell (by simp [HP.mine]) _).setCell (by simp [HP.mine]) _)
    have f1 := hR.kd.frozen
    have f2 := hR.cn.frozen
    have f3 := hR.us.frozen
    have k0 := hR.kd.cell (i := b) (by omega)
    have k1 := hR.kd.cell (i := b + 1) (by omega)
    have c0 := hR.cn.cell (i := b) (by omega)
    have u0 := hR.us.cell (i := 1 + b * 32) (by omega)
    have n1 := hR.ok.k1
    have n2 := hR.ok.k2
    have n3 := hR.ok.c1
    have n4 := hR.ok.h2
    have n5 := hR.ok.h3
    have n6 := hR.ok.h4
    have hb1 : b + 1 < s.n := by omega
    have hb0 : b < s.n := by omega
    have hb2 : b * 32 < 32 * s.n := by omega
    clear hR hbn hri hr hF hC hwf
    go_enter Try.func61, Try.ntmps61
    go_wp2_with (first | (go_at_call 64; refine (HRUN.out _ HR.out).mono ?_; rintro e w' ⟨rfl, rfl⟩))
    have hw1 : ∀ x y z, (Wlarge w.drew p.kb p.cb p.ub b x y z).cell? ⟨p.h, 1, none⟩ = some (.slice (some ⟨p.kb, 0, none⟩) s.n s.n) := by
      intro x y z; cases x <;> cases y <;> cases z <;> simp [Wlarge, h1, World.cell?_setCell_other, n4.symm, n5.symm, n6.symm]
    have hw2 : ∀ x y z, (Wlarge w.drew p.kb p.cb p.ub b x y z).cell? ⟨p.h, 2, none⟩ = some (.slice (some ⟨p.cb, 0, none⟩) s.n s.n) := by
      intro x y z; cases x <;> cases y <;> cases z <;> simp [Wlarge, h2, World.cell?_setCell_other, n4.symm, n5.symm, n6.symm]
    have hw3 : ∀ x y z, (Wlarge w.drew p.kb p.cb p.ub b x y z).cell? ⟨p.h, 3, none⟩ = some (.slice (some ⟨p.ub, 0, none⟩) (1 + 32 * s.n) (1 + 32 * s.n)) := by
      intro x y z; cases x <;> cases y <;> cases z <;> simp [Wlarge, h3, World.cell?_setCell_other, n4.symm, n5.symm, n6.symm]
    refine wp_region_inv (n := 47) rfl rfl (by kernel_rfl) (fun j v _ => v = Vlarge p.h p.kb p.cb p.ub b s.n j) (fun D w' => w' = Wlarge w.drew p.kb p.cb p.ub b (D 17) (D 19) (D 21)) rfl ?step ?fin
    case step =>
      intro i o ho D a w' hF hJ hDi hdep
      match i, ho with
      | 0, ho =>
        obtain rfl := Option.some.inj ho
        have d0 := hF.out 0 (by rfl); simp only [Array.getD_eq_getD_getElem?, List.getElem?_toArray, List.getElem?_cons_succ, List.getElem?_cons_zero, Option.getD_some] at d0
        subst hJ
        go_simp
        exact RegPost.mk _ rfl (fun _ _ _ h => h) (by simp [upd])
      | 1, ho =>
        obtain rfl := Option.some.inj ho
        have d13 := hF.mine 0 _ _ rfl rfl (hdep ⟨0, .data⟩ (by simp) rfl); simp only [Vlarge] at d13
        subst hJ
        go_simp
        exact RegPost.mk _ rfl (fun _ _ _ h => h) (by simp [upd])
      | 2, ho =>
        obtain rfl := Option.some.inj ho
        have d14 := hF.mine 1 _ _ rfl rfl (hdep ⟨1, .data⟩ (by simp) rfl); simp only [Vlarge] at d14
        subst hJ
        go_simp
        exact RegPost.mk _ rfl (fun _ _ _ h => h) (by simp [upd])
      | 3, ho =>
        obtain rfl := Option.some.inj ho
        have d15 := hF.mine 2 _ _ rfl rfl (hdep ⟨2, .data⟩ (by simp) rfl); simp only [Vlarge] at d15
        subst hJ
        go_simp
        exact RegPost.mk _ rfl (fun _ _ _ h => h) (by simp [upd])
      | 4, ho =>
        obtain rfl := Option.some.inj ho
        have d6 := hF.out 6 (by rfl); simp only [Array.getD_eq_getD_getElem?, List.getElem?_toArray, List.getElem?_cons_succ, List.getElem?_cons_zero, Option.getD_some] at d6
        subst hJ
        go_simp
        exact RegPost.mk _ rfl (fun _ _ _ h => h) (by simp [upd])
      | 5, ho =>
        obtain rfl := Option.some.inj ho
        have d0 := hF.out 0 (by rfl); simp only [Array.getD_eq_getD_getElem?, List.getElem?_toArray, List.getElem?_cons_succ, List.getElem?_cons_zero, Option.getD_some] at d0
        subst hJ
        go_simp
        exact RegPost.mk _ rfl (fun _ _ _ h => h) (by simp [upd])
      | 6, ho =>
        obtain rfl := Option.some.inj ho
        have d18 := hF.mine 5 _ _ rfl rfl (hdep ⟨5, .data⟩ (by simp) rfl); simp only [Vlarge] at d18
        subst hJ
        go_simp
        exact RegPost.mk _ rfl (fun _ _ _ h => h) (by simp [upd])
      | 7, ho =>
        obtain rfl := Option.some.inj ho
        have d19 := hF.mine 6 _ _ rfl rfl (hdep ⟨6, .data⟩ (by simp) rfl); simp only [Vlarge] at d19
        subst hJ
        go_simp
        exact RegPost.mk _ rfl (fun _ _ _ h => h) (by simp [upd])
      | 8, ho =>
        obtain rfl := Option.some.inj ho
        have d20 := hF.mine 7 _ _ rfl rfl (hdep ⟨7, .data⟩ (by simp) rfl); simp only [Vlarge] at d20
        subst hJ
        go_simp
        exact RegPost.mk _ rfl (fun _ _ _ h => h) (by simp [upd])
      | 9, ho =>
        obtain rfl := Option.some.inj ho
        have d6 := hF.out 6 (by rfl); simp only [Array.getD_eq_getD_getElem?, List.getElem?_toArray, List.getElem?_cons_succ, List.getElem?_cons_zero, Option.getD_some] at d6
        subst hJ
        go_simp
        exact RegPost.mk _ rfl (fun _ _ _ h => h) (by simp [upd])
      | 10, ho =>
        obtain rfl := Option.some.inj ho
        have d0 := hF.out 0 (by rfl); simp only [Array.getD_eq_getD_getElem?, List.getElem?_toArray, List.getElem?_cons_succ, List.getElem?_cons_zero, Option.getD_some] at d0
        subst hJ
        go_simp
        exact RegPost.mk _ rfl (fun _ _ _ h => h) (by simp [upd])
      | 11, ho =>
        obtain rfl := Option.some.inj ho
        have d23 := hF.mine 10 _ _ rfl rfl (hdep ⟨10, .data⟩ (by simp) rfl); simp only [Vlarge] at d23
        subst hJ
        go_simp
        exact RegPost.mk _ rfl (fun _ _ _ h => h) (by simp [upd])
      | 12, ho =>
        obtain rfl := Option.some.inj ho
        have d24 := hF.mine 11 _ _ rfl rfl (hdep ⟨11, .data⟩ (by simp) rfl); simp only [Vlarge] at d24
        subst hJ
        go_simp
        exact RegPost.mk _ rfl (fun _ _ _ h => h) (by simp [upd])
      | 13, ho =>
        obtain rfl := Option.some.inj ho
        have d25 := hF.mine 12 _ _ rfl rfl (hdep ⟨12, .data⟩ (by simp) rfl); simp only [Vlarge] at d25
        subst hJ
        go_simp
        exact RegPost.mk _ rfl (fun _ _ _ h => h) (by simp [upd])
      | 14, ho =>
        obtain rfl := Option.some.inj ho
        have d6 := hF.out 6 (by rfl); simp only [Array.getD_eq_getD_getElem?, List.getElem?_toArray, List.getElem?_cons_succ, List.getElem?_cons_zero, Option.getD_some] at d6
        subst hJ
        go_simp
        exact RegPost.mk _ rfl (fun _ _ _ h => h) (by simp [upd])
      | 15, ho =>
        obtain rfl := Option.some.inj ho
        have d27 := hF.mine 14 _ _ rfl rfl (hdep ⟨14, .data⟩ (by simp) rfl); simp only [Vlarge] at d27
        subst hJ
        go_simp
        refine (at_any _ _ (by omega) (by omega)).mono ?_
        rintro e w'' ⟨rfl, rfl⟩
        exact RegPost.mk _ rfl (fun _ _ _ h => h) (by simp [upd])
      | 16, ho =>
        obtain rfl := Option.some.inj ho
        have d16 := hF.mine 3 _ _ rfl rfl (hdep ⟨3, .data⟩ (by simp) rfl); simp only [Vlarge] at d16
        have d17 := hF.mine 4 _ _ rfl rfl (hdep ⟨4, .data⟩ (by simp) rfl); simp only [Vlarge] at d17
        subst hJ
        go_simp
        exact RegPost.mk _ rfl (fun _ _ _ h => h) (by simp [upd])
      | 17, ho =>
        obtain rfl := Option.some.inj ho
        have d29 := hF.mine 16 _ _ rfl rfl (hdep ⟨16, .data⟩ (by simp) rfl); simp only [Vlarge] at d29
        have e19 := hF.back hDi 19 rfl ⟨17, .chain⟩ (by simp) rfl rfl; have e21 := hF.back e19 21 rfl ⟨19, .chain⟩ (by simp) rfl rfl; rw [hDi, e19, e21] at hJ
        simp only [Wlarge, if_true, if_false, Bool.false_eq_true] at hJ
        subst hJ
        go_simp
        exact RegPost.mk0 (fun _ _ _ h => h) (by show _ = Wlarge _ _ _ _ _ _ _ _; simp [upd, *]; rfl)
      | 18, ho =>
        obtain rfl := Option.some.inj ho
        have d21 := hF.mine 8 _ _ rfl rfl (hdep ⟨8, .data⟩ (by simp) rfl); simp only [Vlarge] at d21
        have d22 := hF.mine 9 _ _ rfl rfl (hdep ⟨9, .data⟩ (by simp) rfl); simp only [Vlarge] at d22
        subst hJ
        go_simp
        exact RegPost.mk _ rfl (fun _ _ _ h => h) (by simp [upd])
      | 19, ho =>
        obtain rfl := Option.some.inj ho
        have d30 := hF.mine 18 _ _ rfl rfl (hdep ⟨18, .data⟩ (by simp) rfl); simp only [Vlarge] at d30
        have e17 := hdep ⟨17, .chain⟩ (by simp) rfl; have e21 := hF.back hDi 21 rfl ⟨19, .chain⟩ (by simp) rfl rfl; dsimp only at e17; rw [e17, hDi, e21] at hJ
        simp only [Wlarge, if_true, if_false, Bool.false_eq_true] at hJ
        subst hJ
        go_simp
        exact RegPost.mk0 (fun _ _ _ h => h) (by show _ = Wlarge _ _ _ _ _ _ _ _; simp [upd, *]; rfl)
      | 20, ho =>
        obtain rfl := Option.some.inj ho
        have d26 := hF.mine 13 _ _ rfl rfl (hdep ⟨13, .data⟩ (by simp) rfl); simp only [Vlarge] at d26
        have d28 := hF.mine 15 _ _ rfl rfl (hdep ⟨15, .data⟩ (by simp) rfl); simp only [Vlarge] at d28
        subst hJ
        go_simp
        rw [if_pos (by omega), show (1 + (b : Int) * 32).toNat = 1 + b * 32 by omega]
        go_simp
        exact RegPost.mk _ rfl (fun _ _ _ h => h) (by simp [upd])
      | 21, ho =>
        obtain rfl := Option.some.inj ho
        have d31 := hF.mine 20 _ _ rfl rfl (hdep ⟨20, .data⟩ (by simp) rfl); simp only [Vlarge] at d31
        have e19 := hdep ⟨19, .chain⟩ (by simp) rfl; have e17 := hdep ⟨17, .phase⟩ (by simp) rfl; dsimp only at e17 e19; rw [e17, e19, hDi] at hJ
        simp only [Wlarge, if_true, if_false, Bool.false_eq_true] at hJ
        subst hJ
        go_simp
        exact RegPost.mk0 (fun _ _ _ h => h) (by show _ = Wlarge _ _ _ _ _ _ _ _; simp [upd, *]; rfl)
      | i + 22, ho => simp at ho
    case fin =>
      intro D a w' hF hJ hall
      have t17 := hall 17 (by decide)
      have t19 := hall 19 (by decide)
      have t21 := hall 21 (by decide)
      rw [t17, t19, t21] at hJ
      simp only [Wlarge, if_true] at hJ
      subst hJ
      have hl := act_lit a 47 hF.size
      rw [hF.defers] at hl
      simp only [List.range, List.range.loop, List.map_cons, List.map_nil, hF.out 0 (by rfl), hF.out 1 (by rfl), hF.out 2 (by rfl), hF.out 3 (by rfl), hF.out 4 (by rfl), hF.out 5 (by rfl), hF.out 6 (by rfl), hF.out 7 (by rfl), hF.out 8 (by rfl), hF.out 9 (by rfl), hF.out 10 (by rfl), hF.out 11 (by rfl), hF.out 12 (by rfl), hF.out 32 (by rfl), hF.out 33 (by rfl), hF.out 34 (by rfl), hF.out 35 (by rfl), hF.out 36 (by rfl), hF.out 37 (by rfl), hF.out 38 (by rfl), hF.out 39 (by rfl), hF.out 40 (by rfl), hF.out 41 (by rfl), hF.out 42 (by rfl), hF.out 43 (by rfl), hF.out 44 (by rfl), hF.out 45 (by rfl), hF.out 46 (by rfl)] at hl
      simp only [Array.getD_eq_getD_getElem?, List.getElem?_toArray, List.getElem?_cons_succ, List.getElem?_cons_zero, Option.getD_some] at hl
      rw [hl]
      clear hl hF
      go_wp2
      go_loopw [7] (fun v wr => (v = .int .i64 1 ∧ wr = ((w.drew.setCell ⟨p.kb, b, none⟩ (.int .i64 (-1))).setCell ⟨p.cb, b, none⟩ (.int .i64 1)).setCell ⟨p.ub, 1 + b * 32, none⟩ (.bool true)) ∨
        (v = .int .i64 2 ∧ wr = (((w.drew.setCell ⟨p.kb, b, none⟩ (.int .i64 (-1))).setCell ⟨p.cb, b, none⟩ (.int .i64 1)).setCell ⟨p.ub, 1 + b * 32, none⟩ (.bool true)).setCell ⟨p.kb, b + 1, none⟩ (.int .i64 (-2)))) (fun v _ => 2 - (intOf v).toNat)
      case atStart => exact .inl ⟨rfl, rfl⟩
      case round =>
        rcases hrel with ⟨rfl, rfl⟩ | ⟨rfl, rfl⟩
        · go_wp2
          go_roundw
          case rel => exact .inr ⟨rfl, by first | rfl | trace_state⟩
          case measure => simp [intOf]
        · go_wp2_with (first | (go_at_call 90; refine (at_any _ _ (by omega) (by omega)).mono ?_; rintro e w' ⟨rfl, rfl⟩))
          go_ret2
          exact FIN.out
end Go.Proofs.Ytjfpijoeddjgmaa
