-- PRINTED BY print.sh 35421559b90ae4d0a3588c463048766b98c2df88dd9212a6774a882060cdf62d: not written by this session
import Derived.Test.YtdfbdjlcbjdabaaPTableHeadsx0
namespace Go.Proofs.Ytdfbdjlcbjdabaa.PTableHeads
open Go.RowKit Go.Proofs.YtdfbdjlcbjdabaaW.PrintWords Go.Proofs.YtdfbdjlcbjdabaaW.PrintLast Go.Proofs.YtdfbdjlcbjdabaaW.PrintMore
attribute [local go_sem] max2_int min2_int max_two min_two max_three min_three max_four min_four   -- for this text's walks alone
set_option linter.unusedVariables false
set_option linter.unusedSimpArgs false

/-! ### table_Head: function 7 -/
def table_Head.f (a0 : Int) (a1 : Int) : Option (Int × Int) := if a0 < 0 then (some (0, 1)) else (if a0 ≥ 2147483648 then (some (0, 1)) else (if a1 < 1 then (some (0, 1)) else (if a1 > 60 then (some (0, 1)) else (some (Go.bits .or .u64 (IntKind.u64.wrap ((IntKind.u64.wrap (a1)) * 4294967296)) (IntKind.u64.wrap (a0)), 0)))))
set_option maxHeartbeats 8000000 in
set_option maxRecDepth 100000 in
theorem table_Head.calls (a0 : Int) (a1 : Int) (r1 : Int) (r2 : Int) (w : World) (h : table_Head.f a0 a1 = some (r1, r2)) :
    Calls Try.prog 7 #[.int .i64 a0, .int .i64 a1] w fun e w' => e = .returned (.tuple #[.int .u64 r1, .int .i64 r2]) ∧ Drawn0 w w' := by
  have H : (if a0 < 0 then (some (0, 1)) else (if a0 ≥ 2147483648 then (some (0, 1)) else (if a1 < 1 then (some (0, 1)) else (if a1 > 60 then (some (0, 1)) else (some (Go.bits .or .u64 (IntKind.u64.wrap ((IntKind.u64.wrap (a1)) * 4294967296)) (IntKind.u64.wrap (a0)), 0)))))) = some (r1, r2) := h
  clear h
  by_cases c3 : a0 < 0
  · rw [if_pos c3] at H
    have c3b0 : decide (a0 < 0) = true := decide_eq_true c3
    clear c3
    simp only [Option.some.injEq, Prod.mk.injEq] at H
    obtain ⟨rfl, rfl⟩ := H
    go_enter Try.func7, Try.ntmps7
    go_wp2
    go_ret2
    exact ⟨by first | rfl | (simp; done) | (simp [*]; done), by repeat (first | exact Drawn0.refl _ | apply Drawn0.step)⟩
  · rw [if_neg c3] at H
    have c3b0 : decide (a0 < 0) = false := decide_eq_false c3
    clear c3
    by_cases c4 : a0 ≥ 2147483648
    · rw [if_pos c4] at H
      have c4b0 : decide (2147483648 ≤ a0) = true := decide_eq_true c4
      clear c4
      simp only [Option.some.injEq, Prod.mk.injEq] at H
      obtain ⟨rfl, rfl⟩ := H
      go_enter Try.func7, Try.ntmps7
      go_wp2
      go_ret2
      exact ⟨by first | rfl | (simp; done) | (simp [*]; done), by repeat (first | exact Drawn0.refl _ | apply Drawn0.step)⟩
    · rw [if_neg c4] at H
      have c4b0 : decide (2147483648 ≤ a0) = false := decide_eq_false c4
      clear c4
      by_cases c5 : a1 < 1
      · rw [if_pos c5] at H
        have c5b0 : decide (a1 < 1) = true := decide_eq_true c5
        clear c5
        simp only [Option.some.injEq, Prod.mk.injEq] at H
        obtain ⟨rfl, rfl⟩ := H
        go_enter Try.func7, Try.ntmps7
        go_wp2
        go_ret2
        exact ⟨by first | rfl | (simp; done) | (simp [*]; done), by repeat (first | exact Drawn0.refl _ | apply Drawn0.step)⟩
      · rw [if_neg c5] at H
        have c5b0 : decide (a1 < 1) = false := decide_eq_false c5
        clear c5
        by_cases c6 : a1 > 60
        · rw [if_pos c6] at H
          have c6b0 : decide (60 < a1) = true := decide_eq_true c6
          clear c6
          simp only [Option.some.injEq, Prod.mk.injEq] at H
          obtain ⟨rfl, rfl⟩ := H
          go_enter Try.func7, Try.ntmps7
          go_wp2
          go_ret2
          exact ⟨by first | rfl | (simp; done) | (simp [*]; done), by repeat (first | exact Drawn0.refl _ | apply Drawn0.step)⟩
        · rw [if_neg c6] at H
          have c6b0 : decide (60 < a1) = false := decide_eq_false c6
          clear c6
          simp only [Option.some.injEq, Prod.mk.injEq] at H
          obtain ⟨rfl, rfl⟩ := H
          go_enter Try.func7, Try.ntmps7
          go_wp2
          go_ret2
          exact ⟨by first | rfl | (simp; done) | (simp [*]; done), by repeat (first | exact Drawn0.refl _ | apply Drawn0.step)⟩

/-! ### reverielaw14_lives: function 6 -/
def reverielaw14_lives.f  : Option (Bool) := (table_Head.f 3 2).bind fun bt101 => (if bt101.2 = 0 then (if bt101.1 = 8589934595 then (some true) else (some false)) else (some false))
set_option maxHeartbeats 8000000 in
set_option maxRecDepth 100000 in
theorem reverielaw14_lives.calls  (r : Bool) (w : World) (h : reverielaw14_lives.f  = some r) :
    Calls Try.prog 6 #[] w fun e w' => e = .returned (.bool r) ∧ Drawn0 w w' := by
  have H : ((table_Head.f 3 2).bind fun bt101 => (if bt101.2 = 0 then (if bt101.1 = 8589934595 then (some true) else (some false)) else (some false))) = some r := h
  clear h
  replace H := Option.bind_eq_some_iff.mp H
  obtain ⟨⟨t101, t102⟩, A10, H⟩ := H
  replace H : (if t102 = 0 then (if t101 = 8589934595 then (some true) else (some false)) else (some false)) = some r := H
  have A1 := Aside0.mk A10
  clear A10
  by_cases c2 : t102 = 0
  · rw [if_pos c2] at H
    have c2b0 : (t102 == 0) = true := beq_iff_eq.mpr c2
    have c2b1 : (t102 != 0) = false := bne_eq_false_iff_eq.mpr c2
    clear c2
    by_cases c3 : t101 = 8589934595
    · rw [if_pos c3] at H
      have c3b0 : (t101 == 8589934595) = true := beq_iff_eq.mpr c3
      have c3b1 : (t101 != 8589934595) = false := bne_eq_false_iff_eq.mpr c3
      clear c3
      obtain rfl := Option.some.inj H
      go_enter Try.func6, Try.ntmps6
      go_wp2_with (first | ((with_reducible refine gate_callee (f := 7) rfl ?_); refine goesL_ (some 4) rfl rfl Try.func7 (by kernel_rfl) rfl #[.int .i64 3, .int .i64 2] rfl (by (try simp only [List.map_toArray, List.map_cons, List.map_nil]); first | done | rfl | (simp only [List.length_drop, List.length_take]; rfl)) ?_; (with_reducible refine (table_Head.calls 3 2 t101 t102 _ A1.out).mono ?_); rintro e w' ⟨rfl, ⟨nd, rfl⟩⟩; refine ⟨_, rfl, ?_⟩))
      go_ret
      exact ⟨by first | rfl | (simp; done) | (simp [*]; done), by repeat (first | exact Drawn0.refl _ | apply Drawn0.step)⟩
    · rw [if_neg c3] at H
      have c3b0 : (t101 == 8589934595) = false := beq_eq_false_iff_ne.mpr c3
      have c3b1 : (t101 != 8589934595) = true := bne_iff_ne.mpr c3
      obtain rfl := Option.some.inj H
      go_enter Try.func6, Try.ntmps6
      go_wp2_with (first | ((with_reducible refine gate_callee (f := 7) rfl ?_); refine goesL_ (some 4) rfl rfl Try.func7 (by kernel_rfl) rfl #[.int .i64 3, .int .i64 2] rfl (by (try simp only [List.map_toArray, List.map_cons, List.map_nil]); first | done | rfl | (simp only [List.length_drop, List.length_take]; rfl)) ?_; (with_reducible refine (table_Head.calls 3 2 t101 t102 _ A1.out).mono ?_); rintro e w' ⟨rfl, ⟨nd, rfl⟩⟩; refine ⟨_, rfl, ?_⟩))
      go_ret
      exact ⟨by first | rfl | (simp; done) | (simp [*]; done), by repeat (first | exact Drawn0.refl _ | apply Drawn0.step)⟩
  · rw [if_neg c2] at H
    have c2b0 : (t102 == 0) = false := beq_eq_false_iff_ne.mpr c2
    have c2b1 : (t102 != 0) = true := bne_iff_ne.mpr c2
    obtain rfl := Option.some.inj H
    go_enter Try.func6, Try.ntmps6
    go_wp2_with (first | ((with_reducible refine gate_callee (f := 7) rfl ?_); refine goesL_ (some 4) rfl rfl Try.func7 (by kernel_rfl) rfl #[.int .i64 3, .int .i64 2] rfl (by (try simp only [List.map_toArray, List.map_cons, List.map_nil]); first | done | rfl | (simp only [List.length_drop, List.length_take]; rfl)) ?_; (with_reducible refine (table_Head.calls 3 2 t101 t102 _ A1.out).mono ?_); rintro e w' ⟨rfl, ⟨nd, rfl⟩⟩; refine ⟨_, rfl, ?_⟩))
    go_ret
    exact ⟨by first | rfl | (simp; done) | (simp [*]; done), by repeat (first | exact Drawn0.refl _ | apply Drawn0.step)⟩

/-! ### table_Split: function 8 -/
def table_Split.f (a0 : Int) : Option (Int × Int × Int) := (table_Head.f (wrap64 (Go.bits .and .u64 a0 4294967295)) (wrap64 (a0 / 4294967296))).bind fun bt103 => (if bt103.2 = 0 then (some (wrap64 (Go.bits .and .u64 a0 4294967295), wrap64 (a0 / 4294967296), 0)) else (some (0, 0, 12)))
set_option maxHeartbeats 8000000 in
set_option maxRecDepth 100000 in
theorem table_Split.calls (a0 : Int) (r1 : Int) (r2 : Int) (r3 : Int) (w : World) (h : table_Split.f a0 = some (r1, r2, r3)) :
    Calls Try.prog 8 #[.int .u64 a0] w fun e w' => e = .returned (.tuple #[.int .i64 r1, .int .i64 r2, .int .i64 r3]) ∧ Drawn0 w w' := by
  have H : ((table_Head.f (wrap64 (Go.bits .and .u64 a0 4294967295)) (wrap64 (a0 / 4294967296))).bind fun bt103 => (if bt103.2 = 0 then (some (wrap64 (Go.bits .and .u64 a0 4294967295), wrap64 (a0 / 4294967296), 0)) else (some (0, 0, 12)))) = some (r1, r2, r3) := h
  clear h
  replace H := Option.bind_eq_some_iff.mp H
  obtain ⟨⟨t103, t104⟩, A20, H⟩ := H
  replace H : (if t104 = 0 then (some (wrap64 (Go.bits .and .u64 a0 4294967295), wrap64 (a0 / 4294967296), 0)) else (some (0, 0, 12))) = some (r1, r2, r3) := H
  have A2 := Aside0.mk A20
  clear A20
  by_cases c3 : t104 = 0
  · rw [if_pos c3] at H
    have c3b0 : (t104 == 0) = true := beq_iff_eq.mpr c3
    have c3b1 : (t104 != 0) = false := bne_eq_false_iff_eq.mpr c3
    clear c3
    simp only [Option.some.injEq, Prod.mk.injEq] at H
    obtain ⟨rfl, rfl, rfl⟩ := H
    go_enter Try.func8, Try.ntmps8
    go_wp2_with (first | ((with_reducible refine gate_callee (f := 7) rfl ?_); refine goesL_ (some 18) rfl rfl Try.func7 (by kernel_rfl) rfl #[.int .i64 (wrap64 (Go.bits .and .u64 a0 4294967295)), .int .i64 (wrap64 (a0 / 4294967296))] rfl (by (try simp only [List.map_toArray, List.map_cons, List.map_nil]); first | done | rfl | (simp only [List.length_drop, List.length_take]; rfl)) ?_; (with_reducible refine (table_Head.calls (wrap64 (Go.bits .and .u64 a0 4294967295)) (wrap64 (a0 / 4294967296)) t103 t104 _ A2.out).mono ?_); rintro e w' ⟨rfl, ⟨nd, rfl⟩⟩; refine ⟨_, rfl, ?_⟩))
    go_ret3
    exact ⟨by first | rfl | (simp; done) | (simp [*]; done), by repeat (first | exact Drawn0.refl _ | apply Drawn0.step)⟩
  · rw [if_neg c3] at H
    have c3b0 : (t104 == 0) = false := beq_eq_false_iff_ne.mpr c3
    have c3b1 : (t104 != 0) = true := bne_iff_ne.mpr c3
    simp only [Option.some.injEq, Prod.mk.injEq] at H
    obtain ⟨rfl, rfl, rfl⟩ := H
    go_enter Try.func8, Try.ntmps8
    go_wp2_with (first | ((with_reducible refine gate_callee (f := 7) rfl ?_); refine goesL_ (some 18) rfl rfl Try.func7 (by kernel_rfl) rfl #[.int .i64 (wrap64 (Go.bits .and .u64 a0 4294967295)), .int .i64 (wrap64 (a0 / 4294967296))] rfl (by (try simp only [List.map_toArray, List.map_cons, List.map_nil]); first | done | rfl | (simp only [List.length_drop, List.length_take]; rfl)) ?_; (with_reducible refine (table_Head.calls (wrap64 (Go.bits .and .u64 a0 4294967295)) (wrap64 (a0 / 4294967296)) t103 t104 _ A2.out).mono ?_); rintro e w' ⟨rfl, ⟨nd, rfl⟩⟩; refine ⟨_, rfl, ?_⟩))
    go_ret3
    exact ⟨by first | rfl | (simp; done) | (simp [*]; done), by repeat (first | exact Drawn0.refl _ | apply Drawn0.step)⟩

/-! ### reverielaw14_TableHeads: function 3 -/
mutual
def reverielaw14_TableHeads.j0 : Nat → Int → Int → Int → Int → Int → Bool → Option (Bool)
  | 0, _, _, _, _, _, _ => none
  | k + 1, x0, x1, x2, x7, x8, x9 => if x9 = true then ((table_Split.f x7).bind fun bt108 => (if x8 = 0 then (if bt108.2.2 = 0 then (if bt108.1 = x0 then (if bt108.2.1 = x1 then (reverielaw14_TableHeads.j1 k x2 (x7 != (IntKind.u64.wrap ((IntKind.u64.wrap ((IntKind.u64.wrap (x1)) * 4294967296)) + (IntKind.u64.wrap (x0)))))) else (reverielaw14_TableHeads.j1 k x2 true)) else (reverielaw14_TableHeads.j1 k x2 true)) else (reverielaw14_TableHeads.j1 k x2 true)) else (reverielaw14_TableHeads.j1 k x2 true))) else (if x8 = 1 then (reverielaw14_TableHeads.j2 k x2 (x7 != 0)) else (reverielaw14_TableHeads.j2 k x2 true))
def reverielaw14_TableHeads.j1 : Nat → Int → Bool → Option (Bool)
  | 0, _, _ => none
  | k + 1, x2, x72 => if x72 = true then (some false) else ((table_Split.f x2).bind fun bt111 => (if (Int.tmod x2 4294967296) < 2147483648 then (if (IntKind.u64.wrap (Int.tdiv x2 4294967296)) ≥ 1 then (if (IntKind.u64.wrap (Int.tdiv x2 4294967296)) ≤ 60 then (if bt111.2.2 = 0 then (if (IntKind.u64.wrap (bt111.1)) = (Int.tmod x2 4294967296) then (some ((IntKind.u64.wrap (bt111.2.1)) == (IntKind.u64.wrap (Int.tdiv x2 4294967296)))) else (some false)) else (some false)) else (if bt111.2.2 = 12 then (if bt111.1 = 0 then (some (bt111.2.1 == 0)) else (some false)) else (some false))) else (if bt111.2.2 = 12 then (if bt111.1 = 0 then (some (bt111.2.1 == 0)) else (some false)) else (some false))) else (if bt111.2.2 = 12 then (if bt111.1 = 0 then (some (bt111.2.1 == 0)) else (some false)) else (some false))))
def reverielaw14_TableHeads.j2 : Nat → Int → Bool → Option (Bool)
  | 0, _, _ => none
  | k + 1, x2, x78 => if x78 = true then (some false) else ((table_Split.f x2).bind fun bt114 => (if (Int.tmod x2 4294967296) < 2147483648 then (if (IntKind.u64.wrap (Int.tdiv x2 4294967296)) ≥ 1 then (if (IntKind.u64.wrap (Int.tdiv x2 4294967296)) ≤ 60 then (if bt114.2.2 = 0 then (if (IntKind.u64.wrap (bt114.1)) = (Int.tmod x2 4294967296) then (some ((IntKind.u64.wrap (bt114.2.1)) == (IntKind.u64.wrap (Int.tdiv x2 4294967296)))) else (some false)) else (some false)) else (if bt114.2.2 = 12 then (if bt114.1 = 0 then (some (bt114.2.1 == 0)) else (some false)) else (some false))) else (if bt114.2.2 = 12 then (if bt114.1 = 0 then (some (bt114.2.1 == 0)) else (some false)) else (some false))) else (if bt114.2.2 = 12 then (if bt114.1 = 0 then (some (bt114.2.1 == 0)) else (some false)) else (some false))))
end
def reverielaw14_TableHeads.f (k : Nat) (a0 : Int) (a1 : Int) (a2 : Int) : Option (Bool) := (reverielaw14_lives.f).bind fun t105 => (if t105 = true then ((table_Head.f a0 a1).bind fun bt106 => (if a0 ≥ 0 then (if a0 < 2147483648 then (if a1 ≥ 1 then (reverielaw14_TableHeads.j0 k a0 a1 a2 bt106.1 bt106.2 (decide (a1 ≤ 60))) else (reverielaw14_TableHeads.j0 k a0 a1 a2 bt106.1 bt106.2 false)) else (reverielaw14_TableHeads.j0 k a0 a1 a2 bt106.1 bt106.2 false)) else (reverielaw14_TableHeads.j0 k a0 a1 a2 bt106.1 bt106.2 false))) else (some false))
theorem reverielaw14_TableHeads.mono_l : ∀ k, (∀ y0 y1 y2 y3 y4 y5, LeO (reverielaw14_TableHeads.j0 k y0 y1 y2 y3 y4 y5) (reverielaw14_TableHeads.j0 (k + 1) y0 y1 y2 y3 y4 y5)) ∧ (∀ y0 y1, LeO (reverielaw14_TableHeads.j1 k y0 y1) (reverielaw14_TableHeads.j1 (k + 1) y0 y1)) ∧ (∀ y0 y1, LeO (reverielaw14_TableHeads.j2 k y0 y1) (reverielaw14_TableHeads.j2 (k + 1) y0 y1))
  | 0 => ⟨fun _ _ _ _ _ _ r h => by simp [reverielaw14_TableHeads.j0] at h, fun _ _ r h => by simp [reverielaw14_TableHeads.j1] at h, fun _ _ r h => by simp [reverielaw14_TableHeads.j2] at h⟩
  | k + 1 => by
    obtain ⟨ih0, ih1, ih2⟩ := reverielaw14_TableHeads.mono_l k
    refine ⟨?_, ?_, ?_⟩
    · intro y0 y1 y2 y3 y4 y5
      unfold reverielaw14_TableHeads.j0
      repeat' first
      | (with_reducible exact ih0 _ _ _ _ _ _)
      | (with_reducible exact ih1 _ _)
      | (with_reducible exact ih2 _ _)
      | (with_reducible exact LeO.refl _)
      | (with_reducible exact LeO.none _)
      | (with_reducible refine LeO.ite ?_ ?_)
      | (with_reducible refine LeO.bind ?_ (fun _ => ?_))
      | exact ih0 _ _ _ _ _ _
      | exact ih1 _ _
      | exact ih2 _ _
      | exact LeO.none _
      | refine LeO.ite ?_ ?_
      | refine LeO.bind ?_ (fun _ => ?_)
    · intro y0 y1
      unfold reverielaw14_TableHeads.j1
      repeat' first
      | (with_reducible exact ih0 _ _ _ _ _ _)
      | (with_reducible exact ih1 _ _)
      | (with_reducible exact ih2 _ _)
      | (with_reducible exact LeO.refl _)
      | (with_reducible exact LeO.none _)
      | (with_reducible refine LeO.ite ?_ ?_)
      | (with_reducible refine LeO.bind ?_ (fun _ => ?_))
      | exact ih0 _ _ _ _ _ _
      | exact ih1 _ _
      | exact ih2 _ _
      | exact LeO.none _
      | refine LeO.ite ?_ ?_
      | refine LeO.bind ?_ (fun _ => ?_)
    · intro y0 y1
      unfold reverielaw14_TableHeads.j2
      repeat' first
      | (with_reducible exact ih0 _ _ _ _ _ _)
      | (with_reducible exact ih1 _ _)
      | (with_reducible exact ih2 _ _)
      | (with_reducible exact LeO.refl _)
      | (with_reducible exact LeO.none _)
      | (with_reducible refine LeO.ite ?_ ?_)
      | (with_reducible refine LeO.bind ?_ (fun _ => ?_))
      | exact ih0 _ _ _ _ _ _
      | exact ih1 _ _
      | exact ih2 _ _
      | exact LeO.none _
      | refine LeO.ite ?_ ?_
      | refine LeO.bind ?_ (fun _ => ?_)
theorem reverielaw14_TableHeads.mono : ∀ a0 a1 a2 k, LeO (reverielaw14_TableHeads.f k a0 a1 a2) (reverielaw14_TableHeads.f (k + 1) a0 a1 a2) := by
  intro a0 a1 a2 k
  obtain ⟨ih0, ih1, ih2⟩ := reverielaw14_TableHeads.mono_l k
  unfold reverielaw14_TableHeads.f
  repeat' first
      | (with_reducible exact ih0 _ _ _ _ _ _)
      | (with_reducible exact ih1 _ _)
      | (with_reducible exact ih2 _ _)
      | (with_reducible exact LeO.refl _)
      | (with_reducible exact LeO.none _)
      | (with_reducible refine LeO.ite ?_ ?_)
      | (with_reducible refine LeO.bind ?_ (fun _ => ?_))
      | exact ih0 _ _ _ _ _ _
      | exact ih1 _ _
      | exact ih2 _ _
      | exact LeO.none _
      | refine LeO.ite ?_ ?_
      | refine LeO.bind ?_ (fun _ => ?_)
set_option maxHeartbeats 8000000 in
set_option maxRecDepth 100000 in
theorem reverielaw14_TableHeads.calls (k : Nat) (a0 : Int) (a1 : Int) (a2 : Int) (r : Bool) (w : World) (h : reverielaw14_TableHeads.f k a0 a1 a2 = some r) :
    Calls Try.prog 3 #[.int .i64 a0, .int .i64 a1, .int .u64 a2] w fun e w' => e = .returned (.bool r) ∧ Drawn0 w w' := by
  have H : ((reverielaw14_lives.f).bind fun t105 => (if t105 = true then ((table_Head.f a0 a1).bind fun bt106 => (if a0 ≥ 0 then (if a0 < 2147483648 then (if a1 ≥ 1 then (reverielaw14_TableHeads.j0 k a0 a1 a2 bt106.1 bt106.2 (decide (a1 ≤ 60))) else (reverielaw14_TableHeads.j0 k a0 a1 a2 bt106.1 bt106.2 false)) else (reverielaw14_TableHeads.j0 k a0 a1 a2 bt106.1 bt106.2 false)) else (reverielaw14_TableHeads.j0 k a0 a1 a2 bt106.1 bt106.2 false))) else (some false))) = some r := h
  clear h
  replace H := Option.bind_eq_some_iff.mp H
  obtain ⟨t105, A40, H⟩ := H
  replace H : (if t105 = true then ((table_Head.f a0 a1).bind fun bt106 => (if a0 ≥ 0 then (if a0 < 2147483648 then (if a1 ≥ 1 then (reverielaw14_TableHeads.j0 k a0 a1 a2 bt106.1 bt106.2 (decide (a1 ≤ 60))) else (reverielaw14_TableHeads.j0 k a0 a1 a2 bt106.1 bt106.2 false)) else (reverielaw14_TableHeads.j0 k a0 a1 a2 bt106.1 bt106.2 false)) else (reverielaw14_TableHeads.j0 k a0 a1 a2 bt106.1 bt106.2 false))) else (some false)) = some r := H
  have A4 := Aside0.mk A40
  clear A40
  by_cases c5 : t105 = true
  · subst c5
    have H1 : ((table_Head.f a0 a1).bind fun bt106 => (if a0 ≥ 0 then (if a0 < 2147483648 then (if a1 ≥ 1 then (reverielaw14_TableHeads.j0 k a0 a1 a2 bt106.1 bt106.2 (decide (a1 ≤ 60))) else (reverielaw14_TableHeads.j0 k a0 a1 a2 bt106.1 bt106.2 false)) else (reverielaw14_TableHeads.j0 k a0 a1 a2 bt106.1 bt106.2 false)) else (reverielaw14_TableHeads.j0 k a0 a1 a2 bt106.1 bt106.2 false))) = some r := by rw [if_pos rfl] at H; exact H
    clear H
    have H := H1
    clear H1
    replace H := Option.bind_eq_some_iff.mp H
    obtain ⟨⟨t106, t107⟩, A60, H⟩ := H
    replace H : (if a0 ≥ 0 then (if a0 < 2147483648 then (if a1 ≥ 1 then (reverielaw14_TableHeads.j0 k a0 a1 a2 t106 t107 (decide (a1 ≤ 60))) else (reverielaw14_TableHeads.j0 k a0 a1 a2 t106 t107 false)) else (reverielaw14_TableHeads.j0 k a0 a1 a2 t106 t107 false)) else (reverielaw14_TableHeads.j0 k a0 a1 a2 t106 t107 false)) = some r := H
    have A6 := Aside0.mk A60
    clear A60
    have HC7 := Aside0.mk H
    clear H
    go_enter Try.func3, Try.ntmps3
    go_upto_region 4 with (first | ((with_reducible refine gate_callee (f := 6) rfl ?_); refine goesL_ (some 18) rfl rfl Try.func6 (by kernel_rfl) rfl #[] rfl (by (try simp only [List.map_toArray, List.map_cons, List.map_nil]); first | done | rfl | (simp only [List.length_drop, List.length_take]; rfl)) ?_; (with_reducible refine (reverielaw14_lives.calls  true _ A4.out).mono ?_); rintro e w' ⟨rfl, ⟨nd, rfl⟩⟩; refine ⟨_, rfl, ?_⟩) | ((with_reducible refine gate_callee (f := 7) rfl ?_); refine goesL_ (some 23) rfl rfl Try.func7 (by kernel_rfl) rfl #[.int .i64 a0, .int .i64 a1] rfl (by (try simp only [List.map_toArray, List.map_cons, List.map_nil]); first | done | rfl | (simp only [List.length_drop, List.length_take]; rfl)) ?_; (with_reducible refine (table_Head.calls a0 a1 t106 t107 _ A6.out).mono ?_); rintro e w' ⟨rfl, ⟨nd, rfl⟩⟩; refine ⟨_, rfl, ?_⟩))
    (try simp only [Act.put, List.setIfInBounds_toArray, List.set_cons_zero, List.set_cons_succ])
    go_cut [9] (fun v9 wc => ∃ (kq : Nat) (x9_6 : Bool), v9 = .bool x9_6 ∧ Aside0 (reverielaw14_TableHeads.j0 kq a0 a1 a2 t106 t107 x9_6 = some r) ∧ Aside0 (kq ≤ k) ∧ Drawn0 w wc)
    case first =>
      have H := HC7.out
      clear HC7
      by_cases c8 : a0 ≥ 0
      · rw [if_pos c8] at H
        have c8b0 : decide (0 ≤ a0) = true := decide_eq_true c8
        clear c8
        (first | rw [c8b0] | (simp only [i64_w, i32_w]; rw [c8b0]) | skip)
        by_cases c9 : a0 < 2147483648
        · rw [if_pos c9] at H
          have c9b0 : decide (a0 < 2147483648) = true := decide_eq_true c9
          clear c9
          by_cases c10 : a1 ≥ 1
          · rw [if_pos c10] at H
            have c10b0 : decide (1 ≤ a1) = true := decide_eq_true c10
            clear c10
            have H' := Aside0.mk H
            clear H
            go_wp2
            go_meet
            case rel => exact ⟨_, (decide (a1 ≤ 60)), (by first | rfl | (simp; done) | (simp [*]; done)), H', ⟨by first | omega | exact Nat.le_refl _⟩, by repeat (first | exact Drawn0.refl _ | apply Drawn0.step)⟩
          · rw [if_neg c10] at H
            have c10b0 : decide (1 ≤ a1) = false := decide_eq_false c10
            clear c10
            have H' := Aside0.mk H
            clear H
            go_wp2
            go_meet
            case rel => exact ⟨_, (false), (by first | rfl | (simp; done) | (simp [*]; done)), H', ⟨by first | omega | exact Nat.le_refl _⟩, by repeat (first | exact Drawn0.refl _ | apply Drawn0.step)⟩
        · rw [if_neg c9] at H
          have c9b0 : decide (a0 < 2147483648) = false := decide_eq_false c9
          clear c9
          have H' := Aside0.mk H
          clear H
          go_wp2
          go_meet
          case rel => exact ⟨_, (false), (by first | rfl | (simp; done) | (simp [*]; done)), H', ⟨by first | omega | exact Nat.le_refl _⟩, by repeat (first | exact Drawn0.refl _ | apply Drawn0.step)⟩
      · rw [if_neg c8] at H
        have c8b0 : decide (0 ≤ a0) = false := decide_eq_false c8
        clear c8
        (first | rw [c8b0] | (simp only [i64_w, i32_w]; rw [c8b0]) | skip)
        have H' := Aside0.mk H
        clear H
        go_wp2
        go_meet
        case rel => exact ⟨_, (false), (by first | rfl | (simp; done) | (simp [*]; done)), H', ⟨by first | omega | exact Nat.le_refl _⟩, by repeat (first | exact Drawn0.refl _ | apply Drawn0.step)⟩
    case rest =>
      clear HC7
      try clear c1
      try clear p2
      try clear c3
      try clear c5
      try clear c6
      try clear c7
      try clear c8
      try clear c8b0
      try clear c9
      try clear c9b0
      try clear c10
      try clear c10b0
      obtain ⟨kq, x9_6, rfl, HA, HJ6, ⟨mc6, rfl⟩⟩ := hcut
      cases kq with
      | zero => exact absurd HA.out (by simp [reverielaw14_TableHeads.j0])
      | succ kj6 =>
        have H := HA.out
        clear HA
        simp only [reverielaw14_TableHeads.j0] at H
        by_cases c11 : x9_6 = true
        · subst c11
          have H1 : ((table_Split.f t106).bind fun bt108 => (if t107 = 0 then (if bt108.2.2 = 0 then (if bt108.1 = a0 then (if bt108.2.1 = a1 then (reverielaw14_TableHeads.j1 kj6 a2 (t106 != (IntKind.u64.wrap ((IntKind.u64.wrap ((IntKind.u64.wrap (a1)) * 4294967296)) + (IntKind.u64.wrap (a0)))))) else (reverielaw14_TableHeads.j1 kj6 a2 true)) else (reverielaw14_TableHeads.j1 kj6 a2 true)) else (reverielaw14_TableHeads.j1 kj6 a2 true)) else (reverielaw14_TableHeads.j1 kj6 a2 true))) = some r := by rw [if_pos rfl] at H; exact H
          clear H
          have H := H1
          clear H1
          replace H := Option.bind_eq_some_iff.mp H
          obtain ⟨⟨t108, t109, t110⟩, A120, H⟩ := H
          replace H : (if t107 = 0 then (if t110 = 0 then (if t108 = a0 then (if t109 = a1 then (reverielaw14_TableHeads.j1 kj6 a2 (t106 != (IntKind.u64.wrap ((IntKind.u64.wrap ((IntKind.u64.wrap (a1)) * 4294967296)) + (IntKind.u64.wrap (a0)))))) else (reverielaw14_TableHeads.j1 kj6 a2 true)) else (reverielaw14_TableHeads.j1 kj6 a2 true)) else (reverielaw14_TableHeads.j1 kj6 a2 true)) else (reverielaw14_TableHeads.j1 kj6 a2 true)) = some r := H
          have A12 := Aside0.mk A120
          clear A120
          have HC13 := Aside0.mk H
          clear H
          go_upto_region 7 with (first | ((with_reducible refine gate_callee (f := 8) rfl ?_); refine goesL_ (some 43) rfl rfl Try.func8 (by kernel_rfl) rfl #[.int .u64 t106] rfl (by (try simp only [List.map_toArray, List.map_cons, List.map_nil]); first | done | rfl | (simp only [List.length_drop, List.length_take]; rfl)) ?_; (with_reducible refine (table_Split.calls t106 t108 t109 t110 _ A12.out).mono ?_); rintro e w' ⟨rfl, ⟨nd, rfl⟩⟩; refine ⟨_, rfl, ?_⟩))
          (try simp only [Act.put, List.setIfInBounds_toArray, List.set_cons_zero, List.set_cons_succ])
          go_cut [72] (fun v72 wc => ∃ (kq : Nat) (x72_12 : Bool), v72 = .bool x72_12 ∧ Aside0 (reverielaw14_TableHeads.j1 kq a2 x72_12 = some r) ∧ Aside0 (kq ≤ kj6) ∧ Drawn0 w wc)
          case first =>
            have H := HC13.out
            clear HC13
            by_cases c14 : t107 = 0
            · rw [if_pos c14] at H
              have c14b0 : (t107 == 0) = true := beq_iff_eq.mpr c14
              have c14b1 : (t107 != 0) = false := bne_eq_false_iff_eq.mpr c14
              clear c14
              (first | rw [c14b0] | (simp only [i64_w, i32_w]; rw [c14b0]) | skip)
              by_cases c15 : t110 = 0
              · rw [if_pos c15] at H
                have c15b0 : (t110 == 0) = true := beq_iff_eq.mpr c15
                have c15b1 : (t110 != 0) = false := bne_eq_false_iff_eq.mpr c15
                clear c15
                by_cases c16 : t108 = a0
                · rw [if_pos c16] at H
                  have c16b0 : (t108 == a0) = true := beq_iff_eq.mpr c16
                  have c16b1 : (t108 != a0) = false := bne_eq_false_iff_eq.mpr c16
                  clear c16
                  by_cases c17 : t109 = a1
                  · rw [if_pos c17] at H
                    have c17b0 : (t109 == a1) = true := beq_iff_eq.mpr c17
                    have c17b1 : (t109 != a1) = false := bne_eq_false_iff_eq.mpr c17
                    clear c17
                    have H' := Aside0.mk H
                    clear H
                    go_wp2
                    go_meet
                    case rel => exact ⟨_, ((t106 != (IntKind.u64.wrap ((IntKind.u64.wrap ((IntKind.u64.wrap (a1)) * 4294967296)) + (IntKind.u64.wrap (a0)))))), (by first | rfl | (simp; done) | (simp [*]; done)), H', ⟨by have := HJ6.out; first | omega | exact Nat.le_refl _⟩, by repeat (first | exact Drawn0.refl _ | apply Drawn0.step)⟩
                  · rw [if_neg c17] at H
                    have c17b0 : (t109 == a1) = false := beq_eq_false_iff_ne.mpr c17
                    have c17b1 : (t109 != a1) = true := bne_iff_ne.mpr c17
                    have H' := Aside0.mk H
                    clear H
                    go_wp2
                    go_meet
                    case rel => exact ⟨_, (true), (by first | rfl | (simp; done) | (simp [*]; done)), H', ⟨by have := HJ6.out; first | omega | exact Nat.le_refl _⟩, by repeat (first | exact Drawn0.refl _ | apply Drawn0.step)⟩
                · rw [if_neg c16] at H
                  have c16b0 : (t108 == a0) = false := beq_eq_false_iff_ne.mpr c16
                  have c16b1 : (t108 != a0) = true := bne_iff_ne.mpr c16
                  have H' := Aside0.mk H
                  clear H
                  go_wp2
                  go_meet
                  case rel => exact ⟨_, (true), (by first | rfl | (simp; done) | (simp [*]; done)), H', ⟨by have := HJ6.out; first | omega | exact Nat.le_refl _⟩, by repeat (first | exact Drawn0.refl _ | apply Drawn0.step)⟩
              · rw [if_neg c15] at H
                have c15b0 : (t110 == 0) = false := beq_eq_false_iff_ne.mpr c15
                have c15b1 : (t110 != 0) = true := bne_iff_ne.mpr c15
                have H' := Aside0.mk H
                clear H
                go_wp2
                go_meet
                case rel => exact ⟨_, (true), (by first | rfl | (simp; done) | (simp [*]; done)), H', ⟨by have := HJ6.out; first | omega | exact Nat.le_refl _⟩, by repeat (first | exact Drawn0.refl _ | apply Drawn0.step)⟩
            · rw [if_neg c14] at H
              have c14b0 : (t107 == 0) = false := beq_eq_false_iff_ne.mpr c14
              have c14b1 : (t107 != 0) = true := bne_iff_ne.mpr c14
              (first | rw [c14b0] | (simp only [i64_w, i32_w]; rw [c14b0]) | skip)
              have H' := Aside0.mk H
              clear H
              go_wp2
              go_meet
              case rel => exact ⟨_, (true), (by first | rfl | (simp; done) | (simp [*]; done)), H', ⟨by have := HJ6.out; first | omega | exact Nat.le_refl _⟩, by repeat (first | exact Drawn0.refl _ | apply Drawn0.step)⟩
          case rest =>
            clear HC13
            try clear c1
            try clear p2
            try clear c3
            try clear c5
            try clear c6
            try clear c7
            try clear c8
            try clear c8b0
            try clear c9
            try clear c9b0
            try clear c10
            try clear c10b0
            try clear c11
            try clear c14
            try clear c14b0
            try clear c14b1
            try clear c15
            try clear c15b0
            try clear c15b1
            try clear c16
            try clear c16b0
            try clear c16b1
            try clear c17
            try clear c17b0
            try clear c17b1
            try clear p2
            obtain ⟨kq, x72_12, rfl, HA, HJ12, ⟨mc12, rfl⟩⟩ := hcut
            cases kq with
            | zero => exact absurd HA.out (by simp [reverielaw14_TableHeads.j1])
            | succ kj12 =>
              have H := HA.out
              clear HA
              simp only [reverielaw14_TableHeads.j1] at H
              by_cases c18 : x72_12 = true
              · subst c18
                have H1 : (some false) = some r := by rw [if_pos rfl] at H; exact H
                clear H
                have H := H1
                clear H1
                obtain rfl := Option.some.inj H
                go_wp2
                go_ret
                exact ⟨by first | rfl | (simp; done) | (simp [*]; done), by repeat (first | exact Drawn0.refl _ | apply Drawn0.step)⟩
              · replace c18 := Bool.eq_false_iff.mpr c18
                subst c18
                have H1 : ((table_Split.f a2).bind fun bt111 => (if (Int.tmod a2 4294967296) < 2147483648 then (if (IntKind.u64.wrap (Int.tdiv a2 4294967296)) ≥ 1 then (if (IntKind.u64.wrap (Int.tdiv a2 4294967296)) ≤ 60 then (if bt111.2.2 = 0 then (if (IntKind.u64.wrap (bt111.1)) = (Int.tmod a2 4294967296) then (some ((IntKind.u64.wrap (bt111.2.1)) == (IntKind.u64.wrap (Int.tdiv a2 4294967296)))) else (some false)) else (some false)) else (if bt111.2.2 = 12 then (if bt111.1 = 0 then (some (bt111.2.1 == 0)) else (some false)) else (some false))) else (if bt111.2.2 = 12 then (if bt111.1 = 0 then (some (bt111.2.1 == 0)) else (some false)) else (some false))) else (if bt111.2.2 = 12 then (if bt111.1 = 0 then (some (bt111.2.1 == 0)) else (some false)) else (some false)))) = some r := by rw [if_neg (show ¬ (false = true) by decide)] at H; exact H
                clear H
                have H := H1
                clear H1
                replace H := Option.bind_eq_some_iff.mp H
                obtain ⟨⟨t111, t112, t113⟩, A190, H⟩ := H
                replace H : (if (Int.tmod a2 4294967296) < 2147483648 then (if (IntKind.u64.wrap (Int.tdiv a2 4294967296)) ≥ 1 then (if (IntKind.u64.wrap (Int.tdiv a2 4294967296)) ≤ 60 then (if t113 = 0 then (if (IntKind.u64.wrap (t111)) = (Int.tmod a2 4294967296) then (some ((IntKind.u64.wrap (t112)) == (IntKind.u64.wrap (Int.tdiv a2 4294967296)))) else (some false)) else (some false)) else (if t113 = 12 then (if t111 = 0 then (some (t112 == 0)) else (some false)) else (some false))) else (if t113 = 12 then (if t111 = 0 then (some (t112 == 0)) else (some false)) else (some false))) else (if t113 = 12 then (if t111 = 0 then (some (t112 == 0)) else (some false)) else (some false))) = some r := H
                have A19 := Aside0.mk A190
                clear A190
                by_cases c20 : (Int.tmod a2 4294967296) < 2147483648
                · rw [if_pos c20] at H
                  have c20b0 : decide ((Int.tmod a2 4294967296) < 2147483648) = true := decide_eq_true c20
                  clear c20
                  by_cases c21 : (IntKind.u64.wrap (Int.tdiv a2 4294967296)) ≥ 1
                  · rw [if_pos c21] at H
                    have c21b0 : decide (1 ≤ (IntKind.u64.wrap (Int.tdiv a2 4294967296))) = true := decide_eq_true c21
                    clear c21
                    by_cases c22 : (IntKind.u64.wrap (Int.tdiv a2 4294967296)) ≤ 60
                    · rw [if_pos c22] at H
                      have c22b0 : decide ((IntKind.u64.wrap (Int.tdiv a2 4294967296)) ≤ 60) = true := decide_eq_true c22
                      clear c22
                      by_cases c23 : t113 = 0
                      · rw [if_pos c23] at H
                        have c23b0 : (t113 == 0) = true := beq_iff_eq.mpr c23
                        have c23b1 : (t113 != 0) = false := bne_eq_false_iff_eq.mpr c23
                        clear c23
                        by_cases c24 : (IntKind.u64.wrap (t111)) = (Int.tmod a2 4294967296)
                        · rw [if_pos c24] at H
                          have c24b0 : ((IntKind.u64.wrap (t111)) == (Int.tmod a2 4294967296)) = true := beq_iff_eq.mpr c24
                          have c24b1 : ((IntKind.u64.wrap (t111)) != (Int.tmod a2 4294967296)) = false := bne_eq_false_iff_eq.mpr c24
                          clear c24
                          obtain rfl := Option.some.inj H
                          go_wp2_with (first | ((with_reducible refine gate_callee (f := 8) rfl ?_); refine goesL_ (some 81) rfl rfl Try.func8 (by kernel_rfl) rfl #[.int .u64 a2] rfl (by (try simp only [List.map_toArray, List.map_cons, List.map_nil]); first | done | rfl | (simp only [List.length_drop, List.length_take]; rfl)) ?_; (with_reducible refine (table_Split.calls a2 t111 t112 t113 _ A19.out).mono ?_); rintro e w' ⟨rfl, ⟨nd, rfl⟩⟩; refine ⟨_, rfl, ?_⟩))
                          go_ret
                          exact ⟨by first | rfl | (simp; done) | (simp [*]; done), by repeat (first | exact Drawn0.refl _ | apply Drawn0.step)⟩
                        · rw [if_neg c24] at H
                          have c24b0 : ((IntKind.u64.wrap (t111)) == (Int.tmod a2 4294967296)) = false := beq_eq_false_iff_ne.mpr c24
                          have c24b1 : ((IntKind.u64.wrap (t111)) != (Int.tmod a2 4294967296)) = true := bne_iff_ne.mpr c24
                          obtain rfl := Option.some.inj H
                          go_wp2_with (first | ((with_reducible refine gate_callee (f := 8) rfl ?_); refine goesL_ (some 81) rfl rfl Try.func8 (by kernel_rfl) rfl #[.int .u64 a2] rfl (by (try simp only [List.map_toArray, List.map_cons, List.map_nil]); first | done | rfl | (simp only [List.length_drop, List.length_take]; rfl)) ?_; (with_reducible refine (table_Split.calls a2 t111 t112 t113 _ A19.out).mono ?_); rintro e w' ⟨rfl, ⟨nd, rfl⟩⟩; refine ⟨_, rfl, ?_⟩))
                          go_ret
                          exact ⟨by first | rfl | (simp; done) | (simp [*]; done), by repeat (first | exact Drawn0.refl _ | apply Drawn0.step)⟩
                      · rw [if_neg c23] at H
                        have c23b0 : (t113 == 0) = false := beq_eq_false_iff_ne.mpr c23
                        have c23b1 : (t113 != 0) = true := bne_iff_ne.mpr c23
                        obtain rfl := Option.some.inj H
                        go_wp2_with (first | ((with_reducible refine gate_callee (f := 8) rfl ?_); refine goesL_ (some 81) rfl rfl Try.func8 (by kernel_rfl) rfl #[.int .u64 a2] rfl (by (try simp only [List.map_toArray, List.map_cons, List.map_nil]); first | done | rfl | (simp only [List.length_drop, List.length_take]; rfl)) ?_; (with_reducible refine (table_Split.calls a2 t111 t112 t113 _ A19.out).mono ?_); rintro e w' ⟨rfl, ⟨nd, rfl⟩⟩; refine ⟨_, rfl, ?_⟩))
                        go_ret
                        exact ⟨by first | rfl | (simp; done) | (simp [*]; done), by repeat (first | exact Drawn0.refl _ | apply Drawn0.step)⟩
                    · rw [if_neg c22] at H
                      have c22b0 : decide ((IntKind.u64.wrap (Int.tdiv a2 4294967296)) ≤ 60) = false := decide_eq_false c22
                      clear c22
                      by_cases c25 : t113 = 12
                      · rw [if_pos c25] at H
                        have c25b0 : (t113 == 12) = true := beq_iff_eq.mpr c25
                        have c25b1 : (t113 != 12) = false := bne_eq_false_iff_eq.mpr c25
                        clear c25
                        by_cases c26 : t111 = 0
                        · rw [if_pos c26] at H
                          have c26b0 : (t111 == 0) = true := beq_iff_eq.mpr c26
                          have c26b1 : (t111 != 0) = false := bne_eq_false_iff_eq.mpr c26
                          clear c26
                          obtain rfl := Option.some.inj H
                          go_wp2_with (first | ((with_reducible refine gate_callee (f := 8) rfl ?_); refine goesL_ (some 81) rfl rfl Try.func8 (by kernel_rfl) rfl #[.int .u64 a2] rfl (by (try simp only [List.map_toArray, List.map_cons, List.map_nil]); first | done | rfl | (simp only [List.length_drop, List.length_take]; rfl)) ?_; (with_reducible refine (table_Split.calls a2 t111 t112 t113 _ A19.out).mono ?_); rintro e w' ⟨rfl, ⟨nd, rfl⟩⟩; refine ⟨_, rfl, ?_⟩))
                          go_ret
                          exact ⟨by first | rfl | (simp; done) | (simp [*]; done), by repeat (first | exact Drawn0.refl _ | apply Drawn0.step)⟩
                        · rw [if_neg c26] at H
                          have c26b0 : (t111 == 0) = false := beq_eq_false_iff_ne.mpr c26
                          have c26b1 : (t111 != 0) = true := bne_iff_ne.mpr c26
                          obtain rfl := Option.some.inj H
                          go_wp2_with (first | ((with_reducible refine gate_callee (f := 8) rfl ?_); refine goesL_ (some 81) rfl rfl Try.func8 (by kernel_rfl) rfl #[.int .u64 a2] rfl (by (try simp only [List.map_toArray, List.map_cons, List.map_nil]); first | done | rfl | (simp only [List.length_drop, List.length_take]; rfl)) ?_; (with_reducible refine (table_Split.calls a2 t111 t112 t113 _ A19.out).mono ?_); rintro e w' ⟨rfl, ⟨nd, rfl⟩⟩; refine ⟨_, rfl, ?_⟩))
                          go_ret
                          exact ⟨by first | rfl | (simp; done) | (simp [*]; done), by repeat (first | exact Drawn0.refl _ | apply Drawn0.step)⟩
                      · rw [if_neg c25] at H
                        have c25b0 : (t113 == 12) = false := beq_eq_false_iff_ne.mpr c25
                        have c25b1 : (t113 != 12) = true := bne_iff_ne.mpr c25
                        obtain rfl := Option.some.inj H
                        go_wp2_with (first | ((with_reducible refine gate_callee (f := 8) rfl ?_); refine goesL_ (some 81) rfl rfl Try.func8 (by kernel_rfl) rfl #[.int .u64 a2] rfl (by (try simp only [List.map_toArray, List.map_cons, List.map_nil]); first | done | rfl | (simp only [List.length_drop, List.length_take]; rfl)) ?_; (with_reducible refine (table_Split.calls a2 t111 t112 t113 _ A19.out).mono ?_); rintro e w' ⟨rfl, ⟨nd, rfl⟩⟩; refine ⟨_, rfl, ?_⟩))
                        go_ret
                        exact ⟨by first | rfl | (simp; done) | (simp [*]; done), by repeat (first | exact Drawn0.refl _ | apply Drawn0.step)⟩
                  · rw [if_neg c21] at H
                    have c21b0 : decide (1 ≤ (IntKind.u64.wrap (Int.tdiv a2 4294967296))) = false := decide_eq_false c21
                    clear c21
                    by_cases c27 : t113 = 12
                    · rw [if_pos c27] at H
                      have c27b0 : (t113 == 12) = true := beq_iff_eq.mpr c27
                      have c27b1 : (t113 != 12) = false := bne_eq_false_iff_eq.mpr c27
                      clear c27
                      by_cases c28 : t111 = 0
                      · rw [if_pos c28] at H
                        have c28b0 : (t111 == 0) = true := beq_iff_eq.mpr c28
                        have c28b1 : (t111 != 0) = false := bne_eq_false_iff_eq.mpr c28
                        clear c28
                        obtain rfl := Option.some.inj H
                        go_wp2_with (first | ((with_reducible refine gate_callee (f := 8) rfl ?_); refine goesL_ (some 81) rfl rfl Try.func8 (by kernel_rfl) rfl #[.int .u64 a2] rfl (by (try simp only [List.map_toArray, List.map_cons, List.map_nil]); first | done | rfl | (simp only [List.length_drop, List.length_take]; rfl)) ?_; (with_reducible refine (table_Split.calls a2 t111 t112 t113 _ A19.out).mono ?_); rintro e w' ⟨rfl, ⟨nd, rfl⟩⟩; refine ⟨_, rfl, ?_⟩))
                        go_ret
                        exact ⟨by first | rfl | (simp; done) | (simp [*]; done), by repeat (first | exact Drawn0.refl _ | apply Drawn0.step)⟩
                      · rw [if_neg c28] at H
                        have c28b0 : (t111 == 0) = false := beq_eq_false_iff_ne.mpr c28
                        have c28b1 : (t111 != 0) = true := bne_iff_ne.mpr c28
                        obtain rfl := Option.some.inj H
                        go_wp2_with (first | ((with_reducible refine gate_callee (f := 8) rfl ?_); refine goesL_ (some 81) rfl rfl Try.func8 (by kernel_rfl) rfl #[.int .u64 a2] rfl (by (try simp only [List.map_toArray, List.map_cons, List.map_nil]); first | done | rfl | (simp only [List.length_drop, List.length_take]; rfl)) ?_; (with_reducible refine (table_Split.calls a2 t111 t112 t113 _ A19.out).mono ?_); rintro e w' ⟨rfl, ⟨nd, rfl⟩⟩; refine ⟨_, rfl, ?_⟩))
                        go_ret
                        exact ⟨by first | rfl | (simp; done) | (simp [*]; done), by repeat (first | exact Drawn0.refl _ | apply Drawn0.step)⟩
                    · rw [if_neg c27] at H
                      have c27b0 : (t113 == 12) = false := beq_eq_false_iff_ne.mpr c27
                      have c27b1 : (t113 != 12) = true := bne_iff_ne.mpr c27
                      obtain rfl := Option.some.inj H
                      go_wp2_with (first | ((with_reducible refine gate_callee (f := 8) rfl ?_); refine goesL_ (some 81) rfl rfl Try.func8 (by kernel_rfl) rfl #[.int .u64 a2] rfl (by (try simp only [List.map_toArray, List.map_cons, List.map_nil]); first | done | rfl | (simp only [List.length_drop, List.length_take]; rfl)) ?_; (with_reducible refine (table_Split.calls a2 t111 t112 t113 _ A19.out).mono ?_); rintro e w' ⟨rfl, ⟨nd, rfl⟩⟩; refine ⟨_, rfl, ?_⟩))
                      go_ret
                      exact ⟨by first | rfl | (simp; done) | (simp [*]; done), by repeat (first | exact Drawn0.refl _ | apply Drawn0.step)⟩
                · rw [if_neg c20] at H
                  have c20b0 : decide ((Int.tmod a2 4294967296) < 2147483648) = false := decide_eq_false c20
                  clear c20
                  by_cases c29 : t113 = 12
                  · rw [if_pos c29] at H
                    have c29b0 : (t113 == 12) = true := beq_iff_eq.mpr c29
                    have c29b1 : (t113 != 12) = false := bne_eq_false_iff_eq.mpr c29
                    clear c29
                    by_cases c30 : t111 = 0
                    · rw [if_pos c30] at H
                      have c30b0 : (t111 == 0) = true := beq_iff_eq.mpr c30
                      have c30b1 : (t111 != 0) = false := bne_eq_false_iff_eq.mpr c30
                      clear c30
                      obtain rfl := Option.some.inj H
                      go_wp2_with (first | ((with_reducible refine gate_callee (f := 8) rfl ?_); refine goesL_ (some 81) rfl rfl Try.func8 (by kernel_rfl) rfl #[.int .u64 a2] rfl (by (try simp only [List.map_toArray, List.map_cons, List.map_nil]); first | done | rfl | (simp only [List.length_drop, List.length_take]; rfl)) ?_; (with_reducible refine (table_Split.calls a2 t111 t112 t113 _ A19.out).mono ?_); rintro e w' ⟨rfl, ⟨nd, rfl⟩⟩; refine ⟨_, rfl, ?_⟩))
                      go_ret
                      exact ⟨by first | rfl | (simp; done) | (simp [*]; done), by repeat (first | exact Drawn0.refl _ | apply Drawn0.step)⟩
                    · rw [if_neg c30] at H
                      have c30b0 : (t111 == 0) = false := beq_eq_false_iff_ne.mpr c30
                      have c30b1 : (t111 != 0) = true := bne_iff_ne.mpr c30
                      obtain rfl := Option.some.inj H
                      go_wp2_with (first | ((with_reducible refine gate_callee (f := 8) rfl ?_); refine goesL_ (some 81) rfl rfl Try.func8 (by kernel_rfl) rfl #[.int .u64 a2] rfl (by (try simp only [List.map_toArray, List.map_cons, List.map_nil]); first | done | rfl | (simp only [List.length_drop, List.length_take]; rfl)) ?_; (with_reducible refine (table_Split.calls a2 t111 t112 t113 _ A19.out).mono ?_); rintro e w' ⟨rfl, ⟨nd, rfl⟩⟩; refine ⟨_, rfl, ?_⟩))
                      go_ret
                      exact ⟨by first | rfl | (simp; done) | (simp [*]; done), by repeat (first | exact Drawn0.refl _ | apply Drawn0.step)⟩
                  · rw [if_neg c29] at H
                    have c29b0 : (t113 == 12) = false := beq_eq_false_iff_ne.mpr c29
                    have c29b1 : (t113 != 12) = true := bne_iff_ne.mpr c29
                    obtain rfl := Option.some.inj H
                    go_wp2_with (first | ((with_reducible refine gate_callee (f := 8) rfl ?_); refine goesL_ (some 81) rfl rfl Try.func8 (by kernel_rfl) rfl #[.int .u64 a2] rfl (by (try simp only [List.map_toArray, List.map_cons, List.map_nil]); first | done | rfl | (simp only [List.length_drop, List.length_take]; rfl)) ?_; (with_reducible refine (table_Split.calls a2 t111 t112 t113 _ A19.out).mono ?_); rintro e w' ⟨rfl, ⟨nd, rfl⟩⟩; refine ⟨_, rfl, ?_⟩))
                    go_ret
                    exact ⟨by first | rfl | (simp; done) | (simp [*]; done), by repeat (first | exact Drawn0.refl _ | apply Drawn0.step)⟩
        · replace c11 := Bool.eq_false_iff.mpr c11
          subst c11
          have H1 : (if t107 = 1 then (reverielaw14_TableHeads.j2 kj6 a2 (t106 != 0)) else (reverielaw14_TableHeads.j2 kj6 a2 true)) = some r := by rw [if_neg (show ¬ (false = true) by decide)] at H; exact H
          clear H
          have H := H1
          clear H1
          have HC31 := Aside0.mk H
          clear H
          go_upto_region 9 with (fail)
          go_cut [78] (fun v78 wc => ∃ (kq : Nat) (x78_30 : Bool), v78 = .bool x78_30 ∧ Aside0 (reverielaw14_TableHeads.j2 kq a2 x78_30 = some r) ∧ Aside0 (kq ≤ kj6) ∧ Drawn0 w wc)
          case first =>
            have H := HC31.out
            clear HC31
            by_cases c32 : t107 = 1
            · rw [if_pos c32] at H
              have c32b0 : (t107 == 1) = true := beq_iff_eq.mpr c32
              have c32b1 : (t107 != 1) = false := bne_eq_false_iff_eq.mpr c32
              clear c32
              (first | rw [c32b0] | (simp only [i64_w, i32_w]; rw [c32b0]) | skip)
              have H' := Aside0.mk H
              clear H
              go_wp2
              go_meet
              case rel => exact ⟨_, ((t106 != 0)), (by first | rfl | (simp; done) | (simp [*]; done)), H', ⟨by have := HJ6.out; first | omega | exact Nat.le_refl _⟩, by repeat (first | exact Drawn0.refl _ | apply Drawn0.step)⟩
            · rw [if_neg c32] at H
              have c32b0 : (t107 == 1) = false := beq_eq_false_iff_ne.mpr c32
              have c32b1 : (t107 != 1) = true := bne_iff_ne.mpr c32
              (first | rw [c32b0] | (simp only [i64_w, i32_w]; rw [c32b0]) | skip)
              have H' := Aside0.mk H
              clear H
              go_wp2
              go_meet
              case rel => exact ⟨_, (true), (by first | rfl | (simp; done) | (simp [*]; done)), H', ⟨by have := HJ6.out; first | omega | exact Nat.le_refl _⟩, by repeat (first | exact Drawn0.refl _ | apply Drawn0.step)⟩
          case rest =>
            clear HC31
            try clear c1
            try clear c2
            try clear p2
            try clear c3
            try clear c5
            try clear c6
            try clear c7
            try clear c8
            try clear c8b0
            try clear c9
            try clear c9b0
            try clear c10
            try clear c10b0
            try clear c11
            try clear c12
            try clear c14
            try clear c14b0
            try clear c14b1
            try clear c15
            try clear c15b0
            try clear c15b1
            try clear c16
            try clear c16b0
            try clear c16b1
            try clear c17
            try clear c17b0
            try clear c17b1
            try clear c18
            try clear c20
            try clear c20b0
            try clear c21
            try clear c21b0
            try clear c22
            try clear c22b0
            try clear c23
            try clear c23b0
            try clear c23b1
            try clear c24
            try clear c24b0
            try clear c24b1
            try clear c25
            try clear c25b0
            try clear c25b1
            try clear c26
            try clear c26b0
            try clear c26b1
            try clear c27
            try clear c27b0
            try clear c27b1
            try clear c28
            try clear c28b0
            try clear c28b1
            try clear c29
            try clear c29b0
            try clear c29b1
            try clear c30
            try clear c30b0
            try clear c30b1
            try clear c32
            try clear c32b0
            try clear c32b1
            try clear p2
            obtain ⟨kq, x78_30, rfl, HA, HJ30, ⟨mc30, rfl⟩⟩ := hcut
            cases kq with
            | zero => exact absurd HA.out (by simp [reverielaw14_TableHeads.j2])
            | succ kj30 =>
              have H := HA.out
              clear HA
              simp only [reverielaw14_TableHeads.j2] at H
              by_cases c33 : x78_30 = true
              · subst c33
                have H1 : (some false) = some r := by rw [if_pos rfl] at H; exact H
                clear H
                have H := H1
                clear H1
                obtain rfl := Option.some.inj H
                go_wp2
                go_ret
                exact ⟨by first | rfl | (simp; done) | (simp [*]; done), by repeat (first | exact Drawn0.refl _ | apply Drawn0.step)⟩
              · replace c33 := Bool.eq_false_iff.mpr c33
                subst c33
                have H1 : ((table_Split.f a2).bind fun bt114 => (if (Int.tmod a2 4294967296) < 2147483648 then (if (IntKind.u64.wrap (Int.tdiv a2 4294967296)) ≥ 1 then (if (IntKind.u64.wrap (Int.tdiv a2 4294967296)) ≤ 60 then (if bt114.2.2 = 0 then (if (IntKind.u64.wrap (bt114.1)) = (Int.tmod a2 4294967296) then (some ((IntKind.u64.wrap (bt114.2.1)) == (IntKind.u64.wrap (Int.tdiv a2 4294967296)))) else (some false)) else (some false)) else (if bt114.2.2 = 12 then (if bt114.1 = 0 then (some (bt114.2.1 == 0)) else (some false)) else (some false))) else (if bt114.2.2 = 12 then (if bt114.1 = 0 then (some (bt114.2.1 == 0)) else (some false)) else (some false))) else (if bt114.2.2 = 12 then (if bt114.1 = 0 then (some (bt114.2.1 == 0)) else (some false)) else (some false)))) = some r := by rw [if_neg (show ¬ (false = true) by decide)] at H; exact H
                clear H
                have H := H1
                clear H1
                replace H := Option.bind_eq_some_iff.mp H
                obtain ⟨⟨t114, t115, t116⟩, A340, H⟩ := H
                replace H : (if (Int.tmod a2 4294967296) < 2147483648 then (if (IntKind.u64.wrap (Int.tdiv a2 4294967296)) ≥ 1 then (if (IntKind.u64.wrap (Int.tdiv a2 4294967296)) ≤ 60 then (if t116 = 0 then (if (IntKind.u64.wrap (t114)) = (Int.tmod a2 4294967296) then (some ((IntKind.u64.wrap (t115)) == (IntKind.u64.wrap (Int.tdiv a2 4294967296)))) else (some false)) else (some false)) else (if t116 = 12 then (if t114 = 0 then (some (t115 == 0)) else (some false)) else (some false))) else (if t116 = 12 then (if t114 = 0 then (some (t115 == 0)) else (some false)) else (some false))) else (if t116 = 12 then (if t114 = 0 then (some (t115 == 0)) else (some false)) else (some false))) = some r := H
                have A34 := Aside0.mk A340
                clear A340
                by_cases c35 : (Int.tmod a2 4294967296) < 2147483648
                · rw [if_pos c35] at H
                  have c35b0 : decide ((Int.tmod a2 4294967296) < 2147483648) = true := decide_eq_true c35
                  clear c35
                  by_cases c36 : (IntKind.u64.wrap (Int.tdiv a2 4294967296)) ≥ 1
                  · rw [if_pos c36] at H
                    have c36b0 : decide (1 ≤ (IntKind.u64.wrap (Int.tdiv a2 4294967296))) = true := decide_eq_true c36
                    clear c36
                    by_cases c37 : (IntKind.u64.wrap (Int.tdiv a2 4294967296)) ≤ 60
                    · rw [if_pos c37] at H
                      have c37b0 : decide ((IntKind.u64.wrap (Int.tdiv a2 4294967296)) ≤ 60) = true := decide_eq_true c37
                      clear c37
                      by_cases c38 : t116 = 0
                      · rw [if_pos c38] at H
                        have c38b0 : (t116 == 0) = true := beq_iff_eq.mpr c38
                        have c38b1 : (t116 != 0) = false := bne_eq_false_iff_eq.mpr c38
                        clear c38
                        by_cases c39 : (IntKind.u64.wrap (t114)) = (Int.tmod a2 4294967296)
                        · rw [if_pos c39] at H
                          have c39b0 : ((IntKind.u64.wrap (t114)) == (Int.tmod a2 4294967296)) = true := beq_iff_eq.mpr c39
                          have c39b1 : ((IntKind.u64.wrap (t114)) != (Int.tmod a2 4294967296)) = false := bne_eq_false_iff_eq.mpr c39
                          clear c39
                          obtain rfl := Option.some.inj H
                          go_wp2_with (first | ((with_reducible refine gate_callee (f := 8) rfl ?_); refine goesL_ (some 81) rfl rfl Try.func8 (by kernel_rfl) rfl #[.int .u64 a2] rfl (by (try simp only [List.map_toArray, List.map_cons, List.map_nil]); first | done | rfl | (simp only [List.length_drop, List.length_take]; rfl)) ?_; (with_reducible refine (table_Split.calls a2 t114 t115 t116 _ A34.out).mono ?_); rintro e w' ⟨rfl, ⟨nd, rfl⟩⟩; refine ⟨_, rfl, ?_⟩))
                          go_ret
                          exact ⟨by first | rfl | (simp; done) | (simp [*]; done), by repeat (first | exact Drawn0.refl _ | apply Drawn0.step)⟩
                        · rw [if_neg c39] at H
                          have c39b0 : ((IntKind.u64.wrap (t114)) == (Int.tmod a2 4294967296)) = false := beq_eq_false_iff_ne.mpr c39
                          have c39b1 : ((IntKind.u64.wrap (t114)) != (Int.tmod a2 4294967296)) = true := bne_iff_ne.mpr c39
                          obtain rfl := Option.some.inj H
                          go_wp2_with (first | ((with_reducible refine gate_callee (f := 8) rfl ?_); refine goesL_ (some 81) rfl rfl Try.func8 (by kernel_rfl) rfl #[.int .u64 a2] rfl (by (try simp only [List.map_toArray, List.map_cons, List.map_nil]); first | done | rfl | (simp only [List.length_drop, List.length_take]; rfl)) ?_; (with_reducible refine (table_Split.calls a2 t114 t115 t116 _ A34.out).mono ?_); rintro e w' ⟨rfl, ⟨nd, rfl⟩⟩; refine ⟨_, rfl, ?_⟩))
                          go_ret
                          exact ⟨by first | rfl | (simp; done) | (simp [*]; done), by repeat (first | exact Drawn0.refl _ | apply Drawn0.step)⟩
                      · rw [if_neg c38] at H
                        have c38b0 : (t116 == 0) = false := beq_eq_false_iff_ne.mpr c38
                        have c38b1 : (t116 != 0) = true := bne_iff_ne.mpr c38
                        obtain rfl := Option.some.inj H
                        go_wp2_with (first | ((with_reducible refine gate_callee (f := 8) rfl ?_); refine goesL_ (some 81) rfl rfl Try.func8 (by kernel_rfl) rfl #[.int .u64 a2] rfl (by (try simp only [List.map_toArray, List.map_cons, List.map_nil]); first | done | rfl | (simp only [List.length_drop, List.length_take]; rfl)) ?_; (with_reducible refine (table_Split.calls a2 t114 t115 t116 _ A34.out).mono ?_); rintro e w' ⟨rfl, ⟨nd, rfl⟩⟩; refine ⟨_, rfl, ?_⟩))
                        go_ret
                        exact ⟨by first | rfl | (simp; done) | (simp [*]; done), by repeat (first | exact Drawn0.refl _ | apply Drawn0.step)⟩
                    · rw [if_neg c37] at H
                      have c37b0 : decide ((IntKind.u64.wrap (Int.tdiv a2 4294967296)) ≤ 60) = false := decide_eq_false c37
                      clear c37
                      by_cases c40 : t116 = 12
                      · rw [if_pos c40] at H
                        have c40b0 : (t116 == 12) = true := beq_iff_eq.mpr c40
                        have c40b1 : (t116 != 12) = false := bne_eq_false_iff_eq.mpr c40
                        clear c40
                        by_cases c41 : t114 = 0
                        · rw [if_pos c41] at H
                          have c41b0 : (t114 == 0) = true := beq_iff_eq.mpr c41
                          have c41b1 : (t114 != 0) = false := bne_eq_false_iff_eq.mpr c41
                          clear c41
                          obtain rfl := Option.some.inj H
                          go_wp2_with (first | ((with_reducible refine gate_callee (f := 8) rfl ?_); refine goesL_ (some 81) rfl rfl Try.func8 (by kernel_rfl) rfl #[.int .u64 a2] rfl (by (try simp only [List.map_toArray, List.map_cons, List.map_nil]); first | done | rfl | (simp only [List.length_drop, List.length_take]; rfl)) ?_; (with_reducible refine (table_Split.calls a2 t114 t115 t116 _ A34.out).mono ?_); rintro e w' ⟨rfl, ⟨nd, rfl⟩⟩; refine ⟨_, rfl, ?_⟩))
                          go_ret
                          exact ⟨by first | rfl | (simp; done) | (simp [*]; done), by repeat (first | exact Drawn0.refl _ | apply Drawn0.step)⟩
                        · rw [if_neg c41] at H
                          have c41b0 : (t114 == 0) = false := beq_eq_false_iff_ne.mpr c41
                          have c41b1 : (t114 != 0) = true := bne_iff_ne.mpr c41
                          obtain rfl := Option.some.inj H
                          go_wp2_with (first | ((with_reducible refine gate_callee (f := 8) rfl ?_); refine goesL_ (some 81) rfl rfl Try.func8 (by kernel_rfl) rfl #[.int .u64 a2] rfl (by (try simp only [List.map_toArray, List.map_cons, List.map_nil]); first | done | rfl | (simp only [List.length_drop, List.length_take]; rfl)) ?_; (with_reducible refine (table_Split.calls a2 t114 t115 t116 _ A34.out).mono ?_); rintro e w' ⟨rfl, ⟨nd, rfl⟩⟩; refine ⟨_, rfl, ?_⟩))
                          go_ret
                          exact ⟨by first | rfl | (simp; done) | (simp [*]; done), by repeat (first | exact Drawn0.refl _ | apply Drawn0.step)⟩
                      · rw [if_neg c40] at H
                        have c40b0 : (t116 == 12) = false := beq_eq_false_iff_ne.mpr c40
                        have c40b1 : (t116 != 12) = true := bne_iff_ne.mpr c40
                        obtain rfl := Option.some.inj H
                        go_wp2_with (first | ((with_reducible refine gate_callee (f := 8) rfl ?_); refine goesL_ (some 81) rfl rfl Try.func8 (by kernel_rfl) rfl #[.int .u64 a2] rfl (by (try simp only [List.map_toArray, List.map_cons, List.map_nil]); first | done | rfl | (simp only [List.length_drop, List.length_take]; rfl)) ?_; (with_reducible refine (table_Split.calls a2 t114 t115 t116 _ A34.out).mono ?_); rintro e w' ⟨rfl, ⟨nd, rfl⟩⟩; refine ⟨_, rfl, ?_⟩))
                        go_ret
                        exact ⟨by first | rfl | (simp; done) | (simp [*]; done), by repeat (first | exact Drawn0.refl _ | apply Drawn0.step)⟩
                  · rw [if_neg c36] at H
                    have c36b0 : decide (1 ≤ (IntKind.u64.wrap (Int.tdiv a2 4294967296))) = false := decide_eq_false c36
                    clear c36
                    by_cases c42 : t116 = 12
                    · rw [if_pos c42] at H
                      have c42b0 : (t116 == 12) = true := beq_iff_eq.mpr c42
                      have c42b1 : (t116 != 12) = false := bne_eq_false_iff_eq.mpr c42
                      clear c42
                      by_cases c43 : t114 = 0
                      · rw [if_pos c43] at H
                        have c43b0 : (t114 == 0) = true := beq_iff_eq.mpr c43
                        have c43b1 : (t114 != 0) = false := bne_eq_false_iff_eq.mpr c43
                        clear c43
                        obtain rfl := Option.some.inj H
                        go_wp2_with (first | ((with_reducible refine gate_callee (f := 8) rfl ?_); refine goesL_ (some 81) rfl rfl Try.func8 (by kernel_rfl) rfl #[.int .u64 a2] rfl (by (try simp only [List.map_toArray, List.map_cons, List.map_nil]); first | done | rfl | (simp only [List.length_drop, List.length_take]; rfl)) ?_; (with_reducible refine (table_Split.calls a2 t114 t115 t116 _ A34.out).mono ?_); rintro e w' ⟨rfl, ⟨nd, rfl⟩⟩; refine ⟨_, rfl, ?_⟩))
                        go_ret
                        exact ⟨by first | rfl | (simp; done) | (simp [*]; done), by repeat (first | exact Drawn0.refl _ | apply Drawn0.step)⟩
                      · rw [if_neg c43] at H
                        have c43b0 : (t114 == 0) = false := beq_eq_false_iff_ne.mpr c43
                        have c43b1 : (t114 != 0) = true := bne_iff_ne.mpr c43
                        obtain rfl := Option.some.inj H
                        go_wp2_with (first | ((with_reducible refine gate_callee (f := 8) rfl ?_); refine goesL_ (some 81) rfl rfl Try.func8 (by kernel_rfl) rfl #[.int .u64 a2] rfl (by (try simp only [List.map_toArray, List.map_cons, List.map_nil]); first | done | rfl | (simp only [List.length_drop, List.length_take]; rfl)) ?_; (with_reducible refine (table_Split.calls a2 t114 t115 t116 _ A34.out).mono ?_); rintro e w' ⟨rfl, ⟨nd, rfl⟩⟩; refine ⟨_, rfl, ?_⟩))
                        go_ret
                        exact ⟨by first | rfl | (simp; done) | (simp [*]; done), by repeat (first | exact Drawn0.refl _ | apply Drawn0.step)⟩
                    · rw [if_neg c42] at H
                      have c42b0 : (t116 == 12) = false := beq_eq_false_iff_ne.mpr c42
                      have c42b1 : (t116 != 12) = true := bne_iff_ne.mpr c42
                      obtain rfl := Option.some.inj H
                      go_wp2_with (first | ((with_reducible refine gate_callee (f := 8) rfl ?_); refine goesL_ (some 81) rfl rfl Try.func8 (by kernel_rfl) rfl #[.int .u64 a2] rfl (by (try simp only [List.map_toArray, List.map_cons, List.map_nil]); first | done | rfl | (simp only [List.length_drop, List.length_take]; rfl)) ?_; (with_reducible refine (table_Split.calls a2 t114 t115 t116 _ A34.out).mono ?_); rintro e w' ⟨rfl, ⟨nd, rfl⟩⟩; refine ⟨_, rfl, ?_⟩))
                      go_ret
                      exact ⟨by first | rfl | (simp; done) | (simp [*]; done), by repeat (first | exact Drawn0.refl _ | apply Drawn0.step)⟩
                · rw [if_neg c35] at H
                  have c35b0 : decide ((Int.tmod a2 4294967296) < 2147483648) = false := decide_eq_false c35
                  clear c35
                  by_cases c44 : t116 = 12
                  · rw [if_pos c44] at H
                    have c44b0 : (t116 == 12) = true := beq_iff_eq.mpr c44
                    have c44b1 : (t116 != 12) = false := bne_eq_false_iff_eq.mpr c44
                    clear c44
                    by_cases c45 : t114 = 0
                    · rw [if_pos c45] at H
                      have c45b0 : (t114 == 0) = true := beq_iff_eq.mpr c45
                      have c45b1 : (t114 != 0) = false := bne_eq_false_iff_eq.mpr c45
                      clear c45
                      obtain rfl := Option.some.inj H
                      go_wp2_with (first | ((with_reducible refine gate_callee (f := 8) rfl ?_); refine goesL_ (some 81) rfl rfl Try.func8 (by kernel_rfl) rfl #[.int .u64 a2] rfl (by (try simp only [List.map_toArray, List.map_cons, List.map_nil]); first | done | rfl | (simp only [List.length_drop, List.length_take]; rfl)) ?_; (with_reducible refine (table_Split.calls a2 t114 t115 t116 _ A34.out).mono ?_); rintro e w' ⟨rfl, ⟨nd, rfl⟩⟩; refine ⟨_, rfl, ?_⟩))
                      go_ret
                      exact ⟨by first | rfl | (simp; done) | (simp [*]; done), by repeat (first | exact Drawn0.refl _ | apply Drawn0.step)⟩
                    · rw [if_neg c45] at H
                      have c45b0 : (t114 == 0) = false := beq_eq_false_iff_ne.mpr c45
                      have c45b1 : (t114 != 0) = true := bne_iff_ne.mpr c45
                      obtain rfl := Option.some.inj H
                      go_wp2_with (first | ((with_reducible refine gate_callee (f := 8) rfl ?_); refine goesL_ (some 81) rfl rfl Try.func8 (by kernel_rfl) rfl #[.int .u64 a2] rfl (by (try simp only [List.map_toArray, List.map_cons, List.map_nil]); first | done | rfl | (simp only [List.length_drop, List.length_take]; rfl)) ?_; (with_reducible refine (table_Split.calls a2 t114 t115 t116 _ A34.out).mono ?_); rintro e w' ⟨rfl, ⟨nd, rfl⟩⟩; refine ⟨_, rfl, ?_⟩))
                      go_ret
                      exact ⟨by first | rfl | (simp; done) | (simp [*]; done), by repeat (first | exact Drawn0.refl _ | apply Drawn0.step)⟩
                  · rw [if_neg c44] at H
                    have c44b0 : (t116 == 12) = false := beq_eq_false_iff_ne.mpr c44
                    have c44b1 : (t116 != 12) = true := bne_iff_ne.mpr c44
                    obtain rfl := Option.some.inj H
                    go_wp2_with (first | ((with_reducible refine gate_callee (f := 8) rfl ?_); refine goesL_ (some 81) rfl rfl Try.func8 (by kernel_rfl) rfl #[.int .u64 a2] rfl (by (try simp only [List.map_toArray, List.map_cons, List.map_nil]); first | done | rfl | (simp only [List.length_drop, List.length_take]; rfl)) ?_; (with_reducible refine (table_Split.calls a2 t114 t115 t116 _ A34.out).mono ?_); rintro e w' ⟨rfl, ⟨nd, rfl⟩⟩; refine ⟨_, rfl, ?_⟩))
                    go_ret
                    exact ⟨by first | rfl | (simp; done) | (simp [*]; done), by repeat (first | exact Drawn0.refl _ | apply Drawn0.step)⟩
  · replace c5 := Bool.eq_false_iff.mpr c5
    subst c5
    have H1 : (some false) = some r := by rw [if_neg (show ¬ (false = true) by decide)] at H; exact H
    clear H
    have H := H1
    clear H1
    obtain rfl := Option.some.inj H
    go_enter Try.func3, Try.ntmps3
    go_wp2_with (first | ((with_reducible refine gate_callee (f := 6) rfl ?_); refine goesL_ (some 18) rfl rfl Try.func6 (by kernel_rfl) rfl #[] rfl (by (try simp only [List.map_toArray, List.map_cons, List.map_nil]); first | done | rfl | (simp only [List.length_drop, List.length_take]; rfl)) ?_; (with_reducible refine (reverielaw14_lives.calls  false _ A4.out).mono ?_); rintro e w' ⟨rfl, ⟨nd, rfl⟩⟩; refine ⟨_, rfl, ?_⟩))
    go_ret
    exact ⟨by first | rfl | (simp; done) | (simp [*]; done), by repeat (first | exact Drawn0.refl _ | apply Drawn0.step)⟩

/-- THE ONE PURE STATEMENT of reverielaw14_TableHeads: yours. -/
def reverielaw14_TableHeads.Pure : Prop := ∀ (a0 : Int) (a1 : Int) (a2 : Int), (Lit.int .i64 a0).wf = true → (Lit.int .i64 a1).wf = true → (Lit.int .u64 a2).wf = true → ∃ k, reverielaw14_TableHeads.f k a0 a1 a2 = some true
theorem reverielaw14_TableHeads.walk (P : reverielaw14_TableHeads.Pure) (a0 : Int) (a1 : Int) (a2 : Int) (w : World) (w0 : (Lit.int .i64 a0).wf = true) (w1 : (Lit.int .i64 a1).wf = true) (w2 : (Lit.int .u64 a2).wf = true) :
    Calls Try.prog 3 #[.int .i64 a0, .int .i64 a1, .int .u64 a2] w fun e w' => e = .returned (.bool true) ∧ Below w.heap.size w w' := by
  obtain ⟨k, h⟩ := P a0 a1 a2 w0 w1 w2
  refine (reverielaw14_TableHeads.calls k a0 a1 a2 true w h).mono ?_
  rintro e w' ⟨rfl, hd⟩
  exact ⟨rfl, hd.below⟩

end Go.Proofs.Ytdfbdjlcbjdabaa.PTableHeads
