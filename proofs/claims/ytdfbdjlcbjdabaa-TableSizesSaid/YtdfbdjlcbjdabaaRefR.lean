/- The reference's Right and Fits: what they answer. No condition. -/
import Derived.Test.YtdfbdjlcbjdabaaRef
namespace Go.Proofs.Ytdfbdjlcbjdabaa
open Go.RowKit
set_option linter.unusedVariables false
theorem obj_at2 (i : Inf) (w : World) (O : Obj) {j : Nat} (hj : j < 8) : ((w.alloc i.obj).alloc O).cell? ⟨w.heap.size, j, none⟩ = some (.int .i64 (i.at j)) := by
  rw [World.cell?_alloc_old _ _ _ (by show w.heap.size ≠ _; simp)]
  exact obj_at i w hj
def inRange (p n a t c o pk : Int) : Prop := (0 ≤ p ∧ p ≤ 60 ∧ 0 ≤ n ∧ n ≤ 60 ∧ p + n ≤ 60) ∧ 0 ≤ a ∧ 0 ≤ t ∧ 0 ≤ c ∧ 0 ≤ o ∧ 0 ≤ pk
def restOf (k p n a t c o pk : Int) : Prop :=
  (k = 0 ∧ n = 0 ∧ a = 0 ∧ c = 0 ∧ pk = 0 ∧ o = 0) ∨
  (k = 1 ∧ p = 0 ∧ n = 0 ∧ 0 < a ∧ t = 0 ∧ pk = 0 ∧ o = 0) ∨
  (k = 2 ∧ n = 0 ∧ a = 0 ∧ t = 0 ∧ ((pk = 0 ∧ o = 0) ∨ (p = 1 ∧ 0 < pk))) ∨
  (k = 3 ∧ p = 0 ∧ n = 0 ∧ a = 0 ∧ t = 0 ∧ c = 0 ∧ pk = 0 ∧ o = 0) ∨
  (k = 4 ∧ p = 0 ∧ n = 1 ∧ a = 0 ∧ t = 0 ∧ c = 0 ∧ pk = 0 ∧ o = 0) ∨
  (k = 5 ∧ p = 0 ∧ n = 1 ∧ a = 0 ∧ t = 0 ∧ c = 0 ∧ pk = 0 ∧ o = 0) ∨
  (k = 6 ∧ p = 1 ∧ n = 0 ∧ a = 0 ∧ t = 0 ∧ c = 0 ∧ pk = 0 ∧ o = 0) ∨
  (k = 7 ∧ p = 0 ∧ n = 0 ∧ a = 0 ∧ t = 0 ∧ c = 0 ∧ pk = 0 ∧ o = 0)

theorem rest_0 (p n a t c o pk : Int) : restOf 0 p n a t c o pk ↔ (n = 0 ∧ a = 0 ∧ c = 0 ∧ pk = 0 ∧ o = 0) := by unfold restOf; simp
theorem rest_1 (p n a t c o pk : Int) : restOf 1 p n a t c o pk ↔ (p = 0 ∧ n = 0 ∧ 0 < a ∧ t = 0 ∧ pk = 0 ∧ o = 0) := by unfold restOf; simp
theorem rest_2 (p n a t c o pk : Int) : restOf 2 p n a t c o pk ↔ (n = 0 ∧ a = 0 ∧ t = 0 ∧ ((pk = 0 ∧ o = 0) ∨ (p = 1 ∧ 0 < pk))) := by unfold restOf; simp
theorem rest_3 (p n a t c o pk : Int) : restOf 3 p n a t c o pk ↔ (p = 0 ∧ n = 0 ∧ a = 0 ∧ t = 0 ∧ c = 0 ∧ pk = 0 ∧ o = 0) := by unfold restOf; simp
theorem rest_4 (p n a t c o pk : Int) : restOf 4 p n a t c o pk ↔ (p = 0 ∧ n = 1 ∧ a = 0 ∧ t = 0 ∧ c = 0 ∧ pk = 0 ∧ o = 0) := by unfold restOf; simp
theorem rest_5 (p n a t c o pk : Int) : restOf 5 p n a t c o pk ↔ (p = 0 ∧ n = 1 ∧ a = 0 ∧ t = 0 ∧ c = 0 ∧ pk = 0 ∧ o = 0) := by unfold restOf; simp
theorem rest_6 (p n a t c o pk : Int) : restOf 6 p n a t c o pk ↔ (p = 1 ∧ n = 0 ∧ a = 0 ∧ t = 0 ∧ c = 0 ∧ pk = 0 ∧ o = 0) := by unfold restOf; simp
theorem rest_7 (p n a t c o pk : Int) : restOf 7 p n a t c o pk ↔ (p = 0 ∧ n = 0 ∧ a = 0 ∧ t = 0 ∧ c = 0 ∧ pk = 0 ∧ o = 0) := by unfold restOf; simp
set_option maxRecDepth 100000 in
set_option maxHeartbeats 8000000 in
theorem ref_right (k p n a t c o pk : Int) (nm : ByteArray) (R : Bool) (hR : R = true ↔ inRange p n a t c o pk ∧ restOf k p n a t c o pk) (w : World) :
    Calls Try.prog 10 #[Inf.arr ⟨k, p, n, a, t, c, o, pk, nm⟩] w fun e w' => e = .returned (.bool R) ∧ Below w.heap.size w w' := by
  have HOB := Lib.hid (fun (j : Nat) (hj : j < 8) => obj_at ⟨k, p, n, a, t, c, o, pk, nm⟩ w hj)
  have HBW : Hid (Below w.heap.size w (w.alloc (Inf.obj ⟨k, p, n, a, t, c, o, pk, nm⟩)) ∧ w.heap.size ≤ (w.alloc (Inf.obj ⟨k, p, n, a, t, c, o, pk, nm⟩)).heap.size) := ⟨(Below.refl _ w).alloc (Nat.le_refl _) _, by simp⟩
  have HONLY : Hid (∀ (v : Value) (l : List Int) (W : World), Below w.heap.size w W ∧ w.heap.size ≤ W.heap.size → Places W v l → l.length ≤ 8 → Calls Try.prog 16 #[Inf.arr ⟨k, p, n, a, t, c, o, pk, nm⟩, v] W fun e w' => e = .returned (.bool (Inf.only ⟨k, p, n, a, t, c, o, pk, nm⟩ l)) ∧ Hid (Below w.heap.size w w' ∧ Below W.heap.size W w')) := by
    intro v l W hW hp hl
    refine (only_any _ v l W hp hl).mono ?_
    rintro e w' ⟨rfl, h⟩
    exact ⟨rfl, hW.1.trans (h.mono hW.2), h⟩
  have HR := Lib.hid hR
  obtain ⟨b14, hb14⟩ : ∃ b, b = Inf.only ⟨k, p, n, a, t, c, o, pk, nm⟩ [1, 4] := ⟨_, rfl⟩
  obtain ⟨b35, hb35⟩ : ∃ b, b = Inf.only ⟨k, p, n, a, t, c, o, pk, nm⟩ [3, 5] := ⟨_, rfl⟩
  obtain ⟨b15, hb15⟩ : ∃ b, b = Inf.only ⟨k, p, n, a, t, c, o, pk, nm⟩ [1, 5] := ⟨_, rfl⟩
  obtain ⟨b1567, hb1567⟩ : ∃ b, b = Inf.only ⟨k, p, n, a, t, c, o, pk, nm⟩ [1, 5, 6, 7] := ⟨_, rfl⟩
  obtain ⟨b0, hb0⟩ : ∃ b, b = Inf.only ⟨k, p, n, a, t, c, o, pk, nm⟩ [] := ⟨_, rfl⟩
  obtain ⟨b2, hb2⟩ : ∃ b, b = Inf.only ⟨k, p, n, a, t, c, o, pk, nm⟩ [2] := ⟨_, rfl⟩
  obtain ⟨b1, hb1⟩ : ∃ b, b = Inf.only ⟨k, p, n, a, t, c, o, pk, nm⟩ [1] := ⟨_, rfl⟩
  have H14 : Hid (b14 = true ↔ n = 0 ∧ a = 0 ∧ c = 0 ∧ o = 0 ∧ pk = 0) := by show _ ↔ _; rw [hb14]; simp [Inf.only, Inf.ok1, Inf.at, List.range, List.range.loop]
  have H35 : Hid (b35 = true ↔ p = 0 ∧ n = 0 ∧ t = 0 ∧ o = 0 ∧ pk = 0) := by show _ ↔ _; rw [hb35]; simp [Inf.only, Inf.ok1, Inf.at, List.range, List.range.loop]
  have H15 : Hid (b15 = true ↔ n = 0 ∧ a = 0 ∧ t = 0 ∧ o = 0 ∧ pk = 0) := by show _ ↔ _; rw [hb15]; simp [Inf.only, Inf.ok1, Inf.at, List.range, List.range.loop]
  have H1567 : Hid (b1567 = true ↔ n = 0 ∧ a = 0 ∧ t = 0) := by show _ ↔ _; rw [hb1567]; simp [Inf.only, Inf.ok1, Inf.at, List.range, List.range.loop]
  have H0 : Hid (b0 = true ↔ p = 0 ∧ n = 0 ∧ a = 0 ∧ t = 0 ∧ c = 0 ∧ o = 0 ∧ pk = 0) := by show _ ↔ _; rw [hb0]; simp [Inf.only, Inf.ok1, Inf.at, List.range, List.range.loop]
  have H2 : Hid (b2 = true ↔ p = 0 ∧ a = 0 ∧ t = 0 ∧ c = 0 ∧ o = 0 ∧ pk = 0) := by show _ ↔ _; rw [hb2]; simp [Inf.only, Inf.ok1, Inf.at, List.range, List.range.loop]
  have H1 : Hid (b1 = true ↔ n = 0 ∧ a = 0 ∧ t = 0 ∧ c = 0 ∧ o = 0 ∧ pk = 0) := by show _ ↔ _; rw [hb1]; simp [Inf.only, Inf.ok1, Inf.at, List.range, List.range.loop]
  have K14 := fun v W h1 h2 => HONLY.out v [1, 4] W h1 h2 (by decide)
  have K35 := fun v W h1 h2 => HONLY.out v [3, 5] W h1 h2 (by decide)
  have K15 := fun v W h1 h2 => HONLY.out v [1, 5] W h1 h2 (by decide)
  have K1567 := fun v W h1 h2 => HONLY.out v [1, 5, 6, 7] W h1 h2 (by decide)
  have K0 := fun v W h1 h2 => HONLY.out v [] W h1 h2 (by decide)
  have K2 := fun v W h1 h2 => HONLY.out v [2] W h1 h2 (by decide)
  have K1 := fun v W h1 h2 => HONLY.out v [1] W h1 h2 (by decide)
  rw [← hb14] at K14
  rw [← hb35] at K35
  rw [← hb15] at K15
  rw [← hb1567] at K1567
  rw [← hb0] at K0
  rw [← hb2] at K2
  rw [← hb1] at K1
  have L14 := Lib.hid K14
  have L35 := Lib.hid K35
  have L15 := Lib.hid K15
  have L1567 := Lib.hid K1567
  have L0 := Lib.hid K0
  have L2 := Lib.hid K2
  have L1 := Lib.hid K1
  unfold Inf.obj at HOB HBW
  unfold Inf.arr at L14 L35 L15 L1567 L0 L2 L1 ⊢
  clear K14 K35 K15 K1567 K0 K2 K1 hb14 hb35 hb15 hb1567 hb0 hb2 hb1 HONLY hR
  go_enter Try.func10, Try.ntmps10
  go_wp2
  go_loop [3] (fun v3 => ∃ j : Nat, j ≤ 8 ∧ 1 ≤ j ∧ v3 = .int .i64 j ∧ Hid (∀ j', 1 ≤ j' → j' < j → 0 ≤ Inf.at ⟨k, p, n, a, t, c, o, pk, nm⟩ j')) (fun v3 => 8 - (intOf v3).toNat)
  case atStart => exact ⟨1, by omega, by omega, rfl, fun j' h1 h2 => by omega⟩
  case round =>
    obtain ⟨j, hj8, hj1, rfl, hlow⟩ := hrel
    by_cases hj : j < 8
    · have hcell := HOB.out j hj
      obtain ⟨A, hA⟩ : ∃ A, A = Inf.at ⟨k, p, n, a, t, c, o, pk, nm⟩ j := ⟨_, rfl⟩
      rw [← hA] at hcell
      have HA := Lib.hid hA
      have hj01 : (0 : Int) ≤ (j : Int) ∧ (j : Int) < 8 := by omega
      clear hA
      by_cases hneg : A < 0
      · have hneg' : decide (A < 0) = true := by simpa using hneg
        have HNEG := Lib.hid hneg
        clear hneg
        go_wp2
        go_ret
        refine ⟨?_, HBW.out.1⟩
        cases R with
        | false => rfl
        | true =>
          exfalso
          obtain ⟨⟨h1, h2, h3, h4, h5, h6⟩, _⟩ := HR.out.1 rfl
          have h7 := HNEG.out
          rw [HA.out] at h7
          have hjc : j = 1 ∨ j = 2 ∨ j = 3 ∨ j = 4 ∨ j = 5 ∨ j = 6 ∨ j = 7 := by omega
          rcases hjc with rfl | rfl | rfl | rfl | rfl | rfl | rfl <;> simp only [Inf.at] at h7 <;> omega
      · have hneg' : decide (A < 0) = false := by simp; omega
        have HNEG := Lib.hid hneg
        clear hneg
        go_wp2
        go_round
        case rel =>
          refine ⟨j + 1, by omega, by omega, by go_num, fun j' h1 h2 => ?_⟩
          by_cases e : j' = j
          · rw [e, ← HA.out]; have := HNEG.out; omega
          · exact hlow.out j' h1 (by omega)
        case measure => simp [intOf]; omega
    · have hj8' : j = 8 := by omega
      subst hj8'
      have HP : Hid (0 ≤ p ∧ 0 ≤ n ∧ 0 ≤ a ∧ 0 ≤ t ∧ 0 ≤ c ∧ 0 ≤ o ∧ 0 ≤ pk) :=
        ⟨hlow.out 1 (by omega) (by omega), hlow.out 2 (by omega) (by omega), hlow.out 3 (by omega) (by omega), hlow.out 4 (by omega) (by omega), hlow.out 5 (by omega) (by omega), hlow.out 6 (by omega) (by omega), hlow.out 7 (by omega) (by omega)⟩
      clear hlow
      by_cases hp : 60 < p
      · go_wp2
        go_ret
        refine ⟨?_, HBW.out.1⟩
        cases R with
        | false => rfl
        | true => exfalso; obtain ⟨⟨h1, _⟩, _⟩ := HR.out.1 rfl; omega
      · by_cases hn : 60 < n
        · go_wp2
          go_ret
          refine ⟨?_, HBW.out.1⟩
          cases R with
          | false => rfl
          | true => exfalso; obtain ⟨⟨h1, _⟩, _⟩ := HR.out.1 rfl; omega
        · have hsum : wrap64 (p + n) = p + n := by have := HP.out; unfold wrap64; omega
          by_cases hs : 60 < p + n
          · go_wp2
            go_ret
            refine ⟨?_, HBW.out.1⟩
            cases R with
            | false => rfl
            | true => exfalso; obtain ⟨⟨h1, _⟩, _⟩ := HR.out.1 rfl; omega
          · have HIN : Hid (inRange p n a t c o pk) := by
              have := HP.out
              exact ⟨⟨by omega, by omega, by omega, by omega, by omega⟩, by omega, by omega, by omega, by omega, by omega⟩
            have HR2 : Hid (R = true ↔ restOf k p n a t c o pk) := by
              show _ ↔ _
              rw [show (R = true ↔ inRange p n a t c o pk ∧ restOf k p n a t c o pk) from HR.out]
              exact ⟨fun h => h.2, fun h => ⟨HIN.out, h⟩⟩
            have d0 : decide (60 < p) = false := by simpa using hp
            have d1 : decide (60 < n) = false := by simpa using hn
            have d2 : decide (60 < p + n) = false := by simpa using hs
            clear hp hn hs HR HOB
            by_cases k0 : k = 0
            · subst k0
              go_wp2_with fail
              refine (L14.out _ _ ?_ ?_).mono ?_
              · exact ⟨HBW.out.1.alloc HBW.out.2 _, Nat.le_trans HBW.out.2 (by simp)⟩
              · exact Places.lit' (by simp) rfl rfl
              rintro e w2 ⟨rfl, hw2⟩
              go_wp2
              go_ret
              refine ⟨congrArg (fun b => Ending.returned (Value.bool b)) (Bool.eq_iff_iff.2 ?_), hw2.out.1⟩
              have f0 := H14.out
              have hr := HR2.out
              have hin := HIN.out
              unfold inRange at hin
              rw [show (R = true ↔ restOf 0 p n a t c o pk) from hr, rest_0]
              clear hr d0 d1 d2 hsum
              rw [show (b14 = true ↔ _) from f0]
              omega
            ·
              by_cases k1 : k = 1
              · subst k1
                by_cases hc : 0 < a
                · have hc' : decide (0 < a) = true := by simpa using hc
                  have HCC := Lib.hid hc
                  clear hc
                  go_wp2_with fail
                  refine (L35.out _ _ ?_ ?_).mono ?_
                  · exact ⟨HBW.out.1.alloc HBW.out.2 _, Nat.le_trans HBW.out.2 (by simp)⟩
                  · exact Places.lit' (by simp) rfl rfl
                  rintro e w2 ⟨rfl, hw2⟩
                  go_wp2
                  go_ret
                  refine ⟨congrArg (fun b => Ending.returned (Value.bool b)) (Bool.eq_iff_iff.2 ?_), hw2.out.1⟩
                  have f0 := H35.out
                  have f1 := HCC.out
                  have hr := HR2.out
                  have hin := HIN.out
                  unfold inRange at hin
                  rw [show (R = true ↔ restOf 1 p n a t c o pk) from hr, rest_1]
                  clear hr d0 d1 d2 hsum
                  rw [show (b35 = true ↔ _) from f0]
                  omega
                · have hc' : decide (0 < a) = false := by simpa using hc
                  have HCC := Lib.hid hc
                  clear hc
                  go_wp2
                  go_ret
                  refine ⟨congrArg (fun b => Ending.returned (Value.bool b)) (Bool.eq_iff_iff.2 ?_), HBW.out.1⟩
                  have f0 := HCC.out
                  have hr := HR2.out
                  have hin := HIN.out
                  unfold inRange at hin
                  rw [show (R = true ↔ restOf 1 p n a t c o pk) from hr, rest_1]
                  clear hr d0 d1 d2 hsum
                  simp only [Bool.false_eq_true, false_iff]
                  omega
              ·
                by_cases k2 : k = 2
                · subst k2
                  go_wp2_with fail
                  refine (L15.out _ _ ?_ ?_).mono ?_
                  · exact ⟨HBW.out.1.alloc HBW.out.2 _, Nat.le_trans HBW.out.2 (by simp)⟩
                  · exact Places.lit' (by simp) rfl rfl
                  rintro e w2 ⟨rfl, hw2⟩
                  cases b15 with
                  | true =>
                    go_wp2
                    go_ret
                    refine ⟨congrArg (fun b => Ending.returned (Value.bool b)) (Bool.eq_iff_iff.2 ?_), hw2.out.1⟩
                    have f0 := H15.out
                    have hr := HR2.out
                    have hin := HIN.out
                    unfold inRange at hin
                    rw [show (R = true ↔ restOf 2 p n a t c o pk) from hr, rest_2]
                    clear hr d0 d1 d2 hsum
                    have f1 : n = 0 ∧ a = 0 ∧ t = 0 ∧ o = 0 ∧ pk = 0 := by first | exact f0.1 rfl | exact f0.1 trivial
                    simp only [true_iff]
                    omega
                  | false =>
                    have c0 := cell_later hw2.out.2 (obj_at2 ⟨2, p, n, a, t, c, o, pk, nm⟩ w _ (j := 0) (by omega))
                    have c1 := cell_later hw2.out.2 (obj_at2 ⟨2, p, n, a, t, c, o, pk, nm⟩ w _ (j := 1) (by omega))
                    have c2 := cell_later hw2.out.2 (obj_at2 ⟨2, p, n, a, t, c, o, pk, nm⟩ w _ (j := 2) (by omega))
                    have c3 := cell_later hw2.out.2 (obj_at2 ⟨2, p, n, a, t, c, o, pk, nm⟩ w _ (j := 3) (by omega))
                    have c4 := cell_later hw2.out.2 (obj_at2 ⟨2, p, n, a, t, c, o, pk, nm⟩ w _ (j := 4) (by omega))
                    have c5 := cell_later hw2.out.2 (obj_at2 ⟨2, p, n, a, t, c, o, pk, nm⟩ w _ (j := 5) (by omega))
                    have c6 := cell_later hw2.out.2 (obj_at2 ⟨2, p, n, a, t, c, o, pk, nm⟩ w _ (j := 6) (by omega))
                    have c7 := cell_later hw2.out.2 (obj_at2 ⟨2, p, n, a, t, c, o, pk, nm⟩ w _ (j := 7) (by omega))
                    simp only [Inf.at] at c0 c1 c2 c3 c4 c5 c6 c7
                    have HN15 : Hid (¬ (n = 0 ∧ a = 0 ∧ t = 0 ∧ o = 0 ∧ pk = 0)) := fun h => Bool.noConfusion (H15.out.2 h)
                    by_cases hc : p = 1
                    · have hc' : (p == 1) = true := by simpa using hc
                      have HCC := Lib.hid hc
                      clear hc
                      by_cases hd : 0 < pk
                      · have hd' : decide (0 < pk) = true := by simpa using hd
                        have HCD := Lib.hid hd
                        clear hd
                        have HSZ : Hid (w.heap.size ≤ w2.heap.size) := hw2.out.1.size
                        go_wp2_with fail
                        refine (L1567.out _ _ ?_ ?_).mono ?_
                        · exact ⟨hw2.out.1.alloc HSZ.out _, Nat.le_trans HSZ.out (by simp)⟩
                        · exact Places.lit' (by simp) rfl rfl
                        rintro e w3 ⟨rfl, hw3⟩
                        go_wp2
                        go_ret
                        refine ⟨congrArg (fun b => Ending.returned (Value.bool b)) (Bool.eq_iff_iff.2 ?_), hw3.out.1⟩
                        have f0 := H1567.out
                        have f1 := HCC.out
                        have f2 := HCD.out
                        have f3 := HN15.out
                        have hr := HR2.out
                        have hin := HIN.out
                        unfold inRange at hin
                        rw [show (R = true ↔ restOf 2 p n a t c o pk) from hr, rest_2]
                        clear hr d0 d1 d2 hsum
                        rw [show (b1567 = true ↔ _) from f0]
                        omega
                      · have hd' : decide (0 < pk) = false := by simpa using hd
                        have HCD := Lib.hid hd
                        clear hd
                        go_wp2
                        go_ret
                        refine ⟨congrArg (fun b => Ending.returned (Value.bool b)) (Bool.eq_iff_iff.2 ?_), hw2.out.1⟩
                        have f0 := HCC.out
                        have f1 := HCD.out
                        have f2 := HN15.out
                        have hr := HR2.out
                        have hin := HIN.out
                        unfold inRange at hin
                        rw [show (R = true ↔ restOf 2 p n a t c o pk) from hr, rest_2]
                        clear hr d0 d1 d2 hsum
                        simp only [Bool.false_eq_true, false_iff]
                        omega
                    · have hc' : (p == 1) = false := by simpa using hc
                      have HCC := Lib.hid hc
                      clear hc
                      go_wp2
                      go_ret
                      refine ⟨congrArg (fun b => Ending.returned (Value.bool b)) (Bool.eq_iff_iff.2 ?_), hw2.out.1⟩
                      have f0 := HCC.out
                      have f1 := HN15.out
                      have hr := HR2.out
                      have hin := HIN.out
                      unfold inRange at hin
                      rw [show (R = true ↔ restOf 2 p n a t c o pk) from hr, rest_2]
                      clear hr d0 d1 d2 hsum
                      simp only [Bool.false_eq_true, false_iff]
                      omega
                ·
                  by_cases k3 : k = 3
                  · subst k3
                    go_wp2_with fail
                    refine (L0.out _ _ ?_ ?_).mono ?_
                    · exact HBW.out
                    · exact Places.none _
                    rintro e w2 ⟨rfl, hw2⟩
                    go_wp2
                    go_ret
                    refine ⟨congrArg (fun b => Ending.returned (Value.bool b)) (Bool.eq_iff_iff.2 ?_), hw2.out.1⟩
                    have f0 := H0.out
                    have hr := HR2.out
                    have hin := HIN.out
                    unfold inRange at hin
                    rw [show (R = true ↔ restOf 3 p n a t c o pk) from hr, rest_3]
                    clear hr d0 d1 d2 hsum
                    rw [show (b0 = true ↔ _) from f0]
                    omega
                  ·
                    by_cases k4 : k = 4
                    · subst k4
                      by_cases hc : n = 1
                      · have hc' : (n == 1) = true := by simpa using hc
                        have HCC := Lib.hid hc
                        clear hc
                        go_wp2_with fail
                        refine (L2.out _ _ ?_ ?_).mono ?_
                        · exact ⟨HBW.out.1.alloc HBW.out.2 _, Nat.le_trans HBW.out.2 (by simp)⟩
                        · exact Places.lit' (by simp) rfl rfl
                        rintro e w2 ⟨rfl, hw2⟩
                        go_wp2
                        go_ret
                        refine ⟨congrArg (fun b => Ending.returned (Value.bool b)) (Bool.eq_iff_iff.2 ?_), hw2.out.1⟩
                        have f0 := H2.out
                        have f1 := HCC.out
                        have hr := HR2.out
                        have hin := HIN.out
                        unfold inRange at hin
                        rw [show (R = true ↔ restOf 4 p n a t c o pk) from hr, rest_4]
                        clear hr d0 d1 d2 hsum
                        rw [show (b2 = true ↔ _) from f0]
                        omega
                      · have hc' : (n == 1) = false := by simpa using hc
                        have HCC := Lib.hid hc
                        clear hc
                        go_wp2
                        go_ret
                        refine ⟨congrArg (fun b => Ending.returned (Value.bool b)) (Bool.eq_iff_iff.2 ?_), HBW.out.1⟩
                        have f0 := HCC.out
                        have hr := HR2.out
                        have hin := HIN.out
                        unfold inRange at hin
                        rw [show (R = true ↔ restOf 4 p n a t c o pk) from hr, rest_4]
                        clear hr d0 d1 d2 hsum
                        simp only [Bool.false_eq_true, false_iff]
                        omega
                    ·
                      by_cases k5 : k = 5
                      · subst k5
                        by_cases hc : n = 1
                        · have hc' : (n == 1) = true := by simpa using hc
                          have HCC := Lib.hid hc
                          clear hc
                          go_wp2_with fail
                          refine (L2.out _ _ ?_ ?_).mono ?_
                          · exact ⟨HBW.out.1.alloc HBW.out.2 _, Nat.le_trans HBW.out.2 (by simp)⟩
                          · exact Places.lit' (by simp) rfl rfl
                          rintro e w2 ⟨rfl, hw2⟩
                          go_wp2
                          go_ret
                          refine ⟨congrArg (fun b => Ending.returned (Value.bool b)) (Bool.eq_iff_iff.2 ?_), hw2.out.1⟩
                          have f0 := H2.out
                          have f1 := HCC.out
                          have hr := HR2.out
                          have hin := HIN.out
                          unfold inRange at hin
                          rw [show (R = true ↔ restOf 5 p n a t c o pk) from hr, rest_5]
                          clear hr d0 d1 d2 hsum
                          rw [show (b2 = true ↔ _) from f0]
                          omega
                        · have hc' : (n == 1) = false := by simpa using hc
                          have HCC := Lib.hid hc
                          clear hc
                          go_wp2
                          go_ret
                          refine ⟨congrArg (fun b => Ending.returned (Value.bool b)) (Bool.eq_iff_iff.2 ?_), HBW.out.1⟩
                          have f0 := HCC.out
                          have hr := HR2.out
                          have hin := HIN.out
                          unfold inRange at hin
                          rw [show (R = true ↔ restOf 5 p n a t c o pk) from hr, rest_5]
                          clear hr d0 d1 d2 hsum
                          simp only [Bool.false_eq_true, false_iff]
                          omega
                      ·
                        by_cases k6 : k = 6
                        · subst k6
                          by_cases hc : p = 1
                          · have hc' : (p == 1) = true := by simpa using hc
                            have HCC := Lib.hid hc
                            clear hc
                            go_wp2_with fail
                            refine (L1.out _ _ ?_ ?_).mono ?_
                            · exact ⟨HBW.out.1.alloc HBW.out.2 _, Nat.le_trans HBW.out.2 (by simp)⟩
                            · exact Places.lit' (by simp) rfl rfl
                            rintro e w2 ⟨rfl, hw2⟩
                            go_wp2
                            go_ret
                            refine ⟨congrArg (fun b => Ending.returned (Value.bool b)) (Bool.eq_iff_iff.2 ?_), hw2.out.1⟩
                            have f0 := H1.out
                            have f1 := HCC.out
                            have hr := HR2.out
                            have hin := HIN.out
                            unfold inRange at hin
                            rw [show (R = true ↔ restOf 6 p n a t c o pk) from hr, rest_6]
                            clear hr d0 d1 d2 hsum
                            rw [show (b1 = true ↔ _) from f0]
                            omega
                          · have hc' : (p == 1) = false := by simpa using hc
                            have HCC := Lib.hid hc
                            clear hc
                            go_wp2
                            go_ret
                            refine ⟨congrArg (fun b => Ending.returned (Value.bool b)) (Bool.eq_iff_iff.2 ?_), HBW.out.1⟩
                            have f0 := HCC.out
                            have hr := HR2.out
                            have hin := HIN.out
                            unfold inRange at hin
                            rw [show (R = true ↔ restOf 6 p n a t c o pk) from hr, rest_6]
                            clear hr d0 d1 d2 hsum
                            simp only [Bool.false_eq_true, false_iff]
                            omega
                        ·
                          by_cases k7 : k = 7
                          · subst k7
                            go_wp2_with fail
                            refine (L0.out _ _ ?_ ?_).mono ?_
                            · exact HBW.out
                            · exact Places.none _
                            rintro e w2 ⟨rfl, hw2⟩
                            go_wp2
                            go_ret
                            refine ⟨congrArg (fun b => Ending.returned (Value.bool b)) (Bool.eq_iff_iff.2 ?_), hw2.out.1⟩
                            have f0 := H0.out
                            have hr := HR2.out
                            have hin := HIN.out
                            unfold inRange at hin
                            rw [show (R = true ↔ restOf 7 p n a t c o pk) from hr, rest_7]
                            clear hr d0 d1 d2 hsum
                            rw [show (b0 = true ↔ _) from f0]
                            omega
                          ·
                            have q0 : (k == 0) = false := by simpa using k0
                            have q1 : (k == 1) = false := by simpa using k1
                            have q2 : (k == 2) = false := by simpa using k2
                            have q3 : (k == 3) = false := by simpa using k3
                            have q4 : (k == 4) = false := by simpa using k4
                            have q5 : (k == 5) = false := by simpa using k5
                            have q6 : (k == 6) = false := by simpa using k6
                            have q7 : (k == 7) = false := by simpa using k7
                            have HK := Lib.hid (And.intro k0 (And.intro k1 (And.intro k2 (And.intro k3 (And.intro k4 (And.intro k5 (And.intro k6 k7)))))))
                            clear k0 k1 k2 k3 k4 k5 k6 k7
                            go_wp2
                            go_ret
                            refine ⟨congrArg (fun b => Ending.returned (Value.bool b)) (Bool.eq_iff_iff.2 ?_), HBW.out.1⟩
                            have f0 := HK.out
                            have hr := HR2.out
                            have hin := HIN.out
                            unfold inRange at hin
                            rw [show (R = true ↔ restOf k p n a t c o pk) from hr]
                            unfold restOf
                            clear hr d0 d1 d2 hsum
                            clear q0 q1 q2 q3 q4 q5 q6 q7
                            simp only [Bool.false_eq_true, false_iff]
                            omega
end Go.Proofs.Ytdfbdjlcbjdabaa
