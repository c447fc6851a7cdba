/- Law 16, HeapJoins: small cells given back make room for large ones, and back. No condition. -/
import Derived.Test.YtjfpijoeddjgmaaAid
import Derived.Test.YtjfpijoeddjgmaaLeft
namespace Go.Proofs.Ytjfpijoeddjgmaa.heapJoins
open Go.RowKit Hm
set_option linter.unusedVariables false
set_option maxRecDepth 100000 in
set_option maxHeartbeats 4000000 in
theorem walk (words z : Int) (w : World) (hz : 0 ≤ z ∧ z ≤ 255) : Calls Try.prog 5 #[.int .i64 words, .int .u8 z] w fun e w' => e = .returned (.bool true) ∧ Below w.heap.size w w' := by
  obtain ⟨i3, hi3, hz0, hz1, hz2⟩ := info_parts info3
  obtain ⟨B, hB⟩ : ∃ B, B = w.heap.size := ⟨_, rfl⟩
  rw [← hB]
  have HL := Lib.hid (lives_from hB)
  have HW := Lib.hid (Below.refl B w)
  clear hB
  obtain ⟨y, hy, hy2⟩ := urem_in words 2000 (by decide) (by decide)
  obtain ⟨n, hn⟩ : ∃ n : Nat, (64 + (y : Int)) / 32 = n := ⟨(64 + y) / 32, by omega⟩
  have hn1 : 2 ≤ n ∧ n ≤ 70 := by omega
  have HNEW := Lib.hid (new_from (B := B) (w := w) (64 + (y : Int)) n (by omega) (by omega) hn)
  have hz32 : z.tmod 32 = z % 32 := Int.tmod_eq_emod_of_nonneg hz.1
  obtain ⟨size, hsz⟩ : ∃ size : Nat, 1 + z % 32 = (size : Int) := ⟨(1 + z % 32).toNat, by omega⟩
  have hsz1 : 1 ≤ size ∧ size ≤ 32 := by omega
  obtain ⟨c, hc⟩ : ∃ c, c = cls size := ⟨_, rfl⟩
  have hcls : isCls c := by rw [hc]; exact cls_is size
  have hcs : size ≤ c := by rw [hc]; exact cls_ge size hsz1.2
  obtain ⟨N1, hN1⟩ : ∃ N1, N1 = n * (32 / c) := ⟨_, rfl⟩
  have hN1b : N1 ≤ 2000 ∧ 1 ≤ 32 / c ∧ 32 / c ≤ 16 := by
    have h1 : 32 / c ≤ 16 ∧ 1 ≤ 32 / c := by unfold isCls at hcls; rcases hcls with h | h | h | h | h <;> rw [h] <;> decide
    have := Nat.mul_le_mul hn1.2 h1.1
    omega
  have hcb := hcls.le
  have hcp := hcls.pos
  have HC := Lib.hid hc.symm
  have HCLS := Lib.hid hcls
  have HN1 := Lib.hid hN1
  have HN := Lib.hid hn
  have hnq : (64 + (y : Int)).tdiv 32 = n := by rw [Int.tdiv_eq_ediv_of_nonneg (by omega)]; exact hn
  have hnq2 : ((n : Nat) : Int).tdiv 2 = ((n / 2 : Nat) : Int) := by rw [Int.tdiv_eq_ediv_of_nonneg (by omega)]; omega
  clear hc hcls hN1 hn
  go_enter Try.func5, Try.ntmps5
  go_wp2_with fail
  refine (HL.out _ HW.out).mono ?_
  rintro e w1 ⟨rfl, hb1⟩
  go_wp2_with fail
  refine (HNEW.out _ hb1.out).mono ?_
  rintro e w2 ⟨p, rfl, hO, HP2⟩
  obtain ⟨B2, hB2⟩ : ∃ B2, B2 = w2.heap.size := ⟨_, rfl⟩
  rw [← hB2] at HP2 hO
  have HB2 : Hid (B ≤ B2) := by show B ≤ B2; rw [hB2]; exact hO.out.own.size
  clear hB2
  rw [← HS.lay_empty n c] at hO
  go_wp2
  go_loopw [9] (fun v9 wr => ∃ ao cap, ∃ j : Nat, v9 = .slice ao j cap ∧ j ≤ N1 ∧ Hid (RB B B2 w wr p (HS.lay n 0 c j) (.slice ao j cap) (row c j))) (fun v9 _ => N1 - lenOf v9)
  case atStart => exact ⟨_, _, 0, rfl, by omega, hO.out⟩
  case round =>
    obtain ⟨ao, cap, j, rfl, hj, hR⟩ := hrel
    have hal := HS.lay_small (n := n) (m0 := 0) (c := c) (j := j) (size := size) HC.out hsz1.1 hsz1.2 (by omega) (by rw [Nat.sub_zero, ← HN1.out]; exact hj)
    rw [Nat.sub_zero, ← HN1.out] at hal
    by_cases hjl : j < N1
    · rw [if_pos hjl] at hal
      have hcall := Lib.hid (hR.out.alloc HP2.out (size : Int) hal)
      have hlen := row_len c j
      obtain ⟨A, hA⟩ : ∃ A, A = 1 + 32 * 0 + c * j := ⟨_, rfl⟩
      rw [← hA] at hcall
      have HA := Lib.hid hA
      clear hal hR hA
      go_wp2_with fail
      refine hcall.out.mono ?_
      rintro x w3 ⟨rfl, hR2⟩
      go_wp2_with (first
        | (at_builtin; refine wpList_append_own _ rfl _ _ 29 rfl B2 3 i3 (.int .i64 0) 1 8 Try.underlying29 hi3 hz0 hz1 hz2 rfl (by decide) _ _ _ rfl (hR2.out.at'.alloc _) ⟨w3.heap.size, 0, none⟩ 1 1 [.int .i64 A] rfl rfl (cell_one_new _ _ _) (fun u hu => by simp at hu; subst hu; rfl) (by rw [row_len]; unfold maxLen; omega) (by rw [row_len]; omega) (by have := hR2.out.sz; simp; omega) ?_))
      intro v' w4 hown' hgrow _
      have HR3 : Hid (RB B B2 w w4 p (HS.lay n 0 c (j + 1)) v' (row c (j + 1))) := by
        have hown2 : w4.ownsRow B2 3 1 v' ((row c j).length + 1) ((row c j).map (Value.int .i64) ++ [.int .i64 A]) := by rw [row_len]; exact hown'
        have h := hR2.out.app HP2.out HB2.out hown2 hgrow
        rw [row_succ]
        rw [HA.out, show 1 + 32 * 0 + c * j = 1 + c * j by omega] at h
        exact h
      clear hown' hgrow hR2
      obtain ⟨ao4, cap4, rfl, _⟩ := HR3.out.at'.shape
      rw [row_len] at HR3 ⊢
      go_wp2
      go_roundw
      case rel => exact ⟨_, _, j + 1, rfl, by omega, HR3⟩
      case measure => simp [lenOf]; omega
    · rw [if_neg hjl] at hal
      have hjN : j = N1 := by omega
      have hcall := Lib.hid (hR.out.alloc HP2.out (size : Int) hal)
      clear hal
      have hao := hR.out.at'.shape'
      rw [row_len] at hao
      have HAO := Lib.hid hao
      have HLEFT : Hid (HS.Left n c j (HS.lay n 0 c j) (fun i => i < 0)) := (HS.lay_left HCLS.out (by rw [← HN1.out]; exact hj)).congr fun i _ => ⟨fun h => h.elim, fun h => absurd h (Nat.not_lt_zero _)⟩
      clear hao hR hjN
      go_wp2_with fail
      refine hcall.out.mono ?_
      rintro x w3 ⟨rfl, hR2⟩
      go_wp2
      go_loopw [53] (fun v53 wr => ∃ q : Nat, ∃ s, v53 = .int .i64 q ∧ q ≤ j ∧ Hid (RB B B2 w wr p s (.slice ao j cap) (row c j)) ∧ Hid (HS.Left n c j s (fun i => i < q))) (fun v53 _ => j - (intOf v53).toNat)
      case atStart => exact ⟨0, _, rfl, by omega, hR2, HLEFT⟩
      case round =>
        obtain ⟨q, s, rfl, hq, hQ, hF⟩ := hrel
        clear hcall hR2 HLEFT
        by_cases hqj : q < j
        · obtain ⟨g, rfl⟩ : ∃ g, ao = some ⟨g, 0, none⟩ := (HAO.out.resolve_left (by omega))
          have hcell := hQ.out.at'.get (j := q) (by rw [row_len]; exact hqj)
          rw [row_get c hqj] at hcell
          have hfr := hF.out.free (by omega) hqj (Nat.lt_irrefl q)
          have hcall : Hid (Calls Try.prog 25 #[.pointer (some ⟨p.h, 0, none⟩), .int .i64 ((1 + c * q : Nat) : Int)] wr fun x w' => x = .returned (.int .i64 0) ∧ Hid (RB B B2 w w' p (s.free (1 + c * q)).2 (.slice (some ⟨g, 0, none⟩) j cap) (row c j))) :=
            hQ.out.free HP2.out (1 + c * q) (Prod.ext hfr.1 rfl)
          have HF2 : Hid (HS.Left n c j (s.free (1 + c * q)).2 (fun i => i < q + 1)) := hfr.2.congr fun i _ => by omega
          obtain ⟨A, hA⟩ : ∃ A, A = 1 + c * q := ⟨_, rfl⟩
          rw [← hA] at hcall HF2 hcell
          clear hfr hA
          go_wp2_with (first | (go_at_call 25; refine hcall.out.mono ?_; rintro x w4 ⟨rfl, hQ2⟩))
          have hQ2 := (by assumption : Hid (RB B B2 w _ p (s.free A).2 (.slice (some ⟨g, 0, none⟩) j cap) (row c j)))
          go_roundw
          case rel => exact ⟨q + 1, _, by go_num, by omega, hQ2, HF2⟩
          case measure => simp [intOf]; omega
        · have hs := hF.out.all fun i hi => (by omega : i < q)
          have hqe : q = j := by omega
          subst hqe
          subst hs
          clear hF
          rw [← HS.lay_empty n c] at hQ
          go_wp2
          go_loopw [14, 15] (fun v14 v15 wr => ∃ i : Nat, ∃ last : Nat, v14 = .int .i64 i ∧ v15 = .int .i64 last ∧ 2 * i ≤ n ∧ Hid (last = if i = 0 then 0 else 1 + 32 * (2 * (i - 1))) ∧ Hid (RB B B2 w wr p (HS.lay n (2 * i) c 0) (.slice ao q cap) (row c q))) (fun v14 _ _ => n - (intOf v14).toNat)
          case atStart => exact ⟨0, 0, rfl, rfl, by omega, rfl, hQ⟩
          case round =>
            obtain ⟨i, last, rfl, rfl, hi, hlast, hI⟩ := hrel
            clear hQ
            have hal := HS.lay_large (n := n) (m0 := 2 * i) (c := c) (size := 40) (by omega) (by omega) (by omega) hi
            by_cases hin : 2 * i + 2 ≤ n
            · rw [if_pos hin] at hal
              have hcall := Lib.hid (hI.out.alloc HP2.out (40 : Int) hal)
              obtain ⟨A, hA⟩ : ∃ A, A = 1 + 32 * (2 * i) := ⟨_, rfl⟩
              rw [← hA] at hcall
              have HA := Lib.hid hA
              clear hal hI hA
              go_wp2_with fail
              refine hcall.out.mono ?_
              rintro x w3 ⟨rfl, hI2⟩
              go_wp2
              go_roundw
              case rel => exact ⟨i + 1, A, by go_num, rfl, by omega, by rw [if_neg (by omega)]; exact HA.out, hI2⟩
              case measure => simp [intOf]; omega
            · rw [if_neg hin] at hal
              have hcall := Lib.hid (hI.out.alloc HP2.out (40 : Int) hal)
              clear hal hI
              obtain ⟨m, rfl⟩ : ∃ m, i = m + 1 := ⟨i - 1, by omega⟩
              have hl2 : last = 1 + 32 * (2 * m) := by have := hlast.out; rw [if_neg (by omega)] at this; simpa using this
              have hnn : (((m + 1 : Nat) : Int) == ((n / 2 : Nat) : Int)) = true := by simp; omega
              have hnn2 : ((m : Int) + 1 == (n : Int) / 2) = true := by simp; omega
              go_wp2_with fail
              refine hcall.out.mono ?_
              rintro x w3 ⟨rfl, hI2⟩
              have hfr : Hid (Calls Try.prog 25 #[.pointer (some ⟨p.h, 0, none⟩), .int .i64 last] w3 fun x w' => x = .returned (.int .i64 0) ∧ Hid (RB B B2 w w' p (HS.lay n (2 * m) c 0) (.slice ao q cap) (row c q))) := by
                have := HS.lay_free (n := n) (m0 := 2 * m) HCLS.out (by omega) (by omega)
                rw [hl2]
                exact hI2.out.free HP2.out _ this
              have HLA := Lib.hid hl2
              clear hl2 hlast hI2
              go_wp2_with (first | (go_at_call 25; refine hfr.out.mono ?_; rintro x w4 ⟨rfl, hI3⟩))
              have hI3 := (by assumption : Hid (RB B B2 w _ p (HS.lay n (2 * m) c 0) (.slice ao q cap) (row c q)))
              obtain ⟨N2, hN2⟩ : ∃ N2, N2 = (n - 2 * m) * (32 / c) := ⟨_, rfl⟩
              have hN2b : 1 ≤ N2 := by
                rw [hN2]
                exact Nat.mul_pos (by omega) hN1b.2.1
              have hN2c : N2 ≤ 2000 := by
                rw [hN2]
                have := Nat.mul_le_mul (show n - 2 * m ≤ 70 by omega) hN1b.2.2
                omega
              have HN2 := Lib.hid hN2
              clear hN2 hcall
              go_loopw [18] (fun v18 wr => ∃ k : Nat, v18 = .int .i64 k ∧ k ≤ N2 ∧ Hid (RB B B2 w wr p (HS.lay n (2 * m) c k) (.slice ao q cap) (row c q))) (fun v18 _ => N2 - (intOf v18).toNat)
              case atStart => exact ⟨0, rfl, by omega, hI3⟩
              case round =>
                obtain ⟨k, rfl, hk, hK⟩ := hrel
                clear hI3
                have hal := HS.lay_small (n := n) (m0 := 2 * m) (c := c) (j := k) (size := size) HC.out hsz1.1 hsz1.2 (by omega) (by rw [← HN2.out]; exact hk)
                rw [← HN2.out] at hal
                by_cases hkl : k < N2
                · rw [if_pos hkl] at hal
                  have hcall := Lib.hid (hK.out.alloc HP2.out (size : Int) hal)
                  have hcap0 := HS.lay_cap (n := n) (c := c) (j := k) (size := size) (m0 := 2 * m) HC.out hsz1.1 hsz1.2 (by omega) (by omega) (by rw [← HN2.out]; exact hkl)
                  obtain ⟨A, hA⟩ : ∃ A, A = 1 + 32 * (2 * m) + c * k := ⟨_, rfl⟩
                  rw [← hA] at hcall hcap0
                  have hAl : last ≤ A := by rw [HLA.out, hA]; omega
                  have hAl2 : decide ((A : Int) < (last : Int)) = false := by simp; omega
                  have HCP := Lib.hid hcap0
                  clear hal hK hA hcap0
                  go_wp2_with fail
                  refine hcall.out.mono ?_
                  rintro x w5 ⟨rfl, hK2⟩
                  have hcap : Hid (Calls Try.prog 22 #[.pointer (some ⟨p.h, 0, none⟩), .int .i64 A] w5 fun x w' => x = .returned (.int .i64 c) ∧ w5 = w') := by
                    have h := cap_nat A w5 hK2.out.own.at'
                    rw [HCP.out] at h
                    exact h
                  go_wp2_with (first | (go_at_call 22; refine hcap.out.mono ?_; rintro x w6 ⟨rfl, rfl⟩))
                  go_roundw
                  case rel => exact ⟨k + 1, by go_num, by omega, hK2⟩
                  case measure => simp [intOf]; omega
                · rw [if_neg hkl] at hal
                  have hcall := Lib.hid (hK.out.alloc HP2.out (size : Int) hal)
                  have hroom0 : HS.room (HS.lay n (2 * m) c k) (size : Int) = false := by unfold HS.room; rw [hal]; rfl
                  have HRM := Lib.hid hroom0
                  clear hal hK hroom0
                  go_wp2_with fail
                  refine hcall.out.mono ?_
                  rintro x w5 ⟨rfl, hK2⟩
                  have hroom : Hid (Calls Try.prog 31 #[.pointer (some ⟨p.h, 0, none⟩), .int .i64 size] w5 fun x w' => x = .returned (.bool false) ∧ Below B w w') := by
                    refine (room_any (size : Int) w5 hK2.out.own.at').mono ?_
                    rw [HRM.out]
                    rintro x w' ⟨rfl, h⟩
                    exact ⟨rfl, hK2.out.own.below.trans (h.mono hK2.out.own.size)⟩
                  go_wp2_with (first | (go_at_call 31; refine hroom.out.mono ?_; rintro x w6 ⟨rfl, hbel⟩))
                  go_ret
                  exact ⟨rfl, by assumption⟩
end Go.Proofs.Ytjfpijoeddjgmaa.heapJoins
