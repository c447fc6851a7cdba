/- Law 20, CollectTwice: the walk. No condition. -/
import Derived.Test.YtjfpijoeddjgmaaRing
namespace Go.Proofs.Ytjfpijoeddjgmaa
open Go.RowKit Hm
set_option linter.unusedVariables false
theorem rtl_in {kinds : Nat} {nds : List Nd} {zs : List Int} {i : Nat} {r : Int} (h : r ∈ rtl kinds nds zs i) : r = 0 ∨ ∃ j, j < nds.length ∧ r = (adr sorts20 kinds nds j : Int) := .inr (rtl_mem h)
namespace collectTwice
set_option maxRecDepth 100000 in
set_option maxHeartbeats 8000000 in
theorem walk (v : Value) (nds : List Nd) (rv : Value) (zs : List Int) (most : Int) (w : World) (hv : NodesAt w v nds) (hz : IntArg .u8 w rv zs) : Calls Try.prog 17 #[v, rv, .int .i64 most] w fun e w' => e = .returned (.bool true) ∧ Below w.heap.size w w' := by
  obtain ⟨i3, hi3, hz0, hz1, hz2⟩ := info_parts info3
  obtain ⟨B, hB⟩ : ∃ B, B = w.heap.size := ⟨_, rfl⟩
  obtain ⟨ro, rcap, rfl, hcells, hwf⟩ := hz
  rw [← hB] at hcells ⊢
  have HL := Lib.hid (lives_from20 hB)
  have HW := Lib.hid (Below.refl B w)
  have hok := hv
  have HV := Lib.hid hv
  obtain ⟨vo, vcap, rfl, _, hok⟩ := hok
  have HOK := Lib.hid hok
  have HC := Lib.hid hcells
  have HWF := Lib.hid hwf
  have HLAY := fun h => Lib.hid (lay20_from hB hv (kinds := 6) h ⟨by decide, by decide⟩)
  have HLAY' := Lib.hid HLAY
  have HBB := Lib.hid hB
  clear hB hv hok HLAY hcells hwf
  obtain ⟨n, hn⟩ : ∃ n, n = nds.length := ⟨_, rfl⟩
  obtain ⟨m, hm⟩ : ∃ m, m = zs.length := ⟨_, rfl⟩
  rw [← hn] at HLAY' HV ⊢
  rw [← hm]
  have HN := Lib.hid hn
  have HM := Lib.hid hm
  clear hn hm
  by_cases hlong : 80 < n
  · go_enter Try.func17, Try.ntmps17
    go_wp2_with fail
    refine (HL.out _ HW.out).mono ?_
    rintro e w1 ⟨rfl, hb1⟩
    go_wp2_with fail
    refine (HL.out _ hb1.out.1).mono ?_
    rintro e w2 ⟨rfl, hb2⟩
    go_wp2
    go_ret
    exact ⟨rfl, hb2.out.1⟩
  · by_cases hlong2 : 20 < m
    · go_enter Try.func17, Try.ntmps17
      go_wp2_with fail
      refine (HL.out _ HW.out).mono ?_
      rintro e w1 ⟨rfl, hb1⟩
      go_wp2_with fail
      refine (HL.out _ hb1.out.1).mono ?_
      rintro e w2 ⟨rfl, hb2⟩
      go_wp2
      go_ret
      exact ⟨rfl, hb2.out.1⟩
    · have HL2 := HLAY'.out (by omega)
      clear HLAY'
      go_enter Try.func17, Try.ntmps17
      go_wp2_with fail
      refine (HL.out _ HW.out).mono ?_
      rintro e w1 ⟨rfl, hb1⟩
      go_wp2_with fail
      refine (HL2.out _ hb1.out.1).mono ?_
      rintro e w2 ⟨q, p, ao, cap, rfl, hL⟩
      obtain ⟨B3', s, hLd'⟩ := hL.out
      obtain ⟨B3, hLd, hB3⟩ := hLd'.low
      have HB3 := Lib.hid hB3
      have HLD := Lib.hid hLd
      have HRING : Hid (∀ i, i < n → Calls Try.prog 60 #[.slice vo n vcap, .int .i64 i] w2 fun e w' => e = .returned (.bool (ringM nds (n + 1) i)) ∧ w2 = w') := by
        intro i hi
        have h := ring_any (w := w2) (HV.out.below (by rw [← HBB.out]; exact hLd.sto.own.below)) (by rw [← HN.out]; omega) (i := i) (by rw [← HN.out]; exact hi)
        rw [← HN.out] at h
        exact h
      have HB2 : Hid (Below B w w2) := hLd.sto.own.below
      clear hL hLd' hLd hb1 HL2 hB3
      go_wp2
      go_loop [48] (fun v48 => ∃ i : Nat, v48 = .int .i64 i ∧ i ≤ n ∧ Hid (∀ j, j < i → ringM nds (n + 1) j = false)) (fun v48 => n - (intOf v48).toNat)
      case atStart => exact ⟨0, rfl, by omega, fun j hj => by omega⟩
      case round =>
        obtain ⟨i0, rfl, hi0, hRI⟩ := hrel
        by_cases hin0 : i0 < n
        · have hri := HRING.out i0 hin0
          obtain ⟨rg, hrg⟩ : ∃ rg, rg = ringM nds (n + 1) i0 := ⟨_, rfl⟩
          rw [← hrg] at hri
          have HRG := Lib.hid hrg
          have HRI2 := Lib.hid hri
          clear hri hrg
          cases rg with
          | true =>
            go_wp2_with fail
            refine HRI2.out.mono ?_
            rintro e w3 ⟨rfl, rfl⟩
            go_wp2
            go_ret
            exact ⟨rfl, HB2.out⟩
          | false =>
            go_wp2_with fail
            refine HRI2.out.mono ?_
            rintro e w3 ⟨rfl, rfl⟩
            go_wp2
            go_round
            case rel =>
              refine ⟨i0 + 1, by go_num, by omega, fun j hj => ?_⟩
              by_cases e : j = i0
              · rw [e]; exact HRG.out.symm
              · exact hRI.out j (by omega)
            case measure => simp [intOf]; omega
        · have hin0' : i0 = n := by omega
          have HNR : Hid (∀ i, i < nds.length → ringM nds (nds.length + 1) i = false) := by
            intro i hi
            rw [← HN.out] at hi ⊢
            exact hRI.out i (by omega)
          clear hRI
          subst hin0'
          have HT0 : Hid (([] : List Int) = rtl 6 nds zs 0 ∧ ([] : List Int).length = 0 ∧ RowsAt B B3 w2.heap.size w (w2.alloc (.cells #[] 3)) q p s 6 nds ao i0 cap (.slice (some ⟨w2.heap.size, 0, none⟩) 0 0) []) := by
            have hf : Fr (fun _ => False) w2 (w2.alloc (.cells #[] 3)) := (Fr.refl _ w2).alloc _
            refine ⟨rfl, rfl, HLD.out.sto.quiet hf, HLD.out.row.fr hf fun _ _ => id, fun k hk => (HLD.out.row.lt k hk).2, HLD.out.above.1, ⟨HLD.out.above.2.1, HLD.out.above.2.2.1⟩, ?_, HLD.out.above.2.2.2, HB3.out, by simp⟩
            exact World.ownsRow_made w2 #[] 0 (Nat.le_refl _) (by decide) rfl
          obtain ⟨B4, hB4⟩ : ∃ B4, B4 = w2.heap.size := ⟨_, rfl⟩
          obtain ⟨W3, hW3⟩ : ∃ W3, W3 = w2.alloc (.cells #[] 3) := ⟨_, rfl⟩
          have HW3 := Lib.hid (And.intro hB4 hW3)
          rw [← hB4, ← hW3] at HT0
          clear hB4 hW3
          go_wp2
          rw [← HW3.out.2, ← HW3.out.1]
          go_loopw [10, 58] (fun v11 v54 wr => ∃ ao2 cap2, ∃ c2 i : Nat, ∃ l : List Int, v11 = .slice ao2 c2 cap2 ∧ v54 = .int .i64 i ∧ i ≤ m ∧ Hid (l = rtl 6 nds zs i ∧ l.length = c2 ∧ RowsAt B B3 B4 w wr q p s 6 nds ao i0 cap (.slice ao2 c2 cap2) l)) (fun _ v54 _ => m - (intOf v54).toNat)
          case atStart => exact ⟨some ⟨B4, 0, none⟩, 0, 0, 0, [], rfl, rfl, by omega, HT0.out⟩
          case round =>
            obtain ⟨ao2, cap2, c2, i, l, rfl, rfl, hi, hI⟩ := hrel
            clear HT0
            by_cases him : i < m
            · obtain ⟨b, off, rfl, hb, hcell0⟩ := HC.out.resolve_left (by rw [← HM.out]; omega)
              have hcell := hI.out.2.2.sto.world.cell (hcell0 i (by rw [← HM.out]; exact him)) (by show ¬ B ≤ b; omega)
              obtain ⟨z, hz⟩ : ∃ z, z = zs.getD i 0 := ⟨_, rfl⟩
              rw [← hz] at hcell
              have hzr : 0 ≤ z ∧ z ≤ 255 := by rw [hz]; exact u8_wf (HWF.out _ (getD_mem (by rw [← HM.out]; exact him)))
              obtain ⟨k, hk⟩ : ∃ k, k = rk i0 z := ⟨_, rfl⟩
              have hkn : k ≤ i0 := by rw [hk]; exact rk_le _ _
              have hmod : z.tmod ((i0 : Int) + 1) = (k : Int) := by
                rw [Int.tmod_eq_emod_of_nonneg hzr.1, hk]
                unfold rk
                have := Int.emod_nonneg z (show (i0 : Int) + 1 ≠ 0 by omega)
                omega
              have HMOD := Lib.hid hmod
              have HWZ : Hid (wrap64 z = z) := wrap_fit (by omega) (by omega)
              have HWK : Hid (wrap64 (k : Int) = k) := wrap_fit (by omega) (by omega)
              have HN0 : Hid ((((i0 : Int) + 1) == 0) = false) := by show _ = _; simp; omega
              have hc2 : c2 ≤ 20 := by
                have h1 := rtl_len 6 nds zs i
                rw [← hI.out.1, hI.out.2.1] at h1
                omega
              have hlen := hI.out.2.1
              by_cases hk0 : 0 < k
              · obtain ⟨k1, rfl⟩ : ∃ k1, k = k1 + 1 := ⟨k - 1, by omega⟩
                obtain ⟨A, hA⟩ : ∃ A, A = adr sorts20 6 nds k1 := ⟨_, rfl⟩
                have hnext : rtl 6 nds zs (i + 1) = l ++ [(A : Int)] := by
                  rw [hI.out.1, hA]
                  show (if 0 < rk nds.length (zs.getD i 0) then _ else _) = _
                  rw [← HN.out, ← hz, ← hk, if_pos (by omega)]
                  rfl
                have HNEXT := Lib.hid hnext
                have hrow := hI.out.2.2.row
                obtain ⟨g, hg1, hg, hc1⟩ := hrow.elem (j := k1) (by rw [adl_len]; omega)
                subst hg1
                rw [adl_get _ _ _ (by omega), ← hA] at hc1
                have hwA : IntKind.i64.wrap (((k1 + 1 : Nat) : Int) - 1) = k1 := by rw [IntKind.wrap_i64]; omega
                have hwB : IntKind.i64.wrap ((k1 : Int) + 1 - 1) = k1 := by rw [IntKind.wrap_i64]; omega
                have hk1 : (0 : Int) ≤ (k1 : Int) ∧ (k1 : Int) < (i0 : Int) := by omega
                clear hnext hrow hg hA hk hz hmod hcell0
                have hmod := HMOD.out
                have hwz := HWZ.out
                have hwk := HWK.out
                have hn0 := HN0.out
                go_upto_region 18 with fail
                clear hmod hwz hwk hn0
                go_wp2_with (first
                  | (at_builtin; refine wpList_append_own _ rfl _ _ 29 rfl B4 3 i3 (.int .i64 0) 1 8 Try.underlying29 hi3 hz0 hz1 hz2 rfl (by decide) _ _ _ rfl (hI.out.2.2.at'.alloc _) ⟨wr.heap.size, 0, none⟩ 1 1 [.int .i64 A] rfl rfl (cell_one_new _ _ _) (fun u hu => by simp at hu; subst hu; rfl) (by rw [hlen]; unfold maxLen; omega) (by rw [hlen]; omega) (by have := hI.out.2.2.sz; simp; omega) ?_))
                intro v' w4 hown' hgrow _
                have HR4 : Hid (l ++ [(A : Int)] = rtl 6 nds zs (i + 1) ∧ (l ++ [(A : Int)]).length = c2 + 1 ∧ RowsAt B B3 B4 w w4 q p s 6 nds (some ⟨g, 0, none⟩) i0 cap v' (l ++ [(A : Int)])) := by
                  refine ⟨HNEXT.out.symm, by rw [List.length_append, hlen]; rfl, hI.out.2.2.app ?_ hgrow⟩
                  rw [hlen]; exact hown'
                clear hown' hgrow hI HNEXT hlen hcell hc1
                obtain ⟨ao4, cap4, rfl, _⟩ := HR4.out.2.2.at'.shape
                rw [List.length_append, show ([(A : Int)] : List Int).length = 1 from rfl] at HR4 ⊢
                have hle : l.length = c2 := by have := HR4.out.2.1; omega
                rw [hle] at HR4 ⊢
                go_wp2
                go_roundw
                case rel => exact ⟨_, _, c2 + 1, i + 1, l ++ [(A : Int)], rfl, by go_num, by omega, by have := HR4.out; exact ⟨this.1, by rw [List.length_append, hle]; rfl, this.2.2⟩⟩
                case measure => simp [intOf]; omega
              · have hk00 : k = 0 := by omega
                subst hk00
                have HR4 : Hid (l = rtl 6 nds zs (i + 1) ∧ l.length = c2 ∧ RowsAt B B3 B4 w wr q p s 6 nds ao i0 cap (.slice ao2 c2 cap2) l) := by
                  refine ⟨?_, hI.out.2⟩
                  rw [hI.out.1]
                  show _ = (if 0 < rk nds.length (zs.getD i 0) then _ else _)
                  rw [← HN.out, ← hz, ← hk, if_neg (by omega)]
                have hmod : z.tmod ((i0 : Int) + 1) = 0 := by have := HMOD.out; simpa using this
                have hwz := HWZ.out
                have hn0 := HN0.out
                clear hI hlen hcell0 hk hz
                go_upto_region 17 with fail
                clear hmod hwz hn0
                go_wp2
                go_roundw
                case rel => exact ⟨_, _, c2, i + 1, l, rfl, by go_num, by omega, HR4.out⟩
                case measure => simp [intOf]; omega
            · have him2 : i = m := by omega
              subst him2
              obtain ⟨y, hy, hy2⟩ := urem_in most 30 (by decide) (by decide)
              have HY := Lib.hid hy
              have HY1 : Hid (wrap64 (1 + (y : Int)) = 1 + (y : Int)) := wrap_fit (by omega) (by omega)
              have HC1 : Hid (Calls Try.prog 30 #[.pointer (some ⟨q.sp, 0, none⟩), .slice ao2 c2 cap2, .int .i64 (1 + (y : Int))] wr fun e w' => ∃ (a2 : Option Addr) (cc2 kk ff : Nat) (pa pb pc : Int), e = .returned (.tuple #[.slice a2 c2 cc2, .agg #[.int .i64 kk, .int .i64 ff, .int .i64 pa, .int .i64 pb, .int .i64 pc], .int .i64 0]) ∧
                  Hid (∃ u os, Sto B w w' q p sorts20 u ∧ Fr p.mine wr w' ∧ IntsAt w' wr.heap.size (.slice a2 c2 cc2) os ∧ os.length = c2 ∧ kk + ff = i0 ∧ Kept20 s u (F20 nds) l os kk)) := by
                have hR := hI.out.2.2
                have hl := hI.out.2.1
                have hl20 : l.length ≤ 20 := by
                  have h1 := rtl_len 6 nds zs i
                  rw [← hI.out.1] at h1
                  omega
                have hcs := coll_twice (B2 := B4) (most := 1 + (y : Int)) hR.sto HLD.out.net HOK.out HNR.out (fun r hr => by rw [hI.out.1] at hr; exact rtl_in hr) (zs := l) (ro := ao2) (rcap := cap2) (by rw [hl]; exact hR.at') (fun k hk => by have := hR.mine k hk; have := hR.sz; omega) (by omega) (by omega)
                rw [hl, ← HN.out] at hcs
                exact hcs
              have HSP0 : Hid (wr.cell? ⟨q.sp, 0, none⟩ = some (.pointer (some ⟨p.h, 0, none⟩))) := hI.out.2.2.sto.sto.h0
              have HPL : Hid (∀ k, p.mine k → k < wr.heap.size) := fun k hk => by have := hI.out.2.2.mine k hk; have := hI.out.2.2.sz; omega
              have hc20 : c2 ≤ 20 := by
                have h1 := rtl_len 6 nds zs i
                rw [← hI.out.1, hI.out.2.1] at h1
                omega
              clear hI hy HW3
              have hy := HY.out
              have hy1 := HY1.out
              go_wp2_with fail
              clear hy hy1
              refine HC1.out.mono ?_
              rintro e w6 ⟨a2, cc2, kk, ff, pa, pb, pc, rfl, h6⟩
              obtain ⟨u, os, hSu, hfr6, hos, hol, hkf, hK⟩ := h6.out
              have hkb : kk ≤ i0 ∧ ff ≤ i0 := by omega
              obtain ⟨b1, hb1⟩ : ∃ b1, b1 = w6.heap.size := ⟨_, rfl⟩
              obtain ⟨W7, hW7⟩ : ∃ W7, W7 = w6.alloc (.cells #[.int .i64 kk, .int .i64 ff, .int .i64 pa, .int .i64 pb, .int .i64 pc] 51) := ⟨_, rfl⟩
              have HB7 : Hid (BlkAt W7 b1 51 5 (fun c => match c with | 0 => .int .i64 kk | 1 => .int .i64 ff | 2 => .int .i64 pa | 3 => .int .i64 pb | _ => .int .i64 pc)) := by
                rw [hW7, hb1]
                exact blk_new w6 51 _ 5 _ rfl
              have hf7 : Fr (fun _ => False) w6 W7 := by rw [hW7]; exact (Fr.refl _ w6).alloc _
              have HS7 : Hid (Sto B w W7 q p sorts20 u) := hSu.quiet hf7
              have HO7 : Hid (IntsAt W7 wr.heap.size (.slice a2 c2 cc2) os) := hos.fr hf7 fun _ _ => id
              have HNM : Hid (¬ p.mine b1) := fun hm => by
                have h1 := hSu.own.at'.lt _ hm; omega
              have HKK := Lib.hid hK
              have HOL := Lib.hid hol
              have HKF := Lib.hid hkf
              have HW7 := Lib.hid (And.intro hb1 hW7)
              have hspal : ∀ o, (w6.alloc o).cell? ⟨q.sp, 0, none⟩ = some (.pointer (some ⟨p.h, 0, none⟩)) := fun o => ((Fr.refl (fun _ => False) w6).alloc o).cell (hSu.sto.h0) id
              have HCE7 : Hid (Calls Try.prog 26 #[.pointer (some ⟨p.h, 0, none⟩)] W7 fun e w' => ∃ co cc, e = .returned (.slice co kk cc) ∧ Hid (Fr (fun _ => False) W7 w')) := by
                refine (cells_any W7 HS7.out.own.at').mono ?_
                rintro e w' ⟨v, rfl, h1, h2⟩
                obtain ⟨co, cc, rfl, _⟩ := h1.shape
                rw [show (cellsTo u.used (1 + 32 * u.n)).length = kk from hK.cells]
                exact ⟨co, cc, rfl, Fr.of_below h2⟩
              clear h6 hSu hfr6 hos hol hkf hK hf7 hW7 HC1
              go_wp2_with fail
              clear hspal
              rw [← HW7.out.2]
              refine HCE7.out.mono ?_
              rintro e w8 ⟨co, cc, rfl, h8⟩
              have HS8 : Hid (Sto B w w8 q p sorts20 u) := HS7.out.quiet h8.out
              have HO8 : Hid (IntsAt w8 wr.heap.size (.slice a2 c2 cc2) os) := HO7.out.fr h8.out fun _ _ => id
              have HB8 : Hid (BlkAt w8 b1 51 5 (fun c => match c with | 0 => .int .i64 kk | 1 => .int .i64 ff | 2 => .int .i64 pa | 3 => .int .i64 pb | _ => .int .i64 pc)) := HB7.out.fr h8.out id
              have HC2 : Hid (Calls Try.prog 30 #[.pointer (some ⟨q.sp, 0, none⟩), .slice a2 c2 cc2, .int .i64 (1 + (y : Int))] w8 fun e w' => ∃ (a3 : Option Addr) (c3 : Nat) (pa pb pc : Int), e = .returned (.tuple #[.slice a3 c2 c3, .agg #[.int .i64 kk, .int .i64 0, .int .i64 pa, .int .i64 pb, .int .i64 pc], .int .i64 0]) ∧
                  Hid (Fr p.mine w8 w' ∧ IntsAt w' w8.heap.size (.slice a3 c2 c3) os)) := by
                have hcs := coll_again (B2 := wr.heap.size) (most := 1 + (y : Int)) HS8.out HKK.out HLD.out.net.n (ro := a2) (rcap := cc2) (by rw [HOL.out]; exact HO8.out) HPL.out (by rw [HOL.out]; omega) (by omega)
                rw [HOL.out] at hcs
                exact hcs
              clear h8 HCE7 HS7 HO7 HB7
              go_wp2_with fail
              refine HC2.out.mono ?_
              rintro e w9 ⟨a3, c3, pa3, pb3, pc3, rfl, h9⟩
              have hle9 : w8.heap.size ≤ w9.heap.size := h9.out.1.size
              obtain ⟨b2, hb2⟩ : ∃ b2, b2 = w9.heap.size := ⟨_, rfl⟩
              obtain ⟨W10, hW10⟩ : ∃ W10, W10 = w9.alloc (.cells #[.int .i64 kk, .int .i64 0, .int .i64 pa3, .int .i64 pb3, .int .i64 pc3] 51) := ⟨_, rfl⟩
              have hf10 : Fr (fun _ => False) w9 W10 := by rw [hW10]; exact (Fr.refl _ w9).alloc _
              have hf8 : Fr p.mine w8 W10 := h9.out.1.trans hf10.any
              have hnb : ¬ p.mine b1 := HNM.out
              have hB10 : BlkAt W10 b1 51 5 (fun c => match c with | 0 => .int .i64 kk | 1 => .int .i64 ff | 2 => .int .i64 pa | 3 => .int .i64 pb | _ => .int .i64 pc) := HB8.out.fr hf8 hnb
              have hB20 : BlkAt W10 b2 51 5 (fun c => match c with | 0 => .int .i64 kk | 1 => .int .i64 0 | 2 => .int .i64 pa3 | 3 => .int .i64 pb3 | _ => .int .i64 pc3) := by
                rw [hW10, hb2]
                exact blk_new w9 51 _ 5 _ rfl
              have HA10 : Hid (IntsAt W10 wr.heap.size (.slice a2 c2 cc2) os) := HO8.out.fr hf8 fun k hk hm => by
                have h1 := (HO8.out.lt k hk).1
                have h2 := HPL.out k hm
                omega
              have HA11 : Hid (IntsAt W10 w8.heap.size (.slice a3 c2 c3) os) := h9.out.2.fr hf10 fun _ _ => id
              have HEND : Hid (Below B w W10) := by
                have h1 : Below B w8 W10 := hf8.below HS8.out.own.size (fun k hk => HS8.out.own.mine k hk)
                exact HS8.out.own.below.trans h1
              have e10 := hB10.cell (i := 0) (by omega)
              have e11 := hB10.cell (i := 1) (by omega)
              have e20 := hB20.cell (i := 0) (by omega)
              have e21 := hB20.cell (i := 1) (by omega)
              simp only at e10 e11 e20 e21
              have hkn : IntKind.i64.wrap ((kk : Int) + (ff : Int)) = (i0 : Int) := by rw [IntKind.wrap_i64]; have := HKF.out; omega
              have hkn2 : wrap64 ((kk : Int) + (ff : Int)) = (i0 : Int) := wrap_fit (by omega) (by omega) |>.trans (by have := HKF.out; omega)
              have hbb : ((kk : Int) != (kk : Int)) = false := by simp
              have hcc2 : ((c2 : Int) != (c2 : Int)) = false := by simp
              have hii : ((i0 : Int) != (i0 : Int)) = false := by simp
              have h00 : ((0 : Int) != 0) = false := by decide
              have HW10 := Lib.hid (And.intro hb2 hW10)
              rw [HW7.out.1] at e10 e11
              rw [hb2] at e20 e21
              have e10' := fun h : W10 = w9.alloc (.cells #[.int .i64 kk, .int .i64 0, .int .i64 pa3, .int .i64 pb3, .int .i64 pc3] 51) => e10
              clear h9 hf10 hf8 hnb hB10 hB20 hb2 HC2 HS8 HO8 HB8 hle9
              rw [hW10] at e10 e11 e20 e21
              clear e10' e20 e21
              go_wp2_with fail
              obtain ⟨C2, hC2⟩ : ∃ C2, C2 = wr.heap.size := ⟨_, rfl⟩
              obtain ⟨C3, hC3⟩ : ∃ C3, C3 = w8.heap.size := ⟨_, rfl⟩
              have HST : Hid (IntsAt W10 C2 (.slice a2 c2 cc2) os ∧ IntsAt W10 C3 (.slice a3 c2 c3) os ∧ Below B w W10) := by
                rw [hC2, hC3]
                exact ⟨HA10.out, HA11.out, HEND.out⟩
              rw [HW10.out.2] at HST
              clear e10 e11 HA10 HA11 HEND hC2 hC3
              go_loopw [148] (fun v148 wr => ∃ k : Nat, v148 = .int .i64 k ∧ k ≤ c2 ∧ Hid (IntsAt wr C2 (.slice a2 c2 cc2) os ∧ IntsAt wr C3 (.slice a3 c2 c3) os ∧ Below B w wr)) (fun v148 _ => c2 - (intOf v148).toNat)
              case atStart => exact ⟨0, rfl, by omega, HST.out⟩
              case round =>
                obtain ⟨k, rfl, hk, hST⟩ := hrel
                clear HST
                by_cases hkc : k < c2
                · have hlo : k < os.length := by rw [HOL.out]; exact hkc
                  obtain ⟨g1, hg1, _, hx1⟩ := hST.out.1.elem hlo
                  obtain ⟨g2, hg2, _, hx2⟩ := hST.out.2.1.elem hlo
                  obtain ⟨X, hX⟩ : ∃ X, X = os.getD k 0 := ⟨_, rfl⟩
                  rw [← hX] at hx1 hx2
                  subst hg1 hg2
                  have hxx : (X != X) = false := by simp
                  have hkk : (0 : Int) ≤ (k : Int) ∧ (k : Int) < (c2 : Int) := by omega
                  have HNX : Hid (∀ nq, IntsAt (wr.drewN nq) C2 (.slice (some ⟨g1, 0, none⟩) c2 cc2) os ∧ IntsAt (wr.drewN nq) C3 (.slice (some ⟨g2, 0, none⟩) c2 c3) os ∧ Below B w (wr.drewN nq)) := fun nq =>
                    ⟨hST.out.1.fr ((Fr.refl (fun _ => False) _).drewN nq) fun _ _ => id, hST.out.2.1.fr ((Fr.refl (fun _ => False) _).drewN nq) fun _ _ => id, hST.out.2.2.trans ⟨rfl, rfl, rfl, Nat.le_refl _, fun _ _ => rfl⟩⟩
                  clear hX hST
                  go_wp2_with fail
                  go_quiet (fail)
                  go_wp2
                  go_roundw
                  case rel => exact ⟨k + 1, by go_num, by omega, HNX.out _⟩
                  case measure => simp [intOf]; omega
                · have hkc2 : k = c2 := by omega
                  go_wp2
                  go_ret
                  exact ⟨rfl, hST.out.2.2⟩
end collectTwice
end Go.Proofs.Ytjfpijoeddjgmaa
