/- Law 16, HeapFull: cells of one size, till there is no more, given back, twice. No condition. -/
import Derived.Test.YtjfpijoeddjgmaaGcd
import Derived.Test.YtjfpijoeddjgmaaFull
import Derived.Deep.DeepCutAuto
import Derived.Deep.CutRange
namespace Go.Proofs.Ytjfpijoeddjgmaa
open Go.RowKit Hm
set_option linter.unusedVariables false
theorem zero_bool (w : World) : (zeroValue 4).run Try.prog w = .ok (.bool false) w := by kernel_rfl
/-- A map of marks without keys from a number on. -/
def MB (w : World) (mb : Nat) (bnd : Int) : Prop := ∃ L clk, MapAt w mb Value.bool L clk ∧ ∀ x, bnd ≤ x → lk L x = none
theorem MB.new (w : World) (bnd : Int) : MB (w.alloc (.map #[] 0)) w.heap.size bnd :=
  ⟨[], 0, ⟨by show (w.heap.push _)[w.heap.size]? = _; rw [Array.getElem?_push_size]; rfl, List.nodup_nil, List.nodup_nil, fun e he => by cases he⟩, fun x _ => lk_nil x⟩
theorem MB.look {w : World} {mb : Nat} {bnd : Int} (h : MB w mb bnd) : (Instr.lookup 67 (.map (some mb)) (.int .i64 bnd) false).run Try.prog w = .ok (.bool false) w := by
  obtain ⟨L, clk, h1, h2⟩ := h
  have := run_lookup_at (P := Try.prog) (T := 67) (z := .bool false) Try.underlying67 Try.underlying3 (zero_bool w) h1 bnd
  rw [h2 bnd (Int.le_refl _)] at this
  exact this
theorem MB.set {w : World} {mb : Nat} {bnd : Int} (h : MB w mb bnd) : ∃ w', (Instr.mapUpdate 67 (.map (some mb)) (.int .i64 bnd) (.bool true)).run Try.prog w = .ok () w' ∧ MB w' mb (bnd + 1) ∧ Fr (fun k => k = mb) w w' := by
  obtain ⟨L, clk, h1, h2⟩ := h
  refine ⟨_, run_update_at (P := Try.prog) (T := 67) Try.underlying67 Try.underlying3 h1 bnd true, ⟨_, _, h1.put bnd true, fun x hx => ?_⟩, (Fr.refl (fun k => k = mb) w).putMap (S := fun k => k = mb) rfl _⟩
  rw [lk_put, if_neg (by omega)]
  exact h2 x (by omega)
theorem RB.fr {B B2 : Nat} {w wr w' : World} {p : HP} {s : HS} {v : Value} {l : List Int} (h : RB B B2 w wr p s v l) {S : Nat → Prop} (hf : Fr S wr w') (hp : ∀ k, p.mine k → ¬ S k) (hv : ∀ k, v.ownBlock = some k → ¬ S k) (hS : ∀ k, S k → B ≤ k) : RB B B2 w w' p s v l :=
  ⟨h.own.other hf hp hS, h.at'.fr hf hv, Nat.le_trans h.sz hf.size⟩
namespace heapFull
set_option maxRecDepth 100000 in
set_option maxHeartbeats 8000000 in
theorem walk (words nn skip : Int) (w : World) : Calls Try.prog 7 #[.int .i64 words, .int .i64 nn, .int .i64 skip] w fun e w' => e = .returned (.bool true) ∧ Below w.heap.size w w' := by
  obtain ⟨i3, hi3, hz0, hz1, hz2⟩ := info_parts info3
  obtain ⟨B, hB⟩ : ∃ B, B = w.heap.size := ⟨_, rfl⟩
  rw [← hB]
  have HL := Lib.hid (lives_from hB)
  have HW := Lib.hid (Below.refl B w)
  clear hB
  obtain ⟨y, hy, hy2⟩ := urem_in words 1000 (by decide) (by decide)
  obtain ⟨sz, hs, hs2⟩ := urem_in nn 64 (by decide) (by decide)
  obtain ⟨k, hk, hk2⟩ := urem_in skip 7 (by decide) (by decide)
  obtain ⟨size, hsz⟩ : ∃ size : Nat, (1 : Int) + (sz : Int) = (size : Int) := ⟨1 + sz, by omega⟩
  have hsz1 : 1 ≤ size ∧ size ≤ 64 := by omega
  obtain ⟨n, hn⟩ : ∃ n : Nat, (32 + (y : Int)) / 32 = n := ⟨(32 + y) / 32, by omega⟩
  have hn1 : 1 ≤ n ∧ n ≤ 40 := by omega
  have HNEW := Lib.hid (new_from (B := B) (w := w) (32 + (y : Int)) n (by omega) (by omega) hn)
  obtain ⟨E, hE⟩ : ∃ E, E = each size := ⟨_, rfl⟩
  obtain ⟨M, hM⟩ : ∃ M, M = most n size := ⟨_, rfl⟩
  have hEb : 2 ≤ E ∧ E ≤ 64 := by have := each_in size hsz1.1 hsz1.2; omega
  have hMb : M ≤ 640 := by have := most_le (n := n) hsz1.1 hsz1.2; omega
  have hEM : E * M ≤ 32 * n := by rw [hE, hM]; exact most_fits
  have HN := Lib.hid hn
  have HE := Lib.hid hE
  have HM := Lib.hid hM
  have hnq : (32 + (y : Int)).tdiv 32 = n := by rw [Int.tdiv_eq_ediv_of_nonneg (by omega)]; exact hn
  have hMq : ((n : Int) * 32).tdiv (E : Int) = (M : Int) := by rw [Int.tdiv_eq_ediv_of_nonneg (by omega), hM]; unfold most; rw [← hE]; rfl
  have hE0 : ((E : Int) == 0) = false := by simp; omega
  clear hn hE hM
  go_enter Try.func7, Try.ntmps7
  go_wp2_with fail
  refine (HL.out _ HW.out).mono ?_
  rintro e w1 ⟨rfl, hb1⟩
  go_wp2_with fail
  refine (HNEW.out _ hb1.out).mono ?_
  rintro e w2 ⟨p, rfl, hO, HP2⟩
  obtain ⟨B2, hB2⟩ : ∃ B2, B2 = w2.heap.size := ⟨_, rfl⟩
  rw [← hB2] at HP2 hO
  have HB2 : Hid (B ≤ B2) := by show B ≤ B2; rw [hB2]; exact hO.out.own.size
  clear hB2
  go_wp2
  go_loop [11] (fun v11 => ∃ e : Nat, v11 = .int .i64 e ∧ (e = 2 ∨ e = 4 ∨ e = 8 ∨ e = 16 ∨ e = 32 ∨ e = 64) ∧ (e = 2 ∨ e < 2 * size)) (fun v11 => 128 - (intOf v11).toNat)
  case atStart => exact ⟨2, rfl, .inl rfl, .inl rfl⟩
  case round =>
    obtain ⟨e, rfl, he1, he2⟩ := hrel
    by_cases hes : e < size
    · go_wp2
      go_round
      case rel => exact ⟨2 * e, by go_num, by omega, by omega⟩
      case measure => simp [intOf]; omega
    · have heE : E = e := by rw [HE.out]; exact each_of he1 he2 (by omega) hsz1.1
      subst heE
      go_upto_if 51 with fail
      go_cut [11] from 45 to 51 (fun v11 wc => v11 = .int .i64 E ∧ wc = w2)
      case first =>
        by_cases h32 : 32 < size
        · have hE64 : E = 64 := by rw [HE.out]; unfold each; rw [if_neg (by omega)]
          subst hE64
          go_wp2
          go_meet
          case rel => exact ⟨rfl, rfl⟩
        · go_wp2
          go_meet
          case rel => exact ⟨rfl, rfl⟩
      case rest =>
        obtain ⟨rfl, rfl⟩ := hcut
        clear he1 he2 hes
        rw [← HS.ful_zero n size] at hO
        have HB2s : Hid (B2 ≤ wc.heap.size) := hO.out.sz
        have HOW : Hid (Own B w wc p (HS.ful n size 0)) := hO.out.own
        clear hO
        go_wp2
        go_loopw [57] (fun v57 wr => ∃ r : Nat, v57 = .int .i64 r ∧ r ≤ 2 ∧ Hid (Own B w wr p (HS.ful n size 0) ∧ B2 ≤ wr.heap.size)) (fun v57 _ => 2 - (intOf v57).toNat)
        case atStart => exact ⟨0, rfl, by omega, HOW.out, HB2s.out⟩
        case round =>
          obtain ⟨r, rfl, hr, hH⟩ := hrel
          clear HOW HB2s
          by_cases hlt : r < 2
          · have hlt' : decide ((r : Int) < 2) = true := by simp; omega
            obtain ⟨B3, hB3⟩ : ∃ B3, B3 = wr.heap.size := ⟨_, rfl⟩
            have HB3 : Hid (B ≤ B3 ∧ B2 ≤ B3) := by have := HB2.out; have := hH.out.2; show _ ∧ _; omega
            have HP3 : Hid (∀ k, p.mine k → k < B3) := fun k hk => by have := HP2.out k hk; have := HB3.out; omega
            have HR0 : Hid (RB B B3 w wr p (HS.ful n size 0) (.slice none 0 0) []) := ⟨hH.out.1, IntsAt.nil _ _, by rw [hB3]; exact Nat.le_refl _⟩
            clear hB3 hH
            go_wp2
            go_loopw [13, 60] (fun v13 v60 wr => ∃ ao cap, ∃ j : Nat, v13 = .slice ao j cap ∧ v60 = .int .i64 j ∧ j ≤ M ∧ Hid (RB B B3 w wr p (HS.ful n size j) (.slice ao j cap) (row E j))) (fun _ v60 _ => M - (intOf v60).toNat)
            case atStart => exact ⟨_, _, 0, rfl, rfl, by omega, HR0⟩
            case round =>
              obtain ⟨ao, cap, j, rfl, rfl, hj, hR⟩ := hrel
              clear HR0
              by_cases hjM : j < M
              · have hal := HS.ful_alloc (n := n) (size := size) (j := j) hsz1.1 hsz1.2 (by rw [← HM.out]; exact hj)
                rw [← HM.out, if_pos hjM, ← HE.out] at hal
                have hcall := Lib.hid (hR.out.alloc HP3.out (size : Int) hal)
                have hcap0 := HS.ful_cap (n := n) (size := size) (j := j) hsz1.1 hsz1.2 (by rw [← HM.out]; exact hjM)
                rw [← HE.out] at hcap0
                have hA3 := Nat.mul_le_mul_left E (show j + 1 ≤ M from hjM)
                rw [Nat.mul_add, Nat.mul_one] at hA3
                obtain ⟨A, hA⟩ : ∃ A, A = 1 + E * j := ⟨_, rfl⟩
                rw [← hA] at hcall hcap0
                have hA1 : 1 ≤ A := by omega
                have hA2 : A + E ≤ 1 + 32 * n := by omega
                have HA := Lib.hid hA
                have HCP := Lib.hid hcap0
                clear hal hR hA hcap0 hA3
                go_wp2_with fail
                refine hcall.out.mono ?_
                rintro x w3 ⟨rfl, hR2⟩
                have hcap : Hid (Calls Try.prog 22 #[.pointer (some ⟨p.h, 0, none⟩), .int .i64 A] w3 fun x w' => x = .returned (.int .i64 E) ∧ w3 = w') := by
                  have h := cap_nat A w3 hR2.out.own.at'
                  rw [HCP.out] at h
                  exact h
                go_wp2_with (first
                  | (go_at_call 22; refine hcap.out.mono ?_; rintro x w6 ⟨rfl, rfl⟩)
                  | (at_builtin; refine wpList_append_own _ rfl _ _ 29 rfl B3 3 i3 (.int .i64 0) 1 8 Try.underlying29 hi3 hz0 hz1 hz2 rfl (by decide) _ _ _ rfl (hR2.out.at'.alloc _) ⟨w3.heap.size, 0, none⟩ 1 1 [.int .i64 A] rfl rfl (cell_one_new _ _ _) (fun u hu => by simp at hu; subst hu; rfl) (by rw [row_len]; unfold maxLen; omega) (by rw [row_len]; omega) (by have := hR2.out.sz; simp; omega) ?_))
                intro v' w4 hown' hgrow _
                have HR3 : Hid (RB B B3 w w4 p (HS.ful n size (j + 1)) v' (row E (j + 1))) := by
                  have hown2 : w4.ownsRow B3 3 1 v' ((row E j).length + 1) ((row E j).map (Value.int .i64) ++ [.int .i64 A]) := by first | exact hown' | (rw [row_len]; exact hown')
                  have h := hR2.out.app HP3.out HB3.out.1 hown2 hgrow
                  rw [row_succ, ← HA.out]
                  exact h
                clear hown' hgrow hR2
                obtain ⟨ao4, cap4, rfl, _⟩ := HR3.out.at'.shape
                rw [row_len] at HR3 ⊢
                go_wp2
                go_roundw
                case rel => exact ⟨_, _, j + 1, rfl, by go_num, by omega, HR3⟩
                case measure => simp [intOf]; omega
              · have hjM2 : j = M := by omega
                subst hjM2
                have hao := hR.out.at'.shape'
                rw [row_len] at hao
                have HAO := Lib.hid hao
                obtain ⟨mb, hmb⟩ : ∃ mb, mb = wr.heap.size := ⟨_, rfl⟩
                have HMB : Hid ((∀ k, p.mine k → k ≠ mb) ∧ (∀ k, (Value.slice ao j cap).ownBlock = some k → k ≠ mb) ∧ B ≤ mb) := by
                  have h1 := hR.out.own.at'.lt
                  have h2 := hR.out.at'.lt
                  refine ⟨fun k hk => ?_, fun k hk => ?_, ?_⟩
                  · have := h1 k hk; omega
                  · have := (h2 k hk).2; omega
                  · have := hR.out.sz; have := HB3.out; omega
                have HR4 : Hid (RB B B3 w (wr.alloc (.map #[] 0)) p (HS.ful n size j) (.slice ao j cap) (row E j) ∧ MB (wr.alloc (.map #[] 0)) mb 1) :=
                  ⟨hR.out.fr (S := fun _ => False) ((Fr.refl _ wr).alloc _) (fun _ _ => id) (fun _ _ => id) (fun _ h => h.elim), by rw [hmb]; exact MB.new wr 1⟩
                have hmk := run_makeMap (P := Try.prog) 67 wr
                rw [← hmb] at hmk
                have hmb' := hmb.symm
                clear hao hR hmb
                go_wp2
                go_loopw [99] (fun v99 wr => ∃ q : Nat, v99 = .int .i64 q ∧ q ≤ j ∧ Hid (RB B B3 w wr p (HS.ful n size j) (.slice ao j cap) (row E j) ∧ MB wr mb (1 + E * q : Nat))) (fun v99 _ => j - (intOf v99).toNat)
                case atStart => exact ⟨0, rfl, by omega, HR4⟩
                case round =>
                  obtain ⟨q, rfl, hq, hQ⟩ := hrel
                  clear HR4 hmk hmb'
                  by_cases hqj : q < j
                  · have hqj' : decide ((q : Int) < (j : Int)) = true := by simp; omega
                    obtain ⟨g, rfl⟩ : ∃ g, ao = some ⟨g, 0, none⟩ := (HAO.out.resolve_left (by omega))
                    have hcell := hQ.out.1.at'.get (j := q) (by rw [row_len]; exact hqj)
                    rw [row_get E hqj] at hcell
                    have hA3 := Nat.mul_le_mul_left E (show q + 1 ≤ j from hqj)
                    rw [Nat.mul_add, Nat.mul_one] at hA3
                    have hQ0 := hQ.out.2
                    obtain ⟨A, hA⟩ : ∃ A, A = 1 + E * q := ⟨_, rfl⟩
                    rw [← hA] at hcell hQ0
                    have HQ0 := Lib.hid hQ0
                    have hA2 : A + E ≤ 1 + 32 * n := by omega
                    have HA := Lib.hid hA
                    clear hA hA3 hQ0
                    go_wp2
                    go_loopw [104] (fun v104 wr => ∃ d : Nat, v104 = .int .i64 d ∧ d ≤ E ∧ Hid (RB B B3 w wr p (HS.ful n size j) (.slice (some ⟨g, 0, none⟩) j cap) (row E j) ∧ MB wr mb ((A : Int) + d))) (fun v104 _ => E - (intOf v104).toNat)
                    case atStart => exact ⟨0, rfl, by omega, hQ.out.1, by simpa using HQ0.out⟩
                    case round =>
                      obtain ⟨d, rfl, hd, hD⟩ := hrel
                      clear hQ HQ0
                      by_cases hdE : d < E
                      · have hlk := hD.out.2.look
                        obtain ⟨w5, hup, hM5, hF5⟩ := hD.out.2.set
                        have HD2 : Hid (RB B B3 w w5 p (HS.ful n size j) (.slice (some ⟨g, 0, none⟩) j cap) (row E j) ∧ MB w5 mb ((A : Int) + (d + 1 : Nat))) :=
                          ⟨hD.out.1.fr hF5 (fun k hk he => HMB.out.1 k hk he) (fun k hk he => HMB.out.2.1 k hk he) (fun k hk => by have := HMB.out.2.2; omega), by rw [show (A : Int) + (d + 1 : Nat) = A + d + 1 by omega]; exact hM5⟩
                        clear hM5 hF5 hD
                        go_wp2
                        go_roundw
                        case rel => exact ⟨d + 1, by go_num, by omega, HD2⟩
                        case measure => simp [intOf]; omega
                      · have hdE2 : d = E := by omega
                        have HQ2 : Hid (RB B B3 w wr p (HS.ful n size j) (.slice (some ⟨g, 0, none⟩) j cap) (row E j) ∧ MB wr mb ((1 + E * (q + 1) : Nat) : Int)) := by
                          refine ⟨hD.out.1, ?_⟩
                          have h := hD.out.2
                          rw [hdE2, HA.out] at h
                          rw [show ((1 + E * (q + 1) : Nat) : Int) = ((1 + E * q : Nat) : Int) + (E : Int) by rw [Nat.mul_add]; omega]
                          exact h
                        clear hD hdE2
                        go_wp2
                        go_roundw
                        case rel => exact ⟨q + 1, by go_num, by omega, HQ2⟩
                        case measure => simp [intOf]; omega
                  · have hqj2 : q = j := by omega
                    subst hqj2
                    have hal := HS.ful_alloc (n := n) (size := size) (j := q) hsz1.1 hsz1.2 (by rw [← HM.out]; exact Nat.le_refl _)
                    rw [← HM.out, if_neg (Nat.lt_irrefl q)] at hal
                    have hcall := Lib.hid (hQ.out.1.alloc HP3.out (size : Int) hal)
                    have hroom0 : HS.room (HS.ful n size q) (size : Int) = false := by unfold HS.room; rw [hal]; rfl
                    have HRM := Lib.hid hroom0
                    have HLF : Hid (HS.Left n E q (HS.ful n size q) (fun a => ∃ b, b < 0 ∧ a = (b * k + b) % q)) := by
                      have h := HS.ful_left (n := n) (size := size) (j := q) (by rw [← HM.out]; exact Nat.le_refl _)
                      rw [← HE.out] at h
                      exact h.congr fun i _ => ⟨fun h => h.elim, fun ⟨b, h, _⟩ => absurd h (Nat.not_lt_zero _)⟩
                    clear hal hQ hroom0
                    go_wp2_with fail
                    refine hcall.out.mono ?_
                    rintro x w5 ⟨rfl, hQ2⟩
                    have hroom : Hid (Calls Try.prog 31 #[.pointer (some ⟨p.h, 0, none⟩), .int .i64 size] w5 fun x w' => x = .returned (.bool false) ∧ Hid (RB B B3 w w' p (HS.ful n size q) (.slice ao q cap) (row E q))) := by
                      refine (room_any (size : Int) w5 hQ2.out.own.at').mono ?_
                      rw [HRM.out]
                      rintro x w' ⟨rfl, h⟩
                      exact ⟨rfl, hQ2.out.fr (S := fun _ => False) (Fr.of_below h) (fun _ _ => id) (fun _ _ => id) (fun _ h => h.elim)⟩
                    go_wp2_with (first | (go_at_call 31; refine hroom.out.mono ?_; rintro x w6 ⟨rfl, hQ3⟩))
                    have hQ3 := (by assumption : Hid (RB B B3 w _ p (HS.ful n size q) (.slice ao q cap) (row E q)))
                    rw [hk]
                    go_loopw [137] (fun v137 wr => ∃ i : Nat, ∃ s, v137 = .int .i64 i ∧ i ≤ q ∧ Hid (RB B B3 w wr p s (.slice ao q cap) (row E q)) ∧ Hid (HS.Left n E q s (fun a => ∃ b, b < i ∧ a = (b * k + b) % q))) (fun v137 _ => q - (intOf v137).toNat)
                    case atStart => exact ⟨0, _, rfl, by omega, hQ3, HLF⟩
                    case round =>
                      obtain ⟨i, s, rfl, hi, hI, hF⟩ := hrel
                      clear hQ2 hQ3 HLF hroom hcall
                      by_cases hiq : i < q
                      · have hiq' : decide ((i : Int) < (q : Int)) = true := by simp; omega
                        have hq0 : ((q : Int) == 0) = false := by simp; omega
                        obtain ⟨g, rfl⟩ : ∃ g, ao = some ⟨g, 0, none⟩ := (HAO.out.resolve_left (by omega))
                        obtain ⟨ix, hix⟩ : ∃ ix, ix = (i * k + i) % q := ⟨_, rfl⟩
                        have hixq : ix < q := by rw [hix]; exact Nat.mod_lt _ (by omega)
                        obtain ⟨pr, hpr⟩ : ∃ pr, pr = i * k := ⟨_, rfl⟩
                        have hprb : pr ≤ 5000 := by
                          rw [hpr]
                          have := Nat.mul_le_mul (show i ≤ 640 by omega) (show k ≤ 7 by omega)
                          omega
                        have hP : (i : Int) * (k : Int) = (pr : Int) := by rw [hpr]; exact (Int.natCast_mul i k).symm
                        have hmod : ((pr : Int) + (i : Int)).tmod (q : Int) = (ix : Int) := by rw [Int.tmod_eq_emod_of_nonneg (by omega), hix, hpr]; exact (Int.natCast_emod (i * k + i) q).symm
                        have hcell := hI.out.at'.get (j := ix) (by rw [row_len]; exact hixq)
                        rw [row_get E hixq] at hcell
                        have HIX := Lib.hid hix
                        have HPR := Lib.hid hpr
                        clear hix hpr
                        by_cases hg : ∃ b, b < i ∧ ix = (b * k + b) % q
                        · have hfree : Hid (Calls Try.prog 25 #[.pointer (some ⟨p.h, 0, none⟩), .int .i64 ((1 + E * ix : Nat) : Int)] wr fun x w' => x = .returned (.int .i64 1) ∧ Hid (RB B B3 w w' p s (.slice (some ⟨g, 0, none⟩) q cap) (row E q))) :=
                            hI.out.free HP3.out (1 + E * ix) (hF.out.free_gone (by omega) hg)
                          have HF2 : Hid (HS.Left n E q s (fun a => ∃ b, b < i + 1 ∧ a = (b * k + b) % q)) := hF.out.congr fun a _ => by
                            refine ⟨fun ⟨b, h1, h2⟩ => ⟨b, by omega, h2⟩, fun ⟨b, h1, h2⟩ => ?_⟩
                            rcases Nat.lt_succ_iff_lt_or_eq.1 h1 with h3 | rfl
                            · exact ⟨b, h3, h2⟩
                            · rw [h2, ← HIX.out]; exact hg
                          have hgcd : Nat.gcd (k + 1) q ≠ 1 := by
                            intro h1
                            obtain ⟨b, hb, he⟩ := hg
                            rw [HIX.out] at he
                            exact steps_apart (by omega) h1 hiq hb he
                          obtain ⟨A, hA⟩ : ∃ A, A = 1 + E * ix := ⟨_, rfl⟩
                          rw [← hA] at hfree hcell
                          clear hg hA hF
                          obtain ⟨m1, hm1⟩ : ∃ m1, m1 = (k + 1) % q := ⟨_, rfl⟩
                          have hk1 : ((k : Int) + 1).tmod (q : Int) = (m1 : Int) := by rw [Int.tmod_eq_emod_of_nonneg (by omega), hm1]; exact (Int.natCast_emod (k + 1) q).symm
                          clear hm1
                          by_cases hm0 : m1 = 0
                          · subst hm0
                            clear hgcd
                            go_wp2_with (first | (go_at_call 25; refine hfree.out.mono ?_; rintro x w7 ⟨rfl, hI2⟩))
                            have hI2 := (by assumption : Hid (RB B B3 w _ p s (.slice (some ⟨g, 0, none⟩) q cap) (row E q)))
                            go_roundw
                            case rel => exact ⟨i + 1, _, by go_num, by omega, hI2, HF2⟩
                            case measure => simp [intOf]; omega
                          · have hm0' : ((m1 : Int) != 0) = true := by simp; omega
                            have hm1' : ((m1 : Int) == 0) = false := by simp; omega
                            obtain ⟨G, hG⟩ : ∃ G, G = Nat.gcd (k + 1) q := ⟨_, rfl⟩
                            rw [← hG] at hgcd
                            have hG1 : ((G : Int) == 1) = false := by simp; omega
                            have HG : Hid (∀ W, RB B B3 w W p s (.slice (some ⟨g, 0, none⟩) q cap) (row E q) → Calls Try.prog 36 #[.int .i64 ((k : Int) + 1), .int .i64 q] W fun x w' => x = .returned (.int .i64 G) ∧ Hid (RB B B3 w w' p s (.slice (some ⟨g, 0, none⟩) q cap) (row E q))) := by
                              intro W hW
                              refine (gcd_any (k + 1) q W).mono ?_
                              rw [← hG]
                              rintro x w' ⟨rfl, h⟩
                              exact ⟨rfl, hW.fr h (fun _ _ => id) (fun _ _ => id) (fun _ h => h.elim)⟩
                            clear hG
                            go_wp2_with (first
                              | (go_at_call 25; refine hfree.out.mono ?_; rintro x w7 ⟨rfl, hI2⟩)
                              | (go_at_call 36; refine (HG.out _ (Hid.out (by assumption : Hid (RB B B3 w _ p s (.slice (some ⟨g, 0, none⟩) q cap) (row E q))))).mono ?_; rintro x w8 ⟨rfl, hI3⟩))
                            have hI2 := (by assumption : Hid (RB B B3 w _ p s (.slice (some ⟨g, 0, none⟩) q cap) (row E q)))
                            go_roundw
                            case rel => exact ⟨i + 1, _, by go_num, by omega, hI2, HF2⟩
                            case measure => simp [intOf]; omega
                        · have hfr := hF.out.free (by omega) hixq hg
                          have hfree : Hid (Calls Try.prog 25 #[.pointer (some ⟨p.h, 0, none⟩), .int .i64 ((1 + E * ix : Nat) : Int)] wr fun x w' => x = .returned (.int .i64 0) ∧ Hid (RB B B3 w w' p (s.free (1 + E * ix)).2 (.slice (some ⟨g, 0, none⟩) q cap) (row E q))) :=
                            hI.out.free HP3.out (1 + E * ix) (Prod.ext hfr.1 rfl)
                          have HF2 : Hid (HS.Left n E q (s.free (1 + E * ix)).2 (fun a => ∃ b, b < i + 1 ∧ a = (b * k + b) % q)) := hfr.2.congr fun a _ => by
                            constructor
                            · rintro (⟨b, h1, h2⟩ | rfl)
                              · exact ⟨b, by omega, h2⟩
                              · exact ⟨i, by omega, HIX.out⟩
                            · rintro ⟨b, h1, h2⟩
                              rcases Nat.lt_succ_iff_lt_or_eq.1 h1 with h3 | rfl
                              · exact .inl ⟨b, h3, h2⟩
                              · exact .inr (h2.trans HIX.out.symm)
                          generalize (s.free (1 + E * ix)).2 = s2 at hfree HF2
                          obtain ⟨A, hA⟩ : ∃ A, A = 1 + E * ix := ⟨_, rfl⟩
                          rw [← hA] at hfree hcell
                          clear hg hA hF hfr
                          go_wp2_with (first | (go_at_call 25; refine hfree.out.mono ?_; rintro x w7 ⟨rfl, hI2⟩))
                          have hI2 := (by assumption : Hid (RB B B3 w _ p s2 (.slice (some ⟨g, 0, none⟩) q cap) (row E q)))
                          go_roundw
                          case rel => exact ⟨i + 1, _, by go_num, by omega, hI2, HF2⟩
                          case measure => simp [intOf]; omega
                      · have hiq2 : i = q := by omega
                        have HWF : Hid (s.WF ∧ s.n = n) := ⟨hF.out.wf, hF.out.cnt⟩
                        obtain ⟨B5, hB5⟩ : ∃ B5, B5 = wr.heap.size := ⟨_, rfl⟩
                        have HB5 : Hid (B2 ≤ B5 ∧ B ≤ B5) := by have := hI.out.sz; have := HB3.out; show _ ∧ _; omega
                        have HP5 : Hid (∀ k, p.mine k → k < B5) := by rw [hB5]; exact hI.out.own.at'.lt
                        obtain ⟨l, hl⟩ : ∃ l, l = cellsTo s.used (1 + 32 * n) := ⟨_, rfl⟩
                        have hcells : Hid (Calls Try.prog 26 #[.pointer (some ⟨p.h, 0, none⟩)] wr fun x w' => ∃ aoC capC, x = .returned (.slice aoC l.length capC) ∧ Hid (RB B B5 w w' p s (.slice aoC l.length capC) l)) := by
                          refine (cells_any wr hI.out.own.at').mono ?_
                          rintro x w' ⟨v, rfl, h1, h2⟩
                          rw [HWF.out.2, ← hl, ← hB5] at h1
                          obtain ⟨aoC, capC, rfl, _⟩ := h1.shape
                          exact ⟨aoC, capC, rfl, hI.out.own.other (S := fun _ => False) (Fr.of_below h2) (fun _ _ => id) (fun _ h => h.elim), h1, by rw [hB5]; exact h2.size⟩
                        have HL2 : Hid ((∀ i, i < l.length → ∃ X : Nat, l.getD i 0 = (X : Int)) ∧ ∀ x : Nat, s.used x = true → (x : Int) ∈ l) := by
                          refine ⟨fun i hi => ?_, fun x hx => ?_⟩
                          · rw [List.getD_eq_getElem?_getD, List.getElem?_eq_getElem hi]
                            have hz : ∀ z ∈ l, ∃ X : Nat, z = (X : Int) := by
                              intro z hz
                              rw [hl] at hz
                              unfold cellsTo at hz
                              obtain ⟨X, _, hX⟩ := List.mem_map.1 hz
                              exact ⟨X, hX.symm⟩
                            exact hz _ (List.getElem_mem hi)
                          · have := HWF.out.1.in_ hx
                            rw [HWF.out.2] at this
                            have h2 := HWF.out.1.cap_pos hx
                            rw [hl]
                            exact List.mem_map.2 ⟨x, List.mem_filter.2 ⟨List.mem_range.2 (by omega), hx⟩, rfl⟩
                        have hlb : l.length ≤ 1300 := by have := cellsTo_len s.used (1 + 32 * n); rw [← hl] at this; omega
                        clear hl hB5 hI hF
                        obtain ⟨Lc, hLc⟩ : ∃ Lc, Lc = l.length := ⟨_, rfl⟩
                        rw [← hLc] at hcells hlb HL2
                        have HLC := Lib.hid hLc
                        clear hLc
                        go_wp2_with (first | (go_at_call 26; refine hcells.out.mono ?_; rintro x w8 ⟨aoC, capC, rfl, hC⟩))
                        go_loopw [174] (fun v174 wr => ∃ t : Nat, ∃ s', v174 = .int .i64 t ∧ t ≤ Lc ∧ Hid (RB B B5 w wr p s' (.slice aoC Lc capC) l) ∧ Hid (HS.Told n s s' l t)) (fun v174 _ => Lc - (intOf v174).toNat)
                        case atStart => exact ⟨0, _, rfl, by omega, hC, HS.Told.start HWF.out.1 HWF.out.2 l⟩
                        case round =>
                          obtain ⟨t, s', rfl, ht, hT, hU⟩ := hrel
                          clear hC hcells
                          by_cases htl : t < Lc
                          · obtain ⟨g, rfl⟩ : ∃ g, aoC = some ⟨g, 0, none⟩ := (hT.out.at'.shape'.resolve_left (by rw [← HLC.out]; omega))
                            obtain ⟨X, hX⟩ := HL2.out.1 t htl
                            have hcell := hT.out.at'.get (j := t) (by rw [← HLC.out]; exact htl)
                            rw [hX] at hcell
                            have HU2 : Hid (HS.Told n s (s'.free X).2 l (t + 1)) := hU.out.next hX
                            have hfree : Hid (Calls Try.prog 25 #[.pointer (some ⟨p.h, 0, none⟩), .int .i64 X] wr fun x w' => x = .returned (.int .i64 (s'.free X).1) ∧ Hid (RB B B5 w w' p (s'.free X).2 (.slice (some ⟨g, 0, none⟩) Lc capC) l)) := hT.out.free HP5.out X rfl
                            generalize (s'.free X).2 = s3 at hfree HU2
                            generalize (s'.free X).1 = e3 at hfree
                            clear hX hT hU
                            go_wp2_with (first | (go_at_call 25; refine hfree.out.mono ?_; rintro x w9 ⟨rfl, hT2⟩))
                            have hT2 := (by assumption : Hid (RB B B5 w _ p s3 (.slice (some ⟨g, 0, none⟩) Lc capC) l))
                            go_roundw
                            case rel => exact ⟨t + 1, _, by go_num, by omega, hT2, HU2⟩
                            case measure => simp [intOf]; omega
                          · have htl2 : t = Lc := by omega
                            have hs' := (show HS.Told n s s' l l.length by rw [← HLC.out, ← htl2]; exact hU.out).all HWF.out.1 HWF.out.2 HL2.out.2
                            rw [hs'] at hT
                            have hcells : Hid (Calls Try.prog 26 #[.pointer (some ⟨p.h, 0, none⟩)] wr fun x w' => ∃ ao cap, x = .returned (.slice ao 0 cap) ∧ Hid (Own B w w' p (HS.ful n size 0) ∧ B2 ≤ w'.heap.size)) := by
                              refine (cells_any wr hT.out.own.at').mono ?_
                              rintro x w' ⟨v, rfl, h1, h2⟩
                              have e : cellsTo (HS.empty n).used (1 + 32 * (HS.empty n).n) = [] := by unfold cellsTo; simp [HS.empty]
                              rw [e] at h1
                              obtain ⟨ao, cap, rfl, _⟩ := h1.shape
                              refine ⟨ao, cap, rfl, ?_, by have := HB5.out; have := hT.out.sz; have := h2.size; omega⟩
                              rw [HS.ful_zero]
                              exact hT.out.own.other (S := fun _ => False) (Fr.of_below h2) (fun _ _ => id) (fun _ h => h.elim)
                            clear hT hU hs'
                            go_wp2_with (first | (go_at_call 26; refine hcells.out.mono ?_; rintro x w10 ⟨aoD, capD, rfl, hO⟩))
                            have hO := (by assumption : Hid (Own B w _ p (HS.ful n size 0) ∧ B2 ≤ _))
                            go_roundw
                            case rel => exact ⟨r + 1, by go_num, by omega, hO⟩
                            case measure => simp [intOf]; omega
          · go_wp2
            go_ret
            exact ⟨rfl, hH.out.1.below⟩
end heapFull
end Go.Proofs.Ytjfpijoeddjgmaa
