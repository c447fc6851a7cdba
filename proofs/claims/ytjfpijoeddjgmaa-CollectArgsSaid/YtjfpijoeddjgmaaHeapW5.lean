/- The heap: Alloc of a small cell in a block that has one free. Conditions: the heap reads as the plain model says. -/
import Derived.Test.YtjfpijoeddjgmaaHeapW4
namespace Go.Proofs.Ytjfpijoeddjgmaa
open Go.RowKit Hm
set_option linter.unusedSimpArgs false
theorem zero_int (w : World) : (zeroValue 3).run Try.prog w = .ok (.int .i64 0) w := by kernel_rfl

set_option maxRecDepth 100000 in
set_option maxHeartbeats 1000000 in
theorem allocA {p : HP} {s : HS} (n : Nat) (w : World) (hA : HeapAt w p s) (h1n : 1 ≤ n) (h2n : n ≤ 32) (b0 : Nat) (hblk : s.blk (cls n) = some b0) :
    Calls Try.prog 21 #[.pointer (some ⟨p.h, 0, none⟩), .int .i64 n] w fun e w' =>
      e = .returned (.tuple #[.int .i64 (s.alloc n).1, .int .i64 (s.alloc n).2.1]) ∧ HeapAt w' p (s.alloc n).2.2 ∧ Fr p.mine w w' := by
  obtain ⟨L, clk, cl, hR, hwf, hF, hC, hn1, hn2⟩ := hA
  obtain ⟨hb0, hk0, ⟨j0, hj0⟩, hfirst⟩ := HS.blk_some hblk
  obtain ⟨hj1, hj2, hj3⟩ := HS.slot_some hj0
  obtain ⟨c, hc⟩ : ∃ c, c = cls n := ⟨_, rfl⟩
  have hcls := cls_is n
  rw [← hc] at hblk hk0 hj0 hfirst hj1 hj2 hj3 hcls
  have hcp := hcls.pos
  have hcl := hcls.le
  have hdiv : c * (32 / c) = 32 := hcls.dvd
  obtain ⟨D, hD⟩ : ∃ D, D = 32 / c := ⟨_, rfl⟩
  have hDi : (32 : Int) / (c : Int) = D := by rw [hD]; exact (Int.natCast_ediv 32 c).symm
  obtain ⟨f0, f1, f2⟩ := hF c hcls
  obtain ⟨F, hFe⟩ := Int.eq_ofNat_of_zero_le f0
  have hfr : F ≤ b0 := by
    rcases Nat.lt_or_ge b0 F with h | h
    · have := f2 b0 (by omega) hk0
      have h3 := (HS.slot_isSome hcls hk0).1 (by rw [hj0]; rfl)
      omega
    · exact h
  have hcnt : ∀ b, b < s.n → s.kind b = (c : Int) → (s.cnt b < D ↔ (s.slot c b).isSome = true) := fun b _ hk => by rw [hD]; exact (HS.slot_isSome hcls hk).symm
  have hfull : Hid (∀ b', b' < b0 → s.kind b' = (c : Int) → D ≤ s.cnt b') := fun b' hb' hk' => by
    have h1 := hfirst b' hb' hk'
    have h2 := hcnt b' (by omega) hk'
    rw [h1] at h2
    simp at h2; exact h2
  have hat0 : s.cnt b0 < D := (hcnt b0 hb0 hk0).2 (by rw [hj0]; rfl)
  have FIN : Hid (s.alloc (n : Int) = (1 + 32 * b0 + c * j0, 0, s.takeSlot (1 + 32 * b0 + c * j0))) := by
    show s.alloc (n : Int) = _
    unfold HS.alloc
    rw [if_neg (by omega), if_neg (by omega)]
    simp only [Int.toNat_natCast]
    rw [← hc, hblk]
    simp only [hj0, Option.getD_some]
  have FINAL : Hid (∀ {W w3 : World}, Fr p.mine w W → Raw w3 p s.n s.word s.kind (upd (fun b => (s.cnt b : Int)) b0 ((s.cnt b0 : Int) + 1)) (upd s.used (1 + 32 * b0 + c * j0) true) (put clk (c : Int) (b0 : Int) L) (clkOf L clk (c : Int)) cl → Fr p.mine W w3 →
      (Ending.returned (.tuple #[.int .i64 ((1 + 32 * b0 + c * j0 : Nat) : Int), .int .i64 0]) = .returned (.tuple #[.int .i64 (s.alloc n).1, .int .i64 (s.alloc n).2.1]) ∧ HeapAt w3 p (s.alloc n).2.2 ∧ Fr p.mine w w3)) := by
    intro W w3 hF1 hR3 hF3
    rw [FIN.out]
    refine ⟨rfl, ⟨put clk (c : Int) (b0 : Int) L, clkOf L clk (c : Int), cl, ?_, hwf.takeSlot hcls hk0 hj1, ?_, hC.takeSlot _, hn1, hn2⟩, hF1.trans hF3⟩
    · have e : (fun b => (((s.takeSlot (1 + 32 * b0 + c * j0)).cnt b : Nat) : Int)) = upd (fun b => (s.cnt b : Int)) b0 ((s.cnt b0 : Int) + 1) := by
        funext b'; rw [HS.cnt_takeSlot hwf hcls hk0 (hcls.lt_iff.2 hj1) hj2]; unfold upd; split <;> simp
      show Raw w3 p s.n s.word s.kind (fun b => (((s.takeSlot (1 + 32 * b0 + c * j0)).cnt b : Nat) : Int)) _ _ _ cl
      rw [e]; exact hR3
    · have := hF.takeSlot hwf hcls hk0 (hcls.lt_iff.2 hj1) hj2 (fun b' hb' hk' => by rw [← hD]; exact hfull.out b' hb' hk')
      refine cast (congrArg _ ?_) this
      funext k
      rw [lk_put]
      split <;> rfl
  have hj3 := Lib.hid hj3
  have hclass := fun w => class_any n w h1n h2n
  simp only [← hc] at hclass
  have HCL := Lib.hid hclass
  have HCE := Lib.hid hc
  have HR := Lib.hid hR
  have HFE := Lib.hid hFe
  have HD := Lib.hid hDi
  clear hR hDi hdiv hcnt hfirst hblk hC f0 f2 hclass hc hFe
  go_enter Try.func21, Try.ntmps21
  go_wp2_with fail
  refine (HCL.out _).mono ?_
  rintro e w1 ⟨rfl, hb1⟩
  have hR1 := HR.out.fr (Fr.of_below (S := fun _ => False) hb1) (fun _ _ h => h)
  have hlk := run_lookup_at (P := Try.prog) (T := 123) (z := .int .i64 0) Try.underlying123 Try.underlying3 (zero_int w1) hR1.mp (c : Int)
  have h4 : w1.cell? ⟨p.h, 4, none⟩ = some (.map (some p.mb)) := hR1.st.cell (by omega)
  have h1 : w1.cell? ⟨p.h, 1, none⟩ = some (.slice (some ⟨p.kb, 0, none⟩) s.n s.n) := hR1.st.cell (by omega)
  have h2 : w1.cell? ⟨p.h, 2, none⟩ = some (.slice (some ⟨p.cb, 0, none⟩) s.n s.n) := hR1.st.cell (by omega)
  rw [show (Option.map (Value.int .i64) (lk L c)).getD (.int .i64 0) = .int .i64 F by
    rw [← HFE.out]; cases lk L (c : Int) <;> rfl] at hlk
  go_wp2_with fail
  have HR1 := Lib.hid hR1
  have HLK := Lib.hid hlk
  clear hR1 hlk h4 h1 h2
  go_loopw [7] (fun v wr => ∃ b k : Nat, v = .int .i64 b ∧ wr = w1.drewN k ∧ b ≤ b0) (fun v _ => s.n - (intOf v).toNat)
  case atStart => exact ⟨F, 0, rfl, rfl, hfr⟩
  case round =>
    obtain ⟨b, k, rfl, rfl, hbb⟩ := hrel
    have hRk := HR1.out.drewN k
    obtain ⟨wk, hwk⟩ : ∃ wk, wk = w1.drewN k := ⟨_, rfl⟩
    rw [← hwk] at hRk ⊢
    have HWK := Lib.hid hwk
    clear hwk
    have h4 : wk.cell? ⟨p.h, 4, none⟩ = some (.map (some p.mb)) := hRk.st.cell (by omega)
    have h1 : wk.cell? ⟨p.h, 1, none⟩ = some (.slice (some ⟨p.kb, 0, none⟩) s.n s.n) := hRk.st.cell (by omega)
    have h2 : wk.cell? ⟨p.h, 2, none⟩ = some (.slice (some ⟨p.cb, 0, none⟩) s.n s.n) := hRk.st.cell (by omega)
    have hbn : b < s.n := by omega
    have hk1 := hRk.kd.cell hbn
    have hc1 := hRk.cn.cell hbn
    by_cases hlast : b = b0
    · subst hlast
      rw [hk0] at hk1
      have hat : ((s.cnt b : Nat) : Int) < 32 / (c : Int) := by rw [HD.out]; omega
      have heq : ((c : Int) == (c : Int)) = true := by simp
      have HRK := Lib.hid hRk
      obtain ⟨o, ho⟩ : ∃ o : Obj, o = .map ((put clk (c : Int) (b : Int) L).map (entOf (Value.int .i64))).toArray (clkOf L clk c) := ⟨_, rfl⟩
      have hup : ∀ nq, (Instr.mapUpdate 123 (.map (some p.mb)) (.int .i64 c) (.int .i64 b)).run Try.prog (wk.drewN nq) = .ok () (World.putMap (wk.drewN nq) p.mb o) := fun nq => by
        rw [ho]; exact run_update_at Try.underlying123 Try.underlying3 (hRk.drewN nq).mp (c : Int) (b : Int)
      have HO := Lib.hid ho
      clear hRk ho
      go_wp2_with fail
      go_quiet (fail)
      go_wp2_with fail
      have hR2 : Raw (World.putMap (wk.drewN nq) p.mb o) p s.n s.word s.kind (fun b => (s.cnt b : Int)) s.used (put clk (c : Int) (b : Int) L) (clkOf L clk (c : Int)) cl := by
        rw [HO.out]; exact (HRK.out.drewN nq).putMap (c : Int) (b : Int)
      have hF2 : Fr p.mine w (World.putMap (wk.drewN nq) p.mb o) := by
        rw [HWK.out]
        exact (((Fr.of_below hb1).drewN k).drewN nq).putMap (by simp [HP.mine]) _
      refine (take_raw b c j0 _ hR2 hbn hn2 hcls (hcls.lt_iff.2 hj1) (by omega) (by have := hwf.cnt_le b; omega) hj3.out hj2).mono ?_
      rintro e w3 ⟨rfl, hR3, hF3⟩
      have HAF := FINAL.out hF2 hR3 hF3
      clear hR3 hF3 hR2 hF2
      go_wp2_with fail
      go_ret2
      exact HAF
    · have hlt : b < b0 := by omega
      have hne : (b : Int) + 1 ≤ b0 := by omega
      by_cases hkc : s.kind b = (c : Int)
      · rw [hkc] at hk1
        have hat : 32 / (c : Int) ≤ ((s.cnt b : Nat) : Int) := by rw [HD.out]; have := hfull.out b hlt hkc; omega
        have hat' : decide (((s.cnt b : Nat) : Int) < 32 / (c : Int)) = false := by rw [decide_eq_false_iff_not]; omega
        have HKC := Lib.hid hkc
        clear hRk hkc hk0
        go_wp2_with fail
        go_quiet (fail)
        go_wp2_with fail
        go_roundw
        case rel => exact ⟨b + 1, k + nq, by go_num, by rw [HWK.out]; exact World.drewN_drewN .., by omega⟩
        case measure => simp [intOf]; omega
      · obtain ⟨K, hK⟩ : ∃ K, K = s.kind b := ⟨_, rfl⟩
        rw [← hK] at hk1 hkc
        have hkb : (K == (c : Int)) = false := by simpa using hkc
        have HK := Lib.hid hK
        clear hRk hkc hK hk0
        go_wp2_with fail
        go_quiet (fail)
        go_wp2_with fail
        go_roundw
        case rel => exact ⟨b + 1, k + nq, by go_num, by rw [HWK.out]; exact World.drewN_drewN .., by omega⟩
        case measure => simp [intOf]; omega
end Go.Proofs.Ytjfpijoeddjgmaa
