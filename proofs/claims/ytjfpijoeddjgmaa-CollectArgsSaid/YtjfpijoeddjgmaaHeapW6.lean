/- The heap: Alloc of a small cell where no block has one free: a new block, or none. Conditions: the heap reads as the plain model says. -/
import Derived.Test.YtjfpijoeddjgmaaHeapW5
namespace Go.Proofs.Ytjfpijoeddjgmaa
open Go.RowKit Hm
set_option linter.unusedSimpArgs false
theorem heap_putMap_same (w : World) (b : Nat) (o : Obj) (h : b < w.heap.size) : (World.putMap w b o).heap[b]? = some o := by
  simp [World.putMap, h]
theorem putMap_putMap (w : World) (b : Nat) (o o' : Obj) : World.putMap (World.putMap w b o) b o' = World.putMap w b o' := by
  simp [World.putMap]
set_option maxRecDepth 100000 in
set_option maxHeartbeats 1000000 in
theorem allocBC {p : HP} {s : HS} (n : Nat) (w : World) (hA : HeapAt w p s) (h1n : 1 ≤ n) (h2n : n ≤ 32) (hblk : s.blk (cls n) = none) :
    Calls Try.prog 21 #[.pointer (some ⟨p.h, 0, none⟩), .int .i64 n] w fun e w' =>
      e = .returned (.tuple #[.int .i64 (s.alloc n).1, .int .i64 (s.alloc n).2.1]) ∧ HeapAt w' p (s.alloc n).2.2 ∧ Fr p.mine w w' := by
  obtain ⟨L, clk, cl, hR, hwf, hF, hC, hn1, hn2⟩ := hA
  obtain ⟨c, hc⟩ : ∃ c, c = cls n := ⟨_, rfl⟩
  have hcls := cls_is n
  rw [← hc] at hblk hcls
  have hcp := hcls.pos
  have hcl := hcls.le
  have hdiv : c * (32 / c) = 32 := hcls.dvd
  obtain ⟨D, hD⟩ : ∃ D, D = 32 / c := ⟨_, rfl⟩
  have hDi : (32 : Int) / (c : Int) = D := by rw [hD]; exact (Int.natCast_ediv 32 c).symm
  obtain ⟨f0, f1, f2⟩ := hF c hcls
  obtain ⟨F, hFe⟩ := Int.eq_ofNat_of_zero_le f0
  have hfr : F ≤ s.n := by omega
  have hcnt : ∀ b, b < s.n → s.kind b = (c : Int) → (s.cnt b < D ↔ (s.slot c b).isSome = true) := fun b _ hk => by rw [hD]; exact (HS.slot_isSome hcls hk).symm
  have hfull0 : ∀ b', b' < s.n → s.kind b' = (c : Int) → 32 / c ≤ s.cnt b' := fun b' hb' hk' => by
    have h1 := HS.blk_none hblk b' hb' hk'
    have h2 := hcnt b' hb' hk'
    rw [h1] at h2
    simp at h2; omega
  have hfull := Lib.hid hfull0
  have FINB : Hid (∀ {W : World}, s.run 1 = none → Raw W p s.n s.word s.kind (fun b => (s.cnt b : Int)) s.used (put clk (c : Int) (s.n : Int) L) (clkOf L clk (c : Int)) cl → Fr p.mine w W →
      (Ending.returned (.tuple #[.int .i64 0, .int .i64 9]) = .returned (.tuple #[.int .i64 (s.alloc n).1, .int .i64 (s.alloc n).2.1]) ∧ HeapAt W p (s.alloc n).2.2 ∧ Fr p.mine w W)) := by
    intro W hr hR3 hF3
    have ha : s.alloc (n : Int) = (0, 9, s) := by
      unfold HS.alloc
      rw [if_neg (by omega), if_neg (by omega)]
      simp only [Int.toNat_natCast]
      rw [← hc, hblk]
      simp only [hr]
    rw [ha]
    refine ⟨rfl, ⟨put clk (c : Int) (s.n : Int) L, clkOf L clk (c : Int), cl, hR3, hwf, ?_, hC, hn1, hn2⟩, hF3⟩
    have := hF.none hcls hfull0
    refine cast (congrArg _ ?_) this
    funext k
    rw [lk_put]
    split <;> rfl
  have FINC : Hid (∀ {W w7 : World} {b1 : Nat}, s.run 1 = some b1 → Fr p.mine w W → Raw w7 p s.n s.word (upd s.kind b1 (c : Int)) (upd (fun b => (s.cnt b : Int)) b1 ((s.cnt b1 : Int) + 1)) (upd s.used (1 + 32 * b1 + c * 0) true) (put (clkOf L clk (c : Int)) (c : Int) (b1 : Int) (put clk (c : Int) (s.n : Int) L)) (clkOf (put clk (c : Int) (s.n : Int) L) (clkOf L clk (c : Int)) (c : Int)) (b1 : Int) → Fr p.mine W w7 →
      (Ending.returned (.tuple #[.int .i64 ((1 + 32 * b1 + c * 0 : Nat) : Int), .int .i64 0]) = .returned (.tuple #[.int .i64 (s.alloc n).1, .int .i64 (s.alloc n).2.1]) ∧ HeapAt w7 p (s.alloc n).2.2 ∧ Fr p.mine w w7)) := by
    intro W w7 b1 hr hF1 hR7 hF7
    have ha : s.alloc (n : Int) = (1 + 32 * b1, 0, s.takeNew b1 c) := by
      unfold HS.alloc
      rw [if_neg (by omega), if_neg (by omega)]
      simp only [Int.toNat_natCast]
      rw [← hc, hblk]
      simp only [hr]
    have hb1n := HS.run_some hr
    have hb1k : s.kind b1 = 0 := by simpa using HS.run_free hr 0 (by omega)
    rw [ha, Nat.mul_zero, Nat.add_zero] at *
    refine ⟨rfl, ⟨put (clkOf L clk (c : Int)) (c : Int) (b1 : Int) (put clk (c : Int) (s.n : Int) L), clkOf (put clk (c : Int) (s.n : Int) L) (clkOf L clk (c : Int)) (c : Int), (b1 : Int), ?_, hwf.takeNew hcls (by omega) hb1k, ?_, HS.HintC.takeNew hcls (by omega) (fun b' hb' => ?_), hn1, hn2⟩, hF1.trans hF7⟩
    · have e : (fun b => (((s.takeNew b1 c).cnt b : Nat) : Int)) = upd (fun b => (s.cnt b : Int)) b1 ((s.cnt b1 : Int) + 1) := by
        funext b'; rw [HS.cnt_takeNew hwf hcls hb1k]; unfold upd; split
        · rw [HS.WF.cnt_free (s := s) (.inl hb1k)]; rfl
        · rfl
      show Raw w7 p s.n s.word (s.takeNew b1 c).kind (fun b => (((s.takeNew b1 c).cnt b : Nat) : Int)) _ _ _ _
      rw [e]; exact hR7
    · have := hF.takeNew hwf hcls (by omega) hb1k hfull0
      refine cast (congrArg _ ?_) this
      funext k
      rw [lk_put, lk_put]
      split <;> rfl
    · obtain ⟨i, hi, hk⟩ := HS.run_first hr b' hb'
      have : i = 0 := by omega
      subst this; simpa using hk
  have HC := Lib.hid hC
  have HBLK := Lib.hid hblk
  clear hblk hC
  have hclass := fun w => class_any n w h1n h2n
  simp only [← hc] at hclass
  have HCL := Lib.hid hclass
  have HCE := Lib.hid hc
  have HR := Lib.hid hR
  have HFE := Lib.hid hFe
  have HD := Lib.hid hDi
  clear hR hDi hdiv hcnt f0 f2 hclass hc hFe hfull0
  go_enter Try.func21, Try.ntmps21
  go_wp2_with fail
  refine (HCL.out _).mono ?_
  rintro e w1 ⟨rfl, hb1⟩
  have hR1 := HR.out.fr (Fr.of_below (S := fun _ => False) hb1) (fun _ _ h => h)
  have hlk := run_lookup_at (P := Try.prog) (T := 123) (z := .int .i64 0) Try.underlying123 Try.underlying3 (zero_int w1) hR1.mp (c : Int)
  have h4 : w1.cell? ⟨p.h, 4, none⟩ = some (.map (some p.mb)) := hR1.st.cell (by omega)
  have h1 : w1.cell? ⟨p.h, 1, none⟩ = some (.slice (some ⟨p.kb, 0, none⟩) s.n s.n) := hR1.st.cell (by omega)
  have h2 : w1.cell? ⟨p.h, 2, none⟩ = some (.slice (some ⟨p.cb, 0, none⟩) s.n s.n) := hR1.st.cell (by omega)
  rw [show (Option.map (Value.int .i64) (lk L c)).getD (.int .i64 0) = .int .i64 F by
    rw [← HFE.out]; cases lk L (c : Int) <;> rfl] at hlk
  go_wp2_with fail
  have HR1 := Lib.hid hR1
  have HLK := Lib.hid hlk
  clear hR1 hlk h4 h1 h2
  go_loopw [7] (fun v wr => ∃ b k : Nat, v = .int .i64 b ∧ wr = w1.drewN k ∧ b ≤ s.n) (fun v _ => s.n - (intOf v).toNat)
  case atStart => exact ⟨F, 0, rfl, rfl, hfr⟩
  case round =>
    obtain ⟨b, k, rfl, rfl, hbb⟩ := hrel
    have hRk := HR1.out.drewN k
    obtain ⟨wk, hwk⟩ : ∃ wk, wk = w1.drewN k := ⟨_, rfl⟩
    rw [← hwk] at hRk ⊢
    have HWK := Lib.hid hwk
    clear hwk
    have h4 : wk.cell? ⟨p.h, 4, none⟩ = some (.map (some p.mb)) := hRk.st.cell (by omega)
    have h1 : wk.cell? ⟨p.h, 1, none⟩ = some (.slice (some ⟨p.kb, 0, none⟩) s.n s.n) := hRk.st.cell (by omega)
    have h2 : wk.cell? ⟨p.h, 2, none⟩ = some (.slice (some ⟨p.cb, 0, none⟩) s.n s.n) := hRk.st.cell (by omega)
    by_cases hbn : b < s.n
    · have hk1 := hRk.kd.cell hbn
      have hc1 := hRk.cn.cell hbn
      by_cases hkc : s.kind b = (c : Int)
      · rw [hkc] at hk1
        have hat : 32 / (c : Int) ≤ ((s.cnt b : Nat) : Int) := by rw [HD.out]; have := hfull.out b hbn hkc; omega
        have hat' : decide (((s.cnt b : Nat) : Int) < 32 / (c : Int)) = false := by rw [decide_eq_false_iff_not]; omega
        have HKC := Lib.hid hkc
        have HRK := Lib.hid hRk
        clear hRk hkc
        go_wp2_with fail
        go_quiet (fail)
        go_wp2_with fail
        go_roundw
        case rel => exact ⟨b + 1, k + nq, by go_num, by rw [HWK.out]; exact World.drewN_drewN .., by omega⟩
        case measure => simp [intOf]; omega
      · obtain ⟨K, hK⟩ : ∃ K, K = s.kind b := ⟨_, rfl⟩
        rw [← hK] at hk1 hkc
        have hkb : (K == (c : Int)) = false := by simpa using hkc
        have HK := Lib.hid hK
        clear hRk hkc hK
        go_wp2_with fail
        go_quiet (fail)
        go_wp2_with fail
        go_roundw
        case rel => exact ⟨b + 1, k + nq, by go_num, by rw [HWK.out]; exact World.drewN_drewN .., by omega⟩
        case measure => simp [intOf]; omega
    · have HRK := Lib.hid hRk
      obtain ⟨o, ho⟩ : ∃ o : Obj, o = .map ((put clk (c : Int) (s.n : Int) L).map (entOf (Value.int .i64))).toArray (clkOf L clk c) := ⟨_, rfl⟩
      have hup : (Instr.mapUpdate 123 (.map (some p.mb)) (.int .i64 c) (.int .i64 (s.n : Int))).run Try.prog wk.drew = .ok () (World.putMap wk.drew p.mb o) := by
        rw [ho]; exact run_update_at Try.underlying123 Try.underlying3 hRk.drew.mp (c : Int) (s.n : Int)
      have HO := Lib.hid ho
      clear hRk ho
      go_wp2_with fail
      go_still_tail 10, (by kernel_rfl)
      change wpList _ _ _ _ _ wk.drew
      go_wp2_with fail
      have hR2 : Raw (World.putMap wk.drew p.mb o) p s.n s.word s.kind (fun b => (s.cnt b : Int)) s.used (put clk (c : Int) (s.n : Int) L) (clkOf L clk (c : Int)) cl := by
        rw [HO.out]; exact HRK.out.drew.putMap (c : Int) (s.n : Int)
      have hF2 : Fr p.mine w (World.putMap wk.drew p.mb o) := by
        rw [HWK.out]
        exact (((Fr.of_below hb1).drewN k).drew).putMap (by simp [HP.mine]) _
      obtain ⟨w2, hw2⟩ : ∃ w2, w2 = World.putMap wk.drew p.mb o := ⟨_, rfl⟩
      rw [← hw2] at hR2 hF2
      refine (run_any (k := 1) _ (by rw [← hw2]; exact hR2) HC.out hn2 (by omega) (by omega)).mono ?_
      rw [← hw2]
      clear hw2 hup HO HWK HRK h4 h1 h2
      have HR2 := Lib.hid hR2
      have HF2 := Lib.hid hF2
      cases hr : s.run 1 with
      | none =>
        have hri : runInt s 1 = -1 := by unfold runInt; rw [hr]
        rw [hri]
        have HAF := FINB.out hr hR2 hF2
        clear hr hri hR2 hF2
        rintro e w3 ⟨rfl, rfl⟩
        go_wp2_with fail
        go_ret2
        exact HAF
      | some b1 =>
        have hri : runInt s 1 = (b1 : Int) := by unfold runInt; rw [hr]
        have hb1n := HS.run_some hr
        have hb1k : s.kind b1 = 0 := by simpa using HS.run_free hr 0 (by omega)
        rw [hri]
        have h4 : w2.cell? ⟨p.h, 4, none⟩ = some (.map (some p.mb)) := hR2.st.cell (by omega)
        have h1 : w2.cell? ⟨p.h, 1, none⟩ = some (.slice (some ⟨p.kb, 0, none⟩) s.n s.n) := hR2.st.cell (by omega)
        have hk1 := hR2.kd.cell (i := b1) (by omega)
        have hfk := hR2.kd.frozen b1
        have hR3 := (hR2.setKind b1 (c : Int)).drew
        have hme := run_entry_at (P := Try.prog) (T := 123) (z := (0 : Int)) Try.underlying123 Try.underlying3 (zero_int _) hR3.mp (c : Int)
        have hes := fun w hb => run_entryStore_at (P := Try.prog) (T := 123) (w := w) (b := p.mb) (z := (0 : Int)) (c' := clkOf (put clk (c : Int) (s.n : Int) L) (clkOf L clk (c : Int)) (c : Int)) (c : Int) (b1 : Int) (vf := Value.int .i64) hb hR3.mp.borns hR3.mp.lt
        obtain ⟨w4, hw4⟩ : ∃ w4, w4 = World.putMap (w2.setCell ⟨p.kb, b1, none⟩ (.int .i64 c)).drew p.mb (.map ((made (0 : Int) (put clk (c : Int) (s.n : Int) L) (clkOf L clk (c : Int)) (c : Int)).map (entOf (Value.int .i64))).toArray (clkOf (put clk (c : Int) (s.n : Int) L) (clkOf L clk (c : Int)) (c : Int))) := ⟨_, rfl⟩
        rw [← hw4] at hme
        have hes := hes w4 (by rw [hw4]; exact heap_putMap_same _ _ _ hR3.mp.blk_lt)
        obtain ⟨w5, hw5⟩ : ∃ w5, w5 = World.putMap w4 p.mb (.map ((put (clkOf L clk (c : Int)) (c : Int) (b1 : Int) (put clk (c : Int) (s.n : Int) L)).map (entOf (Value.int .i64))).toArray (clkOf (put clk (c : Int) (s.n : Int) L) (clkOf L clk (c : Int)) (c : Int))) := ⟨_, rfl⟩
        rw [← hw5] at hes
        have hR5 : Raw w5 p s.n s.word (upd s.kind b1 (c : Int)) (fun b => (s.cnt b : Int)) s.used (put (clkOf L clk (c : Int)) (c : Int) (b1 : Int) (put clk (c : Int) (s.n : Int) L)) (clkOf (put clk (c : Int) (s.n : Int) L) (clkOf L clk (c : Int)) (c : Int)) cl := by
          have h := hR3.putMap (c : Int) (b1 : Int)
          have e : w5 = World.putMap (w2.setCell ⟨p.kb, b1, none⟩ (.int .i64 c)).drew p.mb (.map ((put (clkOf L clk (c : Int)) (c : Int) (b1 : Int) (put clk (c : Int) (s.n : Int) L)).map (entOf (Value.int .i64))).toArray (clkOf (put clk (c : Int) (s.n : Int) L) (clkOf L clk (c : Int)) (c : Int))) := by
            rw [hw5, hw4]; exact putMap_putMap _ _ _ _
          rw [e]; exact h
        have hF5 : Fr p.mine w w5 := by
          rw [hw5, hw4]
          exact ((((hF2.setCell (by simp [HP.mine]) _).drew).putMap (by simp [HP.mine]) _).putMap (by simp [HP.mine]) _)
        obtain ⟨V, hV⟩ : ∃ V : Int, V = (lk (put clk (c : Int) (s.n : Int) L) (c : Int)).getD 0 := ⟨_, rfl⟩
        obtain ⟨ST, hST⟩ : ∃ ST : Nat, ST = stampOf (put clk (c : Int) (s.n : Int) L) (clkOf L clk (c : Int)) (c : Int) := ⟨_, rfl⟩
        rw [← hV, ← hST] at hme
        rw [← hST] at hes
        have hcl5 : w5.cell? ⟨p.h, 5, none⟩ = some (.int .i64 cl) := hR5.st.cell (by omega)
        have hfz5 : w5.frozen? ⟨p.h, 5, none⟩ = false := hR5.st.frozen 5
        have hbb1 : b1 < s.n := by omega
        have HR5 := Lib.hid hR5
        have HF5 := Lib.hid hF5
        have HRUN1 := Lib.hid hr
        clear hw4 hw5 hV hST hR5 hF5 hR2 hF2 hR3 hri hb1n hr
        have HB1K := Lib.hid hb1k
        clear hb1k
        rintro e w3 ⟨rfl, rfl⟩
        go_wp2_with fail
        go_region
        have hR6 := HR5.out.setClear (b1 : Int)
        have hF6 : Fr p.mine w (w5.setCell ⟨p.h, 5, none⟩ (.int .i64 b1)) := HF5.out.setCell (by simp [HP.mine]) _
        go_wp2_with fail
        refine (take_raw b1 c 0 _ hR6 hbb1 hn2 hcls (by omega) (by omega) (by have := hwf.cnt_le b1; omega) (fun j hj => by omega) (hwf.unused (.inl HB1K.out) (by omega))).mono ?_
        rintro e w7 ⟨rfl, hR7, hF7⟩
        have HAF := FINC.out HRUN1.out hF6 hR7 hF7
        clear hR6 hF6 hR7 hF7
        go_wp2_with fail
        go_ret2
        exact HAF
end Go.Proofs.Ytjfpijoeddjgmaa
