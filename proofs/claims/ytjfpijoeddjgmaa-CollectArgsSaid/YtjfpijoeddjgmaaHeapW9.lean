/- The heap: Free, of a large cell and of every address. Conditions: the heap reads as the plain model says. -/
import Derived.Test.YtjfpijoeddjgmaaHeapW8
namespace Go.Proofs.Ytjfpijoeddjgmaa
open Go.RowKit Hm
set_option linter.unusedSimpArgs false
set_option maxRecDepth 100000 in
set_option maxHeartbeats 1000000 in
theorem freeLarge {p : HP} {s : HS} (b : Nat) (w : World) (hA : HeapAt w p s) (hu : s.used (1 + 32 * b) = true) (hk : s.kind b = -1) :
    Calls Try.prog 25 #[.pointer (some ⟨p.h, 0, none⟩), .int .i64 ((1 + 32 * b : Nat) : Int)] w fun e w' =>
      e = .returned (.int .i64 0) ∧ HeapAt w' p (s.free (1 + 32 * b)).2 ∧ Fr p.mine w w' := by
  obtain ⟨L, clk, cl, hR, hwf, hF, hC, hn1, hn2⟩ := hA
  obtain ⟨a, ha⟩ : ∃ a, a = 1 + 32 * b := ⟨_, rfl⟩
  have hkh := hwf.head b hk
  have hbn : b + 1 < s.n := hwf.lt (by rw [hkh]; decide)
  have hcap : s.cap a = 64 := by
    unfold HS.cap; rw [ha, if_pos hu, show (1 + 32 * b - 1) / 32 = b by omega, hk, if_pos rfl]
  have HCAP : Hid (∀ w, Raw w p s.n s.word s.kind (fun b => (s.cnt b : Int)) s.used L clk cl → Calls Try.prog 22 #[.pointer (some ⟨p.h, 0, none⟩), .int .i64 (a : Int)] w fun e w' => e = .returned (.int .i64 64) ∧ w = w') := by
    intro w hR
    have := cap_any (a : Int) w hR hwf hn2
    simp only [Int.toNat_natCast, hcap] at this
    exact this
  obtain ⟨w1, hw1⟩ : ∃ w1, w1 = w.setCells p.wb a (List.replicate 64 (.int .u64 0)) := ⟨_, rfl⟩
  have hclr : ∀ ty cp, (Builtin.clear_ #[122] ty #[.slice (some ⟨p.wb, a, none⟩) 64 cp]).run Try.prog w = .ok (.tuple #[]) w1 := fun ty cp => by
    rw [hw1]
    exact Lib.run_clear_slice w 122 33 ty (.int .u64 0) Try.underlying122 zero_u64 rfl rfl p.wb a 64 cp (by omega) (fun i hi => by rw [hR.wd.cell (by omega)]; rfl) (fun i _ => hR.wd.frozen _)
  have hR1 := hR.clearWords 64 a
  have hF1 := Fr.clearWords (p := p) 64 a w
  rw [← hw1] at hR1 hF1
  have h0 : w.cell? ⟨p.h, 0, none⟩ = some (.slice (some ⟨p.wb, 0, none⟩) (1 + 32 * s.n) (1 + 32 * s.n)) := hR.st.cell (by omega)
  have h1 : w1.cell? ⟨p.h, 1, none⟩ = some (.slice (some ⟨p.kb, 0, none⟩) s.n s.n) := hR1.st.cell (by omega)
  have h2 : w1.cell? ⟨p.h, 2, none⟩ = some (.slice (some ⟨p.cb, 0, none⟩) s.n s.n) := hR1.st.cell (by omega)
  have h3 : w1.cell? ⟨p.h, 3, none⟩ = some (.slice (some ⟨p.ub, 0, none⟩) (1 + 32 * s.n) (1 + 32 * s.n)) := hR1.st.cell (by omega)
  have h5 : w1.cell? ⟨p.h, 5, none⟩ = some (.int .i64 cl) := hR1.st.cell (by omega)
  have hk1 := hR1.kd.cell (i := b) (by omega)
  rw [hk] at hk1
  have hk2 := hR1.kd.cell (i := b + 1) (by omega)
  have hc1 := hR1.cn.cell (i := b) (by omega)
  rw [HS.cnt_head hk] at hc1
  have hu1 := hR1.us.cell (i := a) (by omega)
  have hfk := hR1.kd.frozen
  have hfc := hR1.cn.frozen
  have hfu := hR1.us.frozen
  have hfh := hR1.st.frozen 5
  have n1 := hR.ok.k1
  have n2 := hR.ok.k2
  have n3 := hR.ok.c1
  have n4 := hR.ok.h2
  have n5 := hR.ok.h3
  have n6 := hR.ok.h4
  have ha1 : 1 ≤ a := by omega
  have ha2 : a + 64 ≤ 1 + 32 * s.n := by omega
  have hdiv : Hid (((a : Int) - 1) / 32 = (b : Int)) := by show ((a : Int) - 1) / 32 = (b : Int); omega
  obtain ⟨M, hM⟩ : ∃ M, M = min cl (b : Int) := ⟨_, rfl⟩
  have FIN : Hid (HeapAt (((((w1.setCell ⟨p.ub, a, none⟩ (.bool false)).setCell ⟨p.cb, b, none⟩ (.int .i64 0)).setCell ⟨p.kb, b, none⟩ (.int .i64 0)).setCell ⟨p.kb, b + 1, none⟩ (.int .i64 0)).setCell ⟨p.h, 5, none⟩ (.int .i64 M)) p (s.free a).2 ∧
      Fr p.mine w (((((w1.setCell ⟨p.ub, a, none⟩ (.bool false)).setCell ⟨p.cb, b, none⟩ (.int .i64 0)).setCell ⟨p.kb, b, none⟩ (.int .i64 0)).setCell ⟨p.kb, b + 1, none⟩ (.int .i64 0)).setCell ⟨p.h, 5, none⟩ (.int .i64 M))) := by
    have hR3 := ((((hR1.setUsed a false).setCnt b 0).setKind b 0).setKind (b + 1) 0).setClear M
    have hF3 := ((((hF1.setCell (x := ⟨p.ub, a, none⟩) (by simp [HP.mine]) (.bool false)).setCell (x := ⟨p.cb, b, none⟩) (by simp [HP.mine]) (.int .i64 0)).setCell (x := ⟨p.kb, b, none⟩) (by simp [HP.mine]) (.int .i64 0)).setCell (x := ⟨p.kb, b + 1, none⟩) (by simp [HP.mine]) (.int .i64 0)).setCell (x := ⟨p.h, 5, none⟩) (by simp [HP.mine]) (.int .i64 M)
    refine ⟨?_, hF3⟩
    have hcx := HS.HintC.freeLarge hC hu hk
    have hfx := hF.freeLarge hwf hu hk
    have hwx := hwf.free (1 + 32 * b)
    have hcnx := HS.cnt_freeLarge hwf hu hk
    have hcap' : s.cap (1 + 32 * b) = 64 := by rw [← ha]; exact hcap
    rw [HS.free_large hu hk] at hcx hfx hwx hcnx
    rw [← hM] at hcx
    rw [ha, HS.free_large hu hk]
    rw [ha] at hR3
    rw [hcap'] at hcx hfx hwx hcnx ⊢
    refine ⟨L, clk, M, ?_, hwx, hfx, hcx, hn1, hn2⟩
    have e : (fun b' => ((HS.cnt { n := s.n, kind := upd (upd s.kind b 0) (b + 1) 0, used := upd s.used (1 + 32 * b) false, word := fun i => if 1 + 32 * b ≤ i ∧ i < 1 + 32 * b + 64 then 0 else s.word i } b' : Nat) : Int)) = upd (fun b => (s.cnt b : Int)) b 0 := by
      funext b'; rw [hcnx]; unfold upd
      by_cases e : b' = b
      · simp only [e, if_true]; rfl
      · simp only [e, if_false]
    show Raw _ p s.n _ (upd (upd s.kind b 0) (b + 1) 0) (fun b' => ((HS.cnt { n := s.n, kind := upd (upd s.kind b 0) (b + 1) 0, used := upd s.used (1 + 32 * b) false, word := fun i => if 1 + 32 * b ≤ i ∧ i < 1 + 32 * b + 64 then 0 else s.word i } b' : Nat) : Int)) _ _ _ _
    rw [e]; exact hR3
  have HR := Lib.hid hR
  have HM := Lib.hid hM
  clear hR hR1 hF1 hw1 hk hcap hkh hM hF hC hwf
  rw [← ha] at hu ⊢
  clear ha
  go_enter Try.func25, Try.ntmps25
  go_wp2_with (first | (go_at_call 22; refine (HCAP.out _ HR.out).mono ?_; rintro e w' ⟨rfl, rfl⟩) | (go_at_call 65; refine (of_any _ _ (by omega) (by omega)).mono ?_; rw [hdiv.out]; rintro e w' ⟨rfl, rfl⟩))
  go_loopw [71] (fun v wr => (v = .int .i64 0 ∧ wr = (w1.setCell ⟨p.ub, a, none⟩ (.bool false)).setCell ⟨p.cb, b, none⟩ (.int .i64 0)) ∨ (v = .int .i64 1 ∧ wr = ((w1.setCell ⟨p.ub, a, none⟩ (.bool false)).setCell ⟨p.cb, b, none⟩ (.int .i64 0)).setCell ⟨p.kb, b, none⟩ (.int .i64 0)) ∨
    (v = .int .i64 2 ∧ wr = (((w1.setCell ⟨p.ub, a, none⟩ (.bool false)).setCell ⟨p.cb, b, none⟩ (.int .i64 0)).setCell ⟨p.kb, b, none⟩ (.int .i64 0)).setCell ⟨p.kb, b + 1, none⟩ (.int .i64 0))) (fun v _ => 2 - (intOf v).toNat)
  case atStart => exact .inl ⟨rfl, by first | rfl | trivial⟩
  case round =>
    rcases hrel with ⟨rfl, rfl⟩ | ⟨rfl, rfl⟩ | ⟨rfl, rfl⟩
    · go_wp2_with fail
      go_roundw
      case rel => exact .inr (.inl ⟨rfl, by first | rfl | trivial⟩)
      case measure => simp [intOf]
    · go_wp2_with fail
      go_roundw
      case rel => exact .inr (.inr ⟨rfl, by first | rfl | trivial⟩)
      case measure => simp [intOf]
    · go_wp2_with fail
      all_goals
        go_ret
        refine ⟨rfl, ?_⟩
        have e := FIN.out
        rw [HM.out] at e
        first | (rw [show min cl (b : Int) = (b : Int) by omega] at e; exact e) | (rw [show min cl (b : Int) = cl by omega] at e; exact e)

set_option maxHeartbeats 400000 in
theorem freeNone {p : HP} {s : HS} (a : Int) (w : World) (hA : HeapAt w p s) (hu : s.used a.toNat = false) :
    Calls Try.prog 25 #[.pointer (some ⟨p.h, 0, none⟩), .int .i64 a] w fun e w' => e = .returned (.int .i64 1) ∧ w = w' := by
  obtain ⟨L, clk, cl, hR, hwf, hF, hC, hn1, hn2⟩ := hA
  have HCAP : Hid (∀ w, Raw w p s.n s.word s.kind (fun b => (s.cnt b : Int)) s.used L clk cl → Calls Try.prog 22 #[.pointer (some ⟨p.h, 0, none⟩), .int .i64 a] w fun e w' => e = .returned (.int .i64 0) ∧ w = w') := by
    intro w hR
    have := cap_any a w hR hwf hn2
    rw [HS.cap_none hu] at this
    exact this
  have HR := Lib.hid hR
  clear hR hwf hF hC hu
  go_enter Try.func25, Try.ntmps25
  go_wp2_with (first | (go_at_call 22; refine (HCAP.out _ HR.out).mono ?_; rintro e w' ⟨rfl, rfl⟩))
  go_ret
  exact ⟨rfl, rfl⟩

theorem free_any {p : HP} {s : HS} (a : Int) (w : World) (hA : HeapAt w p s) :
    Calls Try.prog 25 #[.pointer (some ⟨p.h, 0, none⟩), .int .i64 a] w fun e w' =>
      e = .returned (.int .i64 (s.free a.toNat).1) ∧ HeapAt w' p (s.free a.toNat).2 ∧ Fr p.mine w w' := by
  have hwf : s.WF := by obtain ⟨L, clk, cl, hR, hwf, _⟩ := hA; exact hwf
  cases hu : s.used a.toNat with
  | false =>
    have e : s.free a.toNat = (1, s) := by unfold HS.free; rw [if_neg (by simp [hu])]
    refine (freeNone a w hA hu).mono ?_
    rintro e w' ⟨rfl, rfl⟩
    rw [‹s.free a.toNat = (1, s)›]
    exact ⟨rfl, hA, Fr.refl _ _⟩
  | true =>
    have hr := WF_used_range hwf hu
    obtain ⟨x, rfl⟩ := Int.eq_ofNat_of_zero_le (show 0 ≤ a by omega)
    simp only [Int.toNat_natCast] at hu ⊢
    rcases hwf.used_cases hu with ⟨b, hb, hk, hk1, rfl, e⟩ | ⟨b, c, j, hb, hc, hk, hj, rfl, e⟩
    · have e1 : (s.free (1 + 32 * b)).1 = 0 := by rw [HS.free_large hu hk]
      rw [e1]; exact freeLarge b w hA hu hk
    · have e1 : (s.free (1 + 32 * b + c * j)).1 = 0 := by rw [HS.free_small hu hj hc hk]
      rw [e1]; exact freeSmall b c j w hA hu hj hc hk
theorem freeNil (a : Int) (w : World) : Calls Try.prog 25 #[.pointer none, .int .i64 a] w fun e w' => e = .returned (.int .i64 1) ∧ w = w' := by
  go_enter Try.func25, Try.ntmps25
  go_wp2_with (first | (go_at_call 22; refine (capNil _ _).mono ?_; rintro e w' ⟨rfl, rfl⟩))
  go_ret
  exact ⟨rfl, rfl⟩
theorem readNil (a i : Int) (w : World) : Calls Try.prog 23 #[.pointer none, .int .i64 a, .int .i64 i] w fun e w' => e = .returned (.tuple #[.int .u64 0, .int .i64 1]) ∧ w = w' := by
  by_cases hi : i < 0
  · go_enter Try.func23, Try.ntmps23
    go_wp2
    go_ret2
    exact ⟨rfl, rfl⟩
  · go_enter Try.func23, Try.ntmps23
    go_wp2_with (first | (go_at_call 22; refine (capNil _ _).mono ?_; rintro e w' ⟨rfl, rfl⟩))
    go_ret2
    exact ⟨rfl, rfl⟩
theorem writeNil (a i v : Int) (w : World) : Calls Try.prog 24 #[.pointer none, .int .i64 a, .int .i64 i, .int .u64 v] w fun e w' => e = .returned (.int .i64 1) ∧ w = w' := by
  by_cases hi : i < 0
  · go_enter Try.func24, Try.ntmps24
    go_wp2
    go_ret
    exact ⟨rfl, rfl⟩
  · go_enter Try.func24, Try.ntmps24
    go_wp2_with (first | (go_at_call 22; refine (capNil _ _).mono ?_; rintro e w' ⟨rfl, rfl⟩))
    go_ret
    exact ⟨rfl, rfl⟩
theorem roomNil (n : Int) (w : World) : Calls Try.prog 31 #[.pointer none, .int .i64 n] w fun e w' => e = .returned (.bool false) ∧ Below w.heap.size w w' := by
  go_enter Try.func31, Try.ntmps31
  go_wp2
  go_ret
  exact ⟨rfl, by first | exact Below.refl _ _ | exact ((Below.refl _ _).alloc (Nat.le_refl _) _) | exact (((Below.refl _ _).alloc (Nat.le_refl _) _).alloc (by simp) _)⟩
theorem cellsNil (w : World) : Calls Try.prog 26 #[.pointer none] w fun e w' => e = .returned (.slice none 0 0) ∧ w = w' := by
  go_enter Try.func26, Try.ntmps26
  go_wp2
  go_ret
  exact ⟨rfl, rfl⟩
end Go.Proofs.Ytjfpijoeddjgmaa
