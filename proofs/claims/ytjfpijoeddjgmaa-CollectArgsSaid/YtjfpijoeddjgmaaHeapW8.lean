/- The heap: Free of a small cell. Conditions: the heap reads as the plain model says. -/
import Derived.Test.YtjfpijoeddjgmaaHeapW7
import Derived.Lib.SliceRun
namespace Go.Proofs.Ytjfpijoeddjgmaa
open Go.RowKit Hm
set_option linter.unusedSimpArgs false
theorem Raw.clearWords {p : HP} {n : Nat} {kd cn : Nat → Int} {us : Nat → Bool} {L : List (Ent Int)} {clk : Nat} {cl : Int} : ∀ (m a : Nat) (w : World) (wd : Nat → Int),
    Raw w p n wd kd cn us L clk cl → Raw (w.setCells p.wb a (List.replicate m (.int .u64 0))) p n (fun i => if a ≤ i ∧ i < a + m then 0 else wd i) kd cn us L clk cl
  | 0, a, w, wd, h => by
    have : (fun i => if a ≤ i ∧ i < a + 0 then (0 : Int) else wd i) = wd := by funext i; rw [if_neg (by omega)]
    rw [this]; exact h
  | m + 1, a, w, wd, h => by
    rw [List.replicate_succ, World.setCells]
    have := Raw.clearWords m (a + 1) _ _ (h.setWord a 0)
    have e : (fun i => if a ≤ i ∧ i < a + (m + 1) then (0 : Int) else wd i) = fun i => if a + 1 ≤ i ∧ i < a + 1 + m then 0 else upd wd a 0 i := by
      funext i
      unfold upd
      by_cases h1 : i = a
      · subst h1; rw [if_pos (by omega), if_neg (by omega), if_pos rfl]
      · rw [if_neg h1]
        by_cases h2 : a ≤ i ∧ i < a + (m + 1)
        · rw [if_pos h2, if_pos (by omega)]
        · rw [if_neg h2, if_neg (by omega)]
    rw [e]; exact this
theorem Fr.clearWords {p : HP} : ∀ (m a : Nat) (w : World), Fr p.mine w (w.setCells p.wb a (List.replicate m (.int .u64 0)))
  | 0, a, w => Fr.refl _ _
  | m + 1, a, w => by
    rw [List.replicate_succ, World.setCells]
    exact ((Fr.refl _ w).setCell (by simp [HP.mine]) _).trans (Fr.clearWords m (a + 1) _)
theorem zero_u64 (w : World) : (zeroValue 33).run Try.prog w = .ok (.int .u64 0) w := by kernel_rfl

set_option maxRecDepth 100000 in
set_option maxHeartbeats 1000000 in
theorem freeSmall {p : HP} {s : HS} (b c j : Nat) (w : World) (hA : HeapAt w p s) (hu : s.used (1 + 32 * b + c * j) = true) (hj : c * j < 32) (hc : isCls c) (hk : s.kind b = (c : Int)) :
    Calls Try.prog 25 #[.pointer (some ⟨p.h, 0, none⟩), .int .i64 ((1 + 32 * b + c * j : Nat) : Int)] w fun e w' =>
      e = .returned (.int .i64 0) ∧ HeapAt w' p (s.free (1 + 32 * b + c * j)).2 ∧ Fr p.mine w w' := by
  obtain ⟨L, clk, cl, hR, hwf, hF, hC, hn1, hn2⟩ := hA
  obtain ⟨a, ha⟩ : ∃ a, a = 1 + 32 * b + c * j := ⟨_, rfl⟩
  have hcp := hc.pos
  have hcl := hc.le
  have hend := hc.end_le hj
  have hbn : b < s.n := hwf.lt (by rw [hk]; omega)
  have hcap : s.cap a = c := by
    unfold HS.cap; rw [ha, if_pos hu, show (1 + 32 * b + c * j - 1) / 32 = b by omega, hk, if_neg (by omega)]; rfl
  have HCAP : Hid (∀ w, Raw w p s.n s.word s.kind (fun b => (s.cnt b : Int)) s.used L clk cl → Calls Try.prog 22 #[.pointer (some ⟨p.h, 0, none⟩), .int .i64 (a : Int)] w fun e w' => e = .returned (.int .i64 (c : Int)) ∧ w = w') := by
    intro w hR
    have := cap_any (a : Int) w hR hwf hn2
    simp only [Int.toNat_natCast, hcap] at this
    exact this
  obtain ⟨w1, hw1⟩ : ∃ w1, w1 = w.setCells p.wb a (List.replicate c (.int .u64 0)) := ⟨_, rfl⟩
  have hclr : ∀ ty cp, (Builtin.clear_ #[122] ty #[.slice (some ⟨p.wb, a, none⟩) c cp]).run Try.prog w = .ok (.tuple #[]) w1 := fun ty cp => by
    rw [hw1]
    exact Lib.run_clear_slice w 122 33 ty (.int .u64 0) Try.underlying122 zero_u64 rfl rfl p.wb a c cp (by omega) (fun i hi => by rw [hR.wd.cell (by omega)]; rfl) (fun i _ => hR.wd.frozen _)
  have hR1 := hR.clearWords c a
  have hF1 := Fr.clearWords (p := p) c a w
  rw [← hw1] at hR1 hF1
  have h0 : w.cell? ⟨p.h, 0, none⟩ = some (.slice (some ⟨p.wb, 0, none⟩) (1 + 32 * s.n) (1 + 32 * s.n)) := hR.st.cell (by omega)
  have h1 : w1.cell? ⟨p.h, 1, none⟩ = some (.slice (some ⟨p.kb, 0, none⟩) s.n s.n) := hR1.st.cell (by omega)
  have h2 : w1.cell? ⟨p.h, 2, none⟩ = some (.slice (some ⟨p.cb, 0, none⟩) s.n s.n) := hR1.st.cell (by omega)
  have h3 : w1.cell? ⟨p.h, 3, none⟩ = some (.slice (some ⟨p.ub, 0, none⟩) (1 + 32 * s.n) (1 + 32 * s.n)) := hR1.st.cell (by omega)
  have h4 : w1.cell? ⟨p.h, 4, none⟩ = some (.map (some p.mb)) := hR1.st.cell (by omega)
  have hk1 := hR1.kd.cell hbn
  rw [hk] at hk1
  have hc1 := hR1.cn.cell hbn
  have hu1 := hR1.us.cell (i := a) (by omega)
  have hfk := hR1.kd.frozen
  have hfc := hR1.cn.frozen
  have hfu := hR1.us.frozen
  have n1 := hR.ok.k1
  have n2 := hR.ok.k2
  have n3 := hR.ok.c1
  have n4 := hR.ok.h2
  have n5 := hR.ok.h3
  have n6 := hR.ok.h4
  have hcn := hwf.cnt_pos hc hk
  have hcn2 := hwf.cnt_le b
  have ha1 : 1 ≤ a := by omega
  have ha2 : a + c ≤ 1 + 32 * s.n := by omega
  have hdiv : Hid (((a : Int) - 1) / 32 = (b : Int)) := by show ((a : Int) - 1) / 32 = (b : Int); omega
  have FINP : Hid (∀ {W : World}, 1 < s.cnt b → Raw W p s.n (fun i => if a ≤ i ∧ i < a + c then 0 else s.word i) s.kind (upd (fun b => (s.cnt b : Int)) b ((s.cnt b : Int) - 1)) (upd s.used a false) (put clk (c : Int) (min ((lk L (c : Int)).getD 0) (b : Int)) L) (clkOf L clk (c : Int)) cl → Fr p.mine w W →
      (HeapAt W p (s.free a).2 ∧ Fr p.mine w W)) := by
    intro W hpos hR3 hF3
    have hcx := HS.HintC.freeSmall hC hu hj hc hk
    rw [if_neg (by omega)] at hcx
    have hfx := hF.freeSmall hwf hu hj hc hk
    have hwx := hwf.free (1 + 32 * b + c * j)
    have hcnx := HS.cnt_freeSmall hwf hu hj hc hk
    have hd := HS.cnt_drop hc hj hu
    have hcb : s.cnt b = cntF (c : Int) s.used b := by unfold HS.cnt; rw [hk]
    rw [HS.free_small hu hj hc hk, if_neg (by omega)] at hcx hfx hwx hcnx
    rw [ha, HS.free_small hu hj hc hk, if_neg (by omega)]
    rw [ha] at hR3
    have hcap' : s.cap (1 + 32 * b + c * j) = c := by rw [← ha]; exact hcap
    rw [hcap'] at hcx hfx hwx hcnx ⊢
    refine ⟨⟨put clk (c : Int) (min ((lk L (c : Int)).getD 0) (b : Int)) L, clkOf L clk (c : Int), cl, ?_, hwx, ?_, hcx, hn1, hn2⟩, hF3⟩
    · have e : (fun b' => ((HS.cnt { n := s.n, kind := s.kind, used := upd s.used (1 + 32 * b + c * j) false, word := fun i => if 1 + 32 * b + c * j ≤ i ∧ i < 1 + 32 * b + c * j + c then 0 else s.word i } b' : Nat) : Int)) = upd (fun b => (s.cnt b : Int)) b ((s.cnt b : Int) - 1) := by
        funext b'; rw [hcnx]; unfold upd; by_cases e : b' = b
        · simp only [e, if_true]; omega
        · simp only [e, if_false]
      show Raw W p s.n _ s.kind (fun b' => ((HS.cnt { n := s.n, kind := s.kind, used := upd s.used (1 + 32 * b + c * j) false, word := fun i => if 1 + 32 * b + c * j ≤ i ∧ i < 1 + 32 * b + c * j + c then 0 else s.word i } b' : Nat) : Int)) _ _ _ cl
      rw [e]; exact hR3
    · refine cast (congrArg _ ?_) hfx
      funext k
      rw [lk_put]
      split <;> simp_all
  have FINZ : Hid (∀ {W : World}, s.cnt b = 1 → Raw W p s.n (fun i => if a ≤ i ∧ i < a + c then 0 else s.word i) s.kind (upd (fun b => (s.cnt b : Int)) b ((s.cnt b : Int) - 1)) (upd s.used a false) (put clk (c : Int) (min ((lk L (c : Int)).getD 0) (b : Int)) L) (clkOf L clk (c : Int)) cl → Fr p.mine w W →
      (HeapAt ((W.setCell ⟨p.kb, b, none⟩ (.int .i64 0)).setCell ⟨p.h, 5, none⟩ (.int .i64 (min cl (b : Int)))) p (s.free a).2 ∧ Fr p.mine w ((W.setCell ⟨p.kb, b, none⟩ (.int .i64 0)).setCell ⟨p.h, 5, none⟩ (.int .i64 (min cl (b : Int)))))) := by
    intro W hone hR3 hF3
    have hR3 := (hR3.setKind b 0).setClear (min cl (b : Int))
    have hcx := HS.HintC.freeSmall hC hu hj hc hk
    rw [if_pos hone] at hcx
    have hfx := hF.freeSmall hwf hu hj hc hk
    have hwx := hwf.free (1 + 32 * b + c * j)
    have hcnx := HS.cnt_freeSmall hwf hu hj hc hk
    have hd := HS.cnt_drop hc hj hu
    have hcb : s.cnt b = cntF (c : Int) s.used b := by unfold HS.cnt; rw [hk]
    rw [HS.free_small hu hj hc hk, if_pos (by omega)] at hcx hfx hwx hcnx
    rw [ha, HS.free_small hu hj hc hk, if_pos (by omega)]
    rw [ha] at hR3
    have hcap' : s.cap (1 + 32 * b + c * j) = c := by rw [← ha]; exact hcap
    rw [hcap'] at hcx hfx hwx hcnx ⊢
    refine ⟨⟨put clk (c : Int) (min ((lk L (c : Int)).getD 0) (b : Int)) L, clkOf L clk (c : Int), min cl (b : Int), ?_, hwx, ?_, hcx, hn1, hn2⟩, (hF3.setCell (by simp [HP.mine]) _).setCell (by simp [HP.mine]) _⟩
    · have e : (fun b' => ((HS.cnt { n := s.n, kind := upd s.kind b 0, used := upd s.used (1 + 32 * b + c * j) false, word := fun i => if 1 + 32 * b + c * j ≤ i ∧ i < 1 + 32 * b + c * j + c then 0 else s.word i } b' : Nat) : Int)) = upd (fun b => (s.cnt b : Int)) b ((s.cnt b : Int) - 1) := by
        funext b'; rw [hcnx]; unfold upd; by_cases e : b' = b
        · simp only [e, if_true]; omega
        · simp only [e, if_false]
      show Raw _ p s.n _ (upd s.kind b 0) (fun b' => ((HS.cnt { n := s.n, kind := upd s.kind b 0, used := upd s.used (1 + 32 * b + c * j) false, word := fun i => if 1 + 32 * b + c * j ≤ i ∧ i < 1 + 32 * b + c * j + c then 0 else s.word i } b' : Nat) : Int)) _ _ _ _
      rw [e]; exact hR3
    · refine cast (congrArg _ ?_) hfx
      funext k
      rw [lk_put]
      split <;> simp_all
  have HR := Lib.hid hR
  have HR1 := Lib.hid hR1
  have HF1 := Lib.hid hF1
  have HA := Lib.hid ha
  have HK := Lib.hid hk
  clear hR hR1 hF1 hw1 hk hcap
  rw [← ha] at hu ⊢
  clear ha
  go_enter Try.func25, Try.ntmps25
  go_wp2_with (first | (go_at_call 22; refine (HCAP.out _ HR.out).mono ?_; rintro e w' ⟨rfl, rfl⟩) | (go_at_call 65; refine (of_any _ _ (by omega) (by omega)).mono ?_; rw [hdiv.out]; rintro e w' ⟨rfl, rfl⟩))
  have hR2 := (HR1.out.setUsed a false).setCnt b ((s.cnt b : Int) - 1)
  have hF2 := (HF1.out.setCell (x := ⟨p.ub, a, none⟩) (by simp [HP.mine]) (.bool false)).setCell (x := ⟨p.cb, b, none⟩) (by simp [HP.mine]) (.int .i64 ((s.cnt b : Int) - 1))
  generalize (w1.setCell ⟨p.ub, a, none⟩ (.bool false)).setCell ⟨p.cb, b, none⟩ (.int .i64 ((s.cnt b : Int) - 1)) = w2 at hR2 hF2 ⊢
  clear hclr h0 h1 h2 h3 h4 hk1 hc1 hu1 hfk hfc hfu
  obtain ⟨O, hO⟩ : ∃ O : Int → Obj, ∀ v, O v = .map ((put clk (c : Int) v L).map (entOf (Value.int .i64))).toArray (clkOf L clk (c : Int)) := ⟨_, fun _ => rfl⟩
  have hup : ∀ v, (Instr.mapUpdate 123 (.map (some p.mb)) (.int .i64 c) (.int .i64 v)).run Try.prog w2.drew = .ok () (World.putMap w2.drew p.mb (O v)) := fun v => by
    rw [hO]; exact run_update_at Try.underlying123 Try.underlying3 hR2.drew.mp (c : Int) v
  have hlk := run_lookup_at (P := Try.prog) (T := 123) (z := .int .i64 0) Try.underlying123 Try.underlying3 (zero_int w2.drew) hR2.drew.mp (c : Int)
  obtain ⟨F, hFe⟩ : ∃ F, F = (lk L (c : Int)).getD 0 := ⟨_, rfl⟩
  rw [show (Option.map (Value.int .i64) (lk L c)).getD (.int .i64 0) = .int .i64 F by rw [hFe]; cases lk L (c : Int) <;> rfl] at hlk
  have h4 : w2.cell? ⟨p.h, 4, none⟩ = some (.map (some p.mb)) := hR2.st.cell (by omega)
  have HR2 := Lib.hid hR2
  have HF2 := Lib.hid hF2
  have HFE := Lib.hid hFe
  have HO := Lib.hid hO
  clear hR2 hF2 hFe hO
  go_still_tail 13, (by kernel_rfl)
  change wpList _ _ _ _ _ w2.drew
  go_upto_region 10 with fail
  have hR3 : Raw (World.putMap w2.drew p.mb (O (if (b : Int) < F then (b : Int) else F))) p s.n (fun i => if a ≤ i ∧ i < a + c then 0 else s.word i) s.kind (upd (fun b => (s.cnt b : Int)) b ((s.cnt b : Int) - 1)) (upd s.used a false) (put clk (c : Int) (min ((lk L (c : Int)).getD 0) (b : Int)) L) (clkOf L clk (c : Int)) cl := by
    rw [HO.out, show min ((lk L (c : Int)).getD 0) (b : Int) = (if (b : Int) < F then (b : Int) else F) by rw [← HFE.out]; split <;> omega]
    exact HR2.out.drew.putMap (c : Int) _
  have hF3 : Fr p.mine w (World.putMap w2.drew p.mb (O (if (b : Int) < F then (b : Int) else F))) := (HF2.out.drew).putMap (by simp [HP.mine]) _
  generalize World.putMap w2.drew p.mb (O (if (b : Int) < F then (b : Int) else F)) = w3 at hR3 hF3 ⊢
  clear hup hlk h4
  have h1 : w3.cell? ⟨p.h, 1, none⟩ = some (.slice (some ⟨p.kb, 0, none⟩) s.n s.n) := hR3.st.cell (by omega)
  have h2 : w3.cell? ⟨p.h, 2, none⟩ = some (.slice (some ⟨p.cb, 0, none⟩) s.n s.n) := hR3.st.cell (by omega)
  have h5 : w3.cell? ⟨p.h, 5, none⟩ = some (.int .i64 cl) := hR3.st.cell (by omega)
  have hc3 : w3.cell? ⟨p.cb, b, none⟩ = some (.int .i64 ((s.cnt b : Int) - 1)) := by rw [hR3.cn.cell hbn, upd_same]
  have hk3 : w3.cell? ⟨p.kb, b, none⟩ = some (.int .i64 c) := by rw [hR3.kd.cell hbn, HK.out]
  have hfk3 := hR3.kd.frozen b
  have hf5 := hR3.st.frozen 5
  have HR3 := Lib.hid hR3
  have HF3 := Lib.hid hF3
  clear hR3 hF3
  by_cases hpos : 1 < s.cnt b
  · have hp : (0 : Int) < (s.cnt b : Int) - 1 := by omega
    go_wp2_with fail
    all_goals (go_ret; exact ⟨rfl, FINP.out hpos HR3.out HF3.out⟩)
  · have hone : Hid (s.cnt b = 1) := by show s.cnt b = 1; omega
    rw [show ((s.cnt b : Int) - 1) = 0 by omega] at hc3
    by_cases hfull : c = 32
    all_goals
      go_wp2_with fail
      all_goals
        go_loopw [71] (fun v wr => (v = .int .i64 0 ∧ wr = w3) ∨ (v = .int .i64 1 ∧ wr = w3.setCell ⟨p.kb, b, none⟩ (.int .i64 0))) (fun v _ => 1 - (intOf v).toNat)
        case atStart => exact .inl ⟨rfl, rfl⟩
        case round =>
          rcases hrel with ⟨rfl, rfl⟩ | ⟨rfl, rfl⟩
          · go_wp2_with fail
            go_roundw
            case rel => first | exact .inr ⟨rfl, rfl⟩ | exact .inr ⟨rfl, trivial⟩ | simp
            case measure => simp [intOf]
          · go_wp2_with fail
            all_goals
              go_ret
              refine ⟨rfl, ?_⟩
              have e := FINZ.out hone.out HR3.out HF3.out
              first | (rw [show min cl (b : Int) = (b : Int) by omega] at e; exact e) | (rw [show min cl (b : Int) = cl by omega] at e; exact e)
end Go.Proofs.Ytjfpijoeddjgmaa
