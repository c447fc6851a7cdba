/- HeapW8, HeapW9, HeapW10 in one text. Conditions: as each says. -/
import Derived.Test.YtjfpijoeddjgmaaHeapWb
import Derived.Lib.SliceRun
import Derived.Test.YtjfpijoeddjgmaaRegs
import Derived.Deep.OwnRows
import Derived.Deep.DeepCutAuto
/- The heap: Free of a small cell. Conditions: the heap reads as the plain model says. -/
namespace Go.Proofs.Ytjfpijoeddjgmaa
open Go.RowKit Hm
set_option linter.unusedSimpArgs false
theorem Raw.clearWords {p : HP} {n : Nat} {kd cn : Nat → Int} {us : Nat → Bool} {L : List (Ent Int)} {clk : Nat} {cl : Int} : ∀ (m a : Nat) (w : World) (wd : Nat → Int),
    Raw w p n wd kd cn us L clk cl → Raw (w.setCells p.wb a (List.replicate m (.int .u64 0))) p n (fun i => if a ≤ i ∧ i < a + m then 0 else wd i) kd cn us L clk cl
  | 0, a, w, wd, h => by
    have : (fun i => if a ≤ i ∧ i < a + 0 then (0 : Int) else wd i) = wd := by funext i; rw [if_neg (by omega)]
    rw [this]; exact h
  | m + 1, a, w, wd, h => by
    rw [List.replicate_succ, World.setCells]
    have := Raw.clearWords m (a + 1) _ _ (h.setWord a 0)
    have e : (fun i => if a ≤ i ∧ i < a + (m + 1) then (0 : Int) else wd i) = fun i => if a + 1 ≤ i ∧ i < a + 1 + m then 0 else upd wd a 0 i := by
      funext i
      unfold upd
      by_cases h1 : i = a
      · subst h1; rw [if_pos (by omega), if_neg (by omega), if_pos rfl]
      · rw [if_neg h1]
        by_cases h2 : a ≤ i ∧ i < a + (m + 1)
        · rw [if_pos h2, if_pos (by omega)]
        · rw [if_neg h2, if_neg (by omega)]
    rw [e]; exact this
theorem Fr.clearWords {p : HP} : ∀ (m a : Nat) (w : World), Fr p.mine w (w.setCells p.wb a (List.replicate m (.int .u64 0)))
  | 0, a, w => Fr.refl _ _
  | m + 1, a, w => by
    rw [List.replicate_succ, World.setCells]
    exact ((Fr.refl _ w).setCell (by simp [HP.mine]) _).trans (Fr.clearWords m (a + 1) _)
theorem zero_u64 (w : World) : (zeroValue 33).run Try.prog w = .ok (.int .u64 0) w := by kernel_rfl

set_option maxRecDepth 100000 in
set_option maxHeartbeats 1000000 in
theorem freeSmall {p : HP} {s : HS} (b c j : Nat) (w : World) (hA : HeapAt w p s) (hu : s.used (1 + 32 * b + c * j) = true) (hj : c * j < 32) (hc : isCls c) (hk : s.kind b = (c : Int)) :
    Calls Try.prog 25 #[.pointer (some ⟨p.h, 0, none⟩), .int .i64 ((1 + 32 * b + c * j : Nat) : Int)] w fun e w' =>
      e = .returned (.int .i64 0) ∧ HeapAt w' p (s.free (1 + 32 * b + c * j)).2 ∧ Fr p.mine w w' := by
  obtain ⟨L, clk, cl, hR, hwf, hF, hC, hn1, hn2⟩ := hA
  obtain ⟨a, ha⟩ : ∃ a, a = 1 + 32 * b + c * j := ⟨_, rfl⟩
  have hcp := hc.pos
  have hcl := hc.le
  have hend := hc.end_le hj
  have hbn : b < s.n := hwf.lt (by rw [hk]; omega)
  have hcap : s.cap a = c := by
    unfold HS.cap; rw [ha, if_pos hu, show (1 + 32 * b + c * j - 1) / 32 = b by omega, hk, if_neg (by omega)]; rfl
  have HCAP : Hid (∀ w, Raw w p s.n s.word s.kind (fun b => (s.cnt b : Int)) s.used L clk cl → Calls Try.prog 22 #[.pointer (some ⟨p.h, 0, none⟩), .int .i64 (a : Int)] w fun e w' => e = .returned (.int .i64 (c : Int)) ∧ w = w') := by
    intro w hR
    have := cap_any (a : Int) w hR hwf hn2
    simp only [Int.toNat_natCast, hcap] at this
    exact this
  obtain ⟨w1, hw1⟩ : ∃ w1, w1 = w.setCells p.wb a (List.replicate c (.int .u64 0)) := ⟨_, rfl⟩
  have hclr : ∀ ty cp, (Builtin.clear_ #[122] ty #[.slice (some ⟨p.wb, a, none⟩) c cp]).run Try.prog w = .ok (.tuple #[]) w1 := fun ty cp => by
    rw [hw1]
    exact Lib.run_clear_slice w 122 33 ty (.int .u64 0) Try.underlying122 zero_u64 rfl rfl p.wb a c cp (by omega) (fun i hi => by rw [hR.wd.cell (by omega)]; rfl) (fun i _ => hR.wd.frozen _)
  have hR1 := hR.clearWords c a
  have hF1 := Fr.clearWords (p := p) c a w
  rw [← hw1] at hR1 hF1
  have h0 : w.cell? ⟨p.h, 0, none⟩ = some (.slice (some ⟨p.wb, 0, none⟩) (1 + 32 * s.n) (1 + 32 * s.n)) := hR.st.cell (by omega)
  have h1 : w1.cell? ⟨p.h, 1, none⟩ = some (.slice (some ⟨p.kb, 0, none⟩) s.n s.n) := hR1.st.cell (by omega)
  have h2 : w1.cell? ⟨p.h, 2, none⟩ = some (.slice (some ⟨p.cb, 0, none⟩) s.n s.n) := hR1.st.cell (by omega)
  have h3 : w1.cell? ⟨p.h, 3, none⟩ = some (.slice (some ⟨p.ub, 0, none⟩) (1 + 32 * s.n) (1 + 32 * s.n)) := hR1.st.cell (by omega)
  have h4 : w1.cell? ⟨p.h, 4, none⟩ = some (.map (some p.mb)) := hR1.st.cell (by omega)
  have hk1 := hR1.kd.cell hbn
  rw [hk] at hk1
  have hc1 := hR1.cn.cell hbn
  have hu1 := hR1.us.cell (i := a) (by omega)
  have hfk := hR1.kd.frozen
  have hfc := hR1.cn.frozen
  have hfu := hR1.us.frozen
  have n1 := hR.ok.k1
  have n2 := hR.ok.k2
  have n3 := hR.ok.c1
  have n4 := hR.ok.h2
  have n5 := hR.ok.h3
  have n6 := hR.ok.h4
  have hcn := hwf.cnt_pos hc hk
  have hcn2 := hwf.cnt_le b
  have ha1 : 1 ≤ a := by omega
  have ha2 : a + c ≤ 1 + 32 * s.n := by omega
  have hdiv : Hid (((a : Int) - 1) / 32 = (b : Int)) := by show ((a : Int) - 1) / 32 = (b : Int); omega
  have FINP : Hid (∀ {W : World}, 1 < s.cnt b → Raw W p s.n (fun i => if a ≤ i ∧ i < a + c then 0 else s.word i) s.kind (upd (fun b => (s.cnt b : Int)) b ((s.cnt b : Int) - 1)) (upd s.used a false) (put clk (c : Int) (min ((lk L (c : Int)).getD 0) (b : Int)) L) (clkOf L clk (c : Int)) cl → Fr p.mine w W →
      (HeapAt W p (s.free a).2 ∧ Fr p.mine w W)) := by
    intro W hpos hR3 hF3
    have hcx := HS.HintC.freeSmall hC hu hj hc hk
    rw [if_neg (by omega)] at hcx
    have hfx := hF.freeSmall hwf hu hj hc hk
    have hwx := hwf.free (1 + 32 * b + c * j)
    have hcnx := HS.cnt_freeSmall hwf hu hj hc hk
    have hd := HS.cnt_drop hc hj hu
    have hcb : s.cnt b = cntF (c : Int) s.used b := by unfold HS.cnt; rw [hk]
    rw [HS.free_small hu hj hc hk, if_neg (by omega)] at hcx hfx hwx hcnx
    rw [ha, HS.free_small hu hj hc hk, if_neg (by omega)]
    rw [ha] at hR3
    have hcap' : s.cap (1 + 32 * b + c * j) = c := by rw [← ha]; exact hcap
    rw [hcap'] at hcx hfx hwx hcnx ⊢
    refine ⟨⟨put clk (c : Int) (min ((lk L (c : Int)).getD 0) (b : Int)) L, clkOf L clk (c : Int), cl, ?_, hwx, ?_, hcx, hn1, hn2⟩, hF3⟩
    · have e : (fun b' => ((HS.cnt { n := s.n, kind := s.kind, used := upd s.used (1 + 32 * b + c * j) false, word := fun i => if 1 + 32 * b + c * j ≤ i ∧ i < 1 + 32 * b + c * j + c then 0 else s.word i } b' : Nat) : Int)) = upd (fun b => (s.cnt b : Int)) b ((s.cnt b : Int) - 1) := by
        funext b'; rw [hcnx]; unfold upd; by_cases e : b' = b
        · simp only [e, if_true]; omega
        · simp only [e, if_false]
      show Raw W p s.n _ s.kind (fun b' => ((HS.cnt { n := s.n, kind := s.kind, used := upd s.used (1 + 32 * b + c * j) false, word := fun i => if 1 + 32 * b + c * j ≤ i ∧ i < 1 + 32 * b + c * j + c then 0 else s.word i } b' : Nat) : Int)) _ _ _ cl
      rw [e]; exact hR3
    · refine cast (congrArg _ ?_) hfx
      funext k
      rw [lk_put]
      split <;> simp_all
  have FINZ : Hid (∀ {W : World}, s.cnt b = 1 → Raw W p s.n (fun i => if a ≤ i ∧ i < a + c then 0 else s.word i) s.kind (upd (fun b => (s.cnt b : Int)) b ((s.cnt b : Int) - 1)) (upd s.used a false) (put clk (c : Int) (min ((lk L (c : Int)).getD 0) (b : Int)) L) (clkOf L clk (c : Int)) cl → Fr p.mine w W →
      (HeapAt ((W.setCell ⟨p.kb, b, none⟩ (.int .i64 0)).setCell ⟨p.h, 5, none⟩ (.int .i64 (min cl (b : Int)))) p (s.free a).2 ∧ Fr p.mine w ((W.setCell ⟨p.kb, b, none⟩ (.int .i64 0)).setCell ⟨p.h, 5, none⟩ (.int .i64 (min cl (b : Int)))))) := by
    intro W hone hR3 hF3
    have hR3 := (hR3.setKind b 0).setClear (min cl (b : Int))
    have hcx := HS.HintC.freeSmall hC hu hj hc hk
    rw [if_pos hone] at hcx
    have hfx := hF.freeSmall hwf hu hj hc hk
    have hwx := hwf.free (1 + 32 * b + c * j)
    have hcnx := HS.cnt_freeSmall hwf hu hj hc hk
    have hd := HS.cnt_drop hc hj hu
    have hcb : s.cnt b = cntF (c : Int) s.used b := by unfold HS.cnt; rw [hk]
    rw [HS.free_small hu hj hc hk, if_pos (by omega)] at hcx hfx hwx hcnx
    rw [ha, HS.free_small hu hj hc hk, if_pos (by omega)]
    rw [ha] at hR3
    have hcap' : s.cap (1 + 32 * b + c * j) = c := by rw [← ha]; exact hcap
    rw [hcap'] at hcx hfx hwx hcnx ⊢
    refine ⟨⟨put clk (c : Int) (min ((lk L (c : Int)).getD 0) (b : Int)) L, clkOf L clk (c : Int), min cl (b : Int), ?_, hwx, ?_, hcx, hn1, hn2⟩, (hF3.setCell (by simp [HP.mine]) _).setCell (by simp [HP.mine]) _⟩
    · have e : (fun b' => ((HS.cnt { n := s.n, kind := upd s.kind b 0, used := upd s.used (1 + 32 * b + c * j) false, word := fun i => if 1 + 32 * b + c * j ≤ i ∧ i < 1 + 32 * b + c * j + c then 0 else s.word i } b' : Nat) : Int)) = upd (fun b => (s.cnt b : Int)) b ((s.cnt b : Int) - 1) := by
        funext b'; rw [hcnx]; unfold upd; by_cases e : b' = b
        · simp only [e, if_true]; omega
        · simp only [e, if_false]
      show Raw _ p s.n _ (upd s.kind b 0) (fun b' => ((HS.cnt { n := s.n, kind := upd s.kind b 0, used := upd s.used (1 + 32 * b + c * j) false, word := fun i => if 1 + 32 * b + c * j ≤ i ∧ i < 1 + 32 * b + c * j + c then 0 else s.word i } b' : Nat) : Int)) _ _ _ _
      rw [e]; exact hR3
    · refine cast (congrArg _ ?_) hfx
      funext k
      rw [lk_put]
      split <;> simp_all
  have HR := Lib.hid hR
  have HR1 := Lib.hid hR1
  have HF1 := Lib.hid hF1
  have HA := Lib.hid ha
  have HK := Lib.hid hk
  clear hR hR1 hF1 hw1 hk hcap
  rw [← ha] at hu ⊢
  clear ha
  go_enter Try.func25, Try.ntmps25
  go_wp2_with (first | (go_at_call 22; refine (HCAP.out _ HR.out).mono ?_; rintro e w' ⟨rfl, rfl⟩) | (go_at_call 65; refine (of_any _ _ (by omega) (by omega)).mono ?_; rw [hdiv.out]; rintro e w' ⟨rfl, rfl⟩))
  have hR2 := (HR1.out.setUsed a false).setCnt b ((s.cnt b : Int) - 1)
  have hF2 := (HF1.out.setCell (x := ⟨p.ub, a, none⟩) (by simp [HP.mine]) (.bool false)).setCell (x := ⟨p.cb, b, none⟩) (by simp [HP.mine]) (.int .i64 ((s.cnt b : Int) - 1))
  generalize (w1.setCell ⟨p.ub, a, none⟩ (.bool false)).setCell ⟨p.cb, b, none⟩ (.int .i64 ((s.cnt b : Int) - 1)) = w2 at hR2 hF2 ⊢
  clear hclr h0 h1 h2 h3 h4 hk1 hc1 hu1 hfk hfc hfu
  obtain ⟨O, hO⟩ : ∃ O : Int → Obj, ∀ v, O v = .map ((put clk (c : Int) v L).map (entOf (Value.int .i64))).toArray (clkOf L clk (c : Int)) := ⟨_, fun _ => rfl⟩
  have hup : ∀ v, (Instr.mapUpdate 123 (.map (some p.mb)) (.int .i64 c) (.int .i64 v)).run Try.prog w2.drew = .ok () (World.putMap w2.drew p.mb (O v)) := fun v => by
    rw [hO]; exact run_update_at Try.underlying123 Try.underlying3 hR2.drew.mp (c : Int) v
  have hlk := run_lookup_at (P := Try.prog) (T := 123) (z := .int .i64 0) Try.underlying123 Try.underlying3 (zero_int w2.drew) hR2.drew.mp (c : Int)
  obtain ⟨F, hFe⟩ : ∃ F, F = (lk L (c : Int)).getD 0 := ⟨_, rfl⟩
  rw [show (Option.map (Value.int .i64) (lk L c)).getD (.int .i64 0) = .int .i64 F by rw [hFe]; cases lk L (c : Int) <;> rfl] at hlk
  have h4 : w2.cell? ⟨p.h, 4, none⟩ = some (.map (some p.mb)) := hR2.st.cell (by omega)
  have HR2 := Lib.hid hR2
  have HF2 := Lib.hid hF2
  have HFE := Lib.hid hFe
  have HO := Lib.hid hO
  clear hR2 hF2 hFe hO
  go_still_tail 13, (by kernel_rfl)
  change wpList _ _ _ _ _ w2.drew
  go_upto_region 10 with fail
  have hR3 : Raw (World.putMap w2.drew p.mb (O (if (b : Int) < F then (b : Int) else F))) p s.n (fun i => if a ≤ i ∧ i < a + c then 0 else s.word i) s.kind (upd (fun b => (s.cnt b : Int)) b ((s.cnt b : Int) - 1)) (upd s.used a false) (put clk (c : Int) (min ((lk L (c : Int)).getD 0) (b : Int)) L) (clkOf L clk (c : Int)) cl := by
    rw [HO.out, show min ((lk L (c : Int)).getD 0) (b : Int) = (if (b : Int) < F then (b : Int) else F) by rw [← HFE.out]; split <;> omega]
    exact HR2.out.drew.putMap (c : Int) _
  have hF3 : Fr p.mine w (World.putMap w2.drew p.mb (O (if (b : Int) < F then (b : Int) else F))) := (HF2.out.drew).putMap (by simp [HP.mine]) _
  generalize World.putMap w2.drew p.mb (O (if (b : Int) < F then (b : Int) else F)) = w3 at hR3 hF3 ⊢
  clear hup hlk h4
  have h1 : w3.cell? ⟨p.h, 1, none⟩ = some (.slice (some ⟨p.kb, 0, none⟩) s.n s.n) := hR3.st.cell (by omega)
  have h2 : w3.cell? ⟨p.h, 2, none⟩ = some (.slice (some ⟨p.cb, 0, none⟩) s.n s.n) := hR3.st.cell (by omega)
  have h5 : w3.cell? ⟨p.h, 5, none⟩ = some (.int .i64 cl) := hR3.st.cell (by omega)
  have hc3 : w3.cell? ⟨p.cb, b, none⟩ = some (.int .i64 ((s.cnt b : Int) - 1)) := by rw [hR3.cn.cell hbn, upd_same]
  have hk3 : w3.cell? ⟨p.kb, b, none⟩ = some (.int .i64 c) := by rw [hR3.kd.cell hbn, HK.out]
  have hfk3 := hR3.kd.frozen b
  have hf5 := hR3.st.frozen 5
  have HR3 := Lib.hid hR3
  have HF3 := Lib.hid hF3
  clear hR3 hF3
  by_cases hpos : 1 < s.cnt b
  · have hp : (0 : Int) < (s.cnt b : Int) - 1 := by omega
    go_wp2_with fail
    all_goals (go_ret; exact ⟨rfl, FINP.out hpos HR3.out HF3.out⟩)
  · have hone : Hid (s.cnt b = 1) := by show s.cnt b = 1; omega
    rw [show ((s.cnt b : Int) - 1) = 0 by omega] at hc3
    by_cases hfull : c = 32
    all_goals
      go_wp2_with fail
      all_goals
        go_loopw [71] (fun v wr => (v = .int .i64 0 ∧ wr = w3) ∨ (v = .int .i64 1 ∧ wr = w3.setCell ⟨p.kb, b, none⟩ (.int .i64 0))) (fun v _ => 1 - (intOf v).toNat)
        case atStart => exact .inl ⟨rfl, rfl⟩
        case round =>
          rcases hrel with ⟨rfl, rfl⟩ | ⟨rfl, rfl⟩
          · go_wp2_with fail
            go_roundw
            case rel => first | exact .inr ⟨rfl, rfl⟩ | exact .inr ⟨rfl, trivial⟩ | simp
            case measure => simp [intOf]
          · go_wp2_with fail
            all_goals
              go_ret
              refine ⟨rfl, ?_⟩
              have e := FINZ.out hone.out HR3.out HF3.out
              first | (rw [show min cl (b : Int) = (b : Int) by omega] at e; exact e) | (rw [show min cl (b : Int) = cl by omega] at e; exact e)
end Go.Proofs.Ytjfpijoeddjgmaa

/- The heap: Free, of a large cell and of every address. Conditions: the heap reads as the plain model says. -/
namespace Go.Proofs.Ytjfpijoeddjgmaa
open Go.RowKit Hm
set_option linter.unusedSimpArgs false
set_option maxRecDepth 100000 in
set_option maxHeartbeats 1000000 in
theorem freeLarge {p : HP} {s : HS} (b : Nat) (w : World) (hA : HeapAt w p s) (hu : s.used (1 + 32 * b) = true) (hk : s.kind b = -1) :
    Calls Try.prog 25 #[.pointer (some ⟨p.h, 0, none⟩), .int .i64 ((1 + 32 * b : Nat) : Int)] w fun e w' =>
      e = .returned (.int .i64 0) ∧ HeapAt w' p (s.free (1 + 32 * b)).2 ∧ Fr p.mine w w' := by
  obtain ⟨L, clk, cl, hR, hwf, hF, hC, hn1, hn2⟩ := hA
  obtain ⟨a, ha⟩ : ∃ a, a = 1 + 32 * b := ⟨_, rfl⟩
  have hkh := hwf.head b hk
  have hbn : b + 1 < s.n := hwf.lt (by rw [hkh]; decide)
  have hcap : s.cap a = 64 := by
    unfold HS.cap; rw [ha, if_pos hu, show (1 + 32 * b - 1) / 32 = b by omega, hk, if_pos rfl]
  have HCAP : Hid (∀ w, Raw w p s.n s.word s.kind (fun b => (s.cnt b : Int)) s.used L clk cl → Calls Try.prog 22 #[.pointer (some ⟨p.h, 0, none⟩), .int .i64 (a : Int)] w fun e w' => e = .returned (.int .i64 64) ∧ w = w') := by
    intro w hR
    have := cap_any (a : Int) w hR hwf hn2
    simp only [Int.toNat_natCast, hcap] at this
    exact this
  obtain ⟨w1, hw1⟩ : ∃ w1, w1 = w.setCells p.wb a (List.replicate 64 (.int .u64 0)) := ⟨_, rfl⟩
  have hclr : ∀ ty cp, (Builtin.clear_ #[122] ty #[.slice (some ⟨p.wb, a, none⟩) 64 cp]).run Try.prog w = .ok (.tuple #[]) w1 := fun ty cp => by
    rw [hw1]
    exact Lib.run_clear_slice w 122 33 ty (.int .u64 0) Try.underlying122 zero_u64 rfl rfl p.wb a 64 cp (by omega) (fun i hi => by rw [hR.wd.cell (by omega)]; rfl) (fun i _ => hR.wd.frozen _)
  have hR1 := hR.clearWords 64 a
  have hF1 := Fr.clearWords (p := p) 64 a w
  rw [← hw1] at hR1 hF1
  have h0 : w.cell? ⟨p.h, 0, none⟩ = some (.slice (some ⟨p.wb, 0, none⟩) (1 + 32 * s.n) (1 + 32 * s.n)) := hR.st.cell (by omega)
  have h1 : w1.cell? ⟨p.h, 1, none⟩ = some (.slice (some ⟨p.kb, 0, none⟩) s.n s.n) := hR1.st.cell (by omega)
  have h2 : w1.cell? ⟨p.h, 2, none⟩ = some (.slice (some ⟨p.cb, 0, none⟩) s.n s.n) := hR1.st.cell (by omega)
  have h3 : w1.cell? ⟨p.h, 3, none⟩ = some (.slice (some ⟨p.ub, 0, none⟩) (1 + 32 * s.n) (1 + 32 * s.n)) := hR1.st.cell (by omega)
  have h5 : w1.cell? ⟨p.h, 5, none⟩ = some (.int .i64 cl) := hR1.st.cell (by omega)
  have hk1 := hR1.kd.cell (i := b) (by omega)
  rw [hk] at hk1
  have hk2 := hR1.kd.cell (i := b + 1) (by omega)
  have hc1 := hR1.cn.cell (i := b) (by omega)
  rw [HS.cnt_head hk] at hc1
  have hu1 := hR1.us.cell (i := a) (by omega)
  have hfk := hR1.kd.frozen
  have hfc := hR1.cn.frozen
  have hfu := hR1.us.frozen
  have hfh := hR1.st.frozen 5
  have n1 := hR.ok.k1
  have n2 := hR.ok.k2
  have n3 := hR.ok.c1
  have n4 := hR.ok.h2
  have n5 := hR.ok.h3
  have n6 := hR.ok.h4
  have ha1 : 1 ≤ a := by omega
  have ha2 : a + 64 ≤ 1 + 32 * s.n := by omega
  have hdiv : Hid (((a : Int) - 1) / 32 = (b : Int)) := by show ((a : Int) - 1) / 32 = (b : Int); omega
  obtain ⟨M, hM⟩ : ∃ M, M = min cl (b : Int) := ⟨_, rfl⟩
  have FIN : Hid (HeapAt (((((w1.setCell ⟨p.ub, a, none⟩ (.bool false)).setCell ⟨p.cb, b, none⟩ (.int .i64 0)).setCell ⟨p.kb, b, none⟩ (.int .i64 0)).setCell ⟨p.kb, b + 1, none⟩ (.int .i64 0)).setCell ⟨p.h, 5, none⟩ (.int .i64 M)) p (s.free a).2 ∧
      Fr p.mine w (((((w1.setCell ⟨p.ub, a, none⟩ (.bool false)).setCell ⟨p.cb, b, none⟩ (.int .i64 0)).setCell ⟨p.kb, b, none⟩ (.int .i64 0)).setCell ⟨p.kb, b + 1, none⟩ (.int .i64 0)).setCell ⟨p.h, 5, none⟩ (.int .i64 M))) := by
    have hR3 := ((((hR1.setUsed a false).setCnt b 0).setKind b 0).setKind (b + 1) 0).setClear M
    have hF3 := ((((hF1.setCell (x := ⟨p.ub, a, none⟩) (by simp [HP.mine]) (.bool false)).setCell (x := ⟨p.cb, b, none⟩) (by simp [HP.mine]) (.int .i64 0)).setCell (x := ⟨p.kb, b, none⟩) (by simp [HP.mine]) (.int .i64 0)).setCell (x := ⟨p.kb, b + 1, none⟩) (by simp [HP.mine]) (.int .i64 0)).setCell (x := ⟨p.h, 5, none⟩) (by simp [HP.mine]) (.int .i64 M)
    refine ⟨?_, hF3⟩
    have hcx := HS.HintC.freeLarge hC hu hk
    have hfx := hF.freeLarge hwf hu hk
    have hwx := hwf.free (1 + 32 * b)
    have hcnx := HS.cnt_freeLarge hwf hu hk
    have hcap' : s.cap (1 + 32 * b) = 64 := by rw [← ha]; exact hcap
    rw [HS.free_large hu hk] at hcx hfx hwx hcnx
    rw [← hM] at hcx
    rw [ha, HS.free_large hu hk]
    rw [ha] at hR3
    rw [hcap'] at hcx hfx hwx hcnx ⊢
    refine ⟨L, clk, M, ?_, hwx, hfx, hcx, hn1, hn2⟩
    have e : (fun b' => ((HS.cnt { n := s.n, kind := upd (upd s.kind b 0) (b + 1) 0, used := upd s.used (1 + 32 * b) false, word := fun i => if 1 + 32 * b ≤ i ∧ i < 1 + 32 * b + 64 then 0 else s.word i } b' : Nat) : Int)) = upd (fun b => (s.cnt b : Int)) b 0 := by
      funext b'; rw [hcnx]; unfold upd
      by_cases e : b' = b
      · simp only [e, if_true]; rfl
      · simp only [e, if_false]
    show Raw _ p s.n _ (upd (upd s.kind b 0) (b + 1) 0) (fun b' => ((HS.cnt { n := s.n, kind := upd (upd s.kind b 0) (b + 1) 0, used := upd s.used (1 + 32 * b) false, word := fun i => if 1 + 32 * b ≤ i ∧ i < 1 + 32 * b + 64 then 0 else s.word i } b' : Nat) : Int)) _ _ _ _
    rw [e]; exact hR3
  have HR := Lib.hid hR
  have HM := Lib.hid hM
  clear hR hR1 hF1 hw1 hk hcap hkh hM hF hC hwf
  rw [← ha] at hu ⊢
  clear ha
  go_enter Try.func25, Try.ntmps25
  go_wp2_with (first | (go_at_call 22; refine (HCAP.out _ HR.out).mono ?_; rintro e w' ⟨rfl, rfl⟩) | (go_at_call 65; refine (of_any _ _ (by omega) (by omega)).mono ?_; rw [hdiv.out]; rintro e w' ⟨rfl, rfl⟩))
  go_loopw [71] (fun v wr => (v = .int .i64 0 ∧ wr = (w1.setCell ⟨p.ub, a, none⟩ (.bool false)).setCell ⟨p.cb, b, none⟩ (.int .i64 0)) ∨ (v = .int .i64 1 ∧ wr = ((w1.setCell ⟨p.ub, a, none⟩ (.bool false)).setCell ⟨p.cb, b, none⟩ (.int .i64 0)).setCell ⟨p.kb, b, none⟩ (.int .i64 0)) ∨
    (v = .int .i64 2 ∧ wr = (((w1.setCell ⟨p.ub, a, none⟩ (.bool false)).setCell ⟨p.cb, b, none⟩ (.int .i64 0)).setCell ⟨p.kb, b, none⟩ (.int .i64 0)).setCell ⟨p.kb, b + 1, none⟩ (.int .i64 0))) (fun v _ => 2 - (intOf v).toNat)
  case atStart => exact .inl ⟨rfl, by first | rfl | trivial⟩
  case round =>
    rcases hrel with ⟨rfl, rfl⟩ | ⟨rfl, rfl⟩ | ⟨rfl, rfl⟩
    · go_wp2_with fail
      go_roundw
      case rel => exact .inr (.inl ⟨rfl, by first | rfl | trivial⟩)
      case measure => simp [intOf]
    · go_wp2_with fail
      go_roundw
      case rel => exact .inr (.inr ⟨rfl, by first | rfl | trivial⟩)
      case measure => simp [intOf]
    · go_wp2_with fail
      all_goals
        go_ret
        refine ⟨rfl, ?_⟩
        have e := FIN.out
        rw [HM.out] at e
        first | (rw [show min cl (b : Int) = (b : Int) by omega] at e; exact e) | (rw [show min cl (b : Int) = cl by omega] at e; exact e)

set_option maxHeartbeats 400000 in
theorem freeNone {p : HP} {s : HS} (a : Int) (w : World) (hA : HeapAt w p s) (hu : s.used a.toNat = false) :
    Calls Try.prog 25 #[.pointer (some ⟨p.h, 0, none⟩), .int .i64 a] w fun e w' => e = .returned (.int .i64 1) ∧ w = w' := by
  obtain ⟨L, clk, cl, hR, hwf, hF, hC, hn1, hn2⟩ := hA
  have HCAP : Hid (∀ w, Raw w p s.n s.word s.kind (fun b => (s.cnt b : Int)) s.used L clk cl → Calls Try.prog 22 #[.pointer (some ⟨p.h, 0, none⟩), .int .i64 a] w fun e w' => e = .returned (.int .i64 0) ∧ w = w') := by
    intro w hR
    have := cap_any a w hR hwf hn2
    rw [HS.cap_none hu] at this
    exact this
  have HR := Lib.hid hR
  clear hR hwf hF hC hu
  go_enter Try.func25, Try.ntmps25
  go_wp2_with (first | (go_at_call 22; refine (HCAP.out _ HR.out).mono ?_; rintro e w' ⟨rfl, rfl⟩))
  go_ret
  exact ⟨rfl, rfl⟩

theorem free_any {p : HP} {s : HS} (a : Int) (w : World) (hA : HeapAt w p s) :
    Calls Try.prog 25 #[.pointer (some ⟨p.h, 0, none⟩), .int .i64 a] w fun e w' =>
      e = .returned (.int .i64 (s.free a.toNat).1) ∧ HeapAt w' p (s.free a.toNat).2 ∧ Fr p.mine w w' := by
  have hwf : s.WF := by obtain ⟨L, clk, cl, hR, hwf, _⟩ := hA; exact hwf
  cases hu : s.used a.toNat with
  | false =>
    have e : s.free a.toNat = (1, s) := by unfold HS.free; rw [if_neg (by simp [hu])]
    refine (freeNone a w hA hu).mono ?_
    rintro e w' ⟨rfl, rfl⟩
    rw [‹s.free a.toNat = (1, s)›]
    exact ⟨rfl, hA, Fr.refl _ _⟩
  | true =>
    have hr := WF_used_range hwf hu
    obtain ⟨x, rfl⟩ := Int.eq_ofNat_of_zero_le (show 0 ≤ a by omega)
    simp only [Int.toNat_natCast] at hu ⊢
    rcases hwf.used_cases hu with ⟨b, hb, hk, hk1, rfl, e⟩ | ⟨b, c, j, hb, hc, hk, hj, rfl, e⟩
    · have e1 : (s.free (1 + 32 * b)).1 = 0 := by rw [HS.free_large hu hk]
      rw [e1]; exact freeLarge b w hA hu hk
    · have e1 : (s.free (1 + 32 * b + c * j)).1 = 0 := by rw [HS.free_small hu hj hc hk]
      rw [e1]; exact freeSmall b c j w hA hu hj hc hk
theorem freeNil (a : Int) (w : World) : Calls Try.prog 25 #[.pointer none, .int .i64 a] w fun e w' => e = .returned (.int .i64 1) ∧ w = w' := by
  go_enter Try.func25, Try.ntmps25
  go_wp2_with (first | (go_at_call 22; refine (capNil _ _).mono ?_; rintro e w' ⟨rfl, rfl⟩))
  go_ret
  exact ⟨rfl, rfl⟩
theorem readNil (a i : Int) (w : World) : Calls Try.prog 23 #[.pointer none, .int .i64 a, .int .i64 i] w fun e w' => e = .returned (.tuple #[.int .u64 0, .int .i64 1]) ∧ w = w' := by
  by_cases hi : i < 0
  · go_enter Try.func23, Try.ntmps23
    go_wp2
    go_ret2
    exact ⟨rfl, rfl⟩
  · go_enter Try.func23, Try.ntmps23
    go_wp2_with (first | (go_at_call 22; refine (capNil _ _).mono ?_; rintro e w' ⟨rfl, rfl⟩))
    go_ret2
    exact ⟨rfl, rfl⟩
theorem writeNil (a i v : Int) (w : World) : Calls Try.prog 24 #[.pointer none, .int .i64 a, .int .i64 i, .int .u64 v] w fun e w' => e = .returned (.int .i64 1) ∧ w = w' := by
  by_cases hi : i < 0
  · go_enter Try.func24, Try.ntmps24
    go_wp2
    go_ret
    exact ⟨rfl, rfl⟩
  · go_enter Try.func24, Try.ntmps24
    go_wp2_with (first | (go_at_call 22; refine (capNil _ _).mono ?_; rintro e w' ⟨rfl, rfl⟩))
    go_ret
    exact ⟨rfl, rfl⟩
theorem roomNil (n : Int) (w : World) : Calls Try.prog 31 #[.pointer none, .int .i64 n] w fun e w' => e = .returned (.bool false) ∧ Below w.heap.size w w' := by
  go_enter Try.func31, Try.ntmps31
  go_wp2
  go_ret
  exact ⟨rfl, by first | exact Below.refl _ _ | exact ((Below.refl _ _).alloc (Nat.le_refl _) _) | exact (((Below.refl _ _).alloc (Nat.le_refl _) _).alloc (by simp) _)⟩
theorem cellsNil (w : World) : Calls Try.prog 26 #[.pointer none] w fun e w' => e = .returned (.slice none 0 0) ∧ w = w' := by
  go_enter Try.func26, Try.ntmps26
  go_wp2
  go_ret
  exact ⟨rfl, rfl⟩
end Go.Proofs.Ytjfpijoeddjgmaa

/- The heap: New. No condition. -/
namespace Go.Proofs.Ytjfpijoeddjgmaa
open Go.RowKit Hm
set_option linter.unusedSimpArgs false
set_option linter.unusedVariables false

def ownB : Value → Option Nat
  | .slice (some a) _ _ => some a.block
  | .map (some b) => some b
  | _ => none
def ownIx (i : Nat) : Bool := i == 3 || i == 5 || i == 7 || i == 11 || i == 12
/-- What each operation of New's statement leaves. -/
def SNew (B n m : Nat) : Nat → Value → World → Prop
  | 0, v, _ => v = .int .i64 n
  | 1, v, _ => v = .int .i64 ((n : Int) * 32)
  | 2, v, _ => v = .int .i64 m
  | 3, v, w => ∃ g, B ≤ g ∧ v = .slice (some ⟨g, 0, none⟩) m m ∧ BlkAt w g 33 m (fun _ => .int .u64 0)
  | 4, v, _ => v = .int .i64 n
  | 5, v, w => ∃ g, B ≤ g ∧ v = .slice (some ⟨g, 0, none⟩) n n ∧ BlkAt w g 3 n (fun _ => .int .i64 0)
  | 6, v, _ => v = .int .i64 n
  | 7, v, w => ∃ g, B ≤ g ∧ v = .slice (some ⟨g, 0, none⟩) n n ∧ BlkAt w g 3 n (fun _ => .int .i64 0)
  | 8, v, _ => v = .int .i64 n
  | 9, v, _ => v = .int .i64 ((n : Int) * 32)
  | 10, v, _ => v = .int .i64 m
  | 11, v, w => ∃ g, B ≤ g ∧ v = .slice (some ⟨g, 0, none⟩) m m ∧ BlkAt w g 4 m (fun _ => .bool false)
  | 12, v, w => ∃ g, B ≤ g ∧ v = .map (some g) ∧ w.heap[g]? = some (.map #[] 0)
  | 13, v, w => ∃ g3 g5 g7 g11 g12, v = .agg #[.slice (some ⟨g3, 0, none⟩) m m, .slice (some ⟨g5, 0, none⟩) n n, .slice (some ⟨g7, 0, none⟩) n n, .slice (some ⟨g11, 0, none⟩) m m, .map (some g12), .int .i64 0] ∧
      B ≤ g3 ∧ B ≤ g5 ∧ B ≤ g7 ∧ B ≤ g11 ∧ B ≤ g12 ∧ g3 ≠ g5 ∧ g3 ≠ g7 ∧ g3 ≠ g11 ∧ g3 ≠ g12 ∧ g5 ≠ g7 ∧ g5 ≠ g11 ∧ g5 ≠ g12 ∧ g7 ≠ g11 ∧ g7 ≠ g12 ∧ g11 ≠ g12 ∧
      BlkAt w g3 33 m (fun _ => .int .u64 0) ∧ BlkAt w g5 3 n (fun _ => .int .i64 0) ∧ BlkAt w g7 3 n (fun _ => .int .i64 0) ∧ BlkAt w g11 4 m (fun _ => .bool false) ∧ w.heap[g12]? = some (.map #[] 0)
  | 14, v, w => ∃ p : HP, v = .pointer (some ⟨p.h, 0, none⟩) ∧ (∀ k, p.mine k → B ≤ k) ∧ Raw w p n (fun _ => 0) (fun _ => 0) (fun _ => 0) (fun _ => false) [] 0 0
  | 15, v, w => ∃ p : HP, v = .pointer (some ⟨p.h, 0, none⟩) ∧ (∀ k, p.mine k → B ≤ k) ∧ Raw w p n (fun _ => 0) (fun _ => 0) (fun _ => 0) (fun _ => false) [] 0 0
  | 16, v, _ => v = .int .i64 0
  | _, _, _ => True
def TNew (i j : Nat) (v u : Value) : Prop := ownIx i = true → ownIx j = true → ∀ g, ownB v = some g → ownB u ≠ some g

theorem BlkAt.grow {w w' : World} {b : Nat} {T : TypeId} {n : Nat} {f : Nat → Value} (h : BlkAt w b T n f) (hb : Below w.heap.size w w') : BlkAt w' b T n f := h.of_heap (hb.block b h.lt)
theorem heap_grow {w w' : World} {g : Nat} {o : Obj} (h : w.heap[g]? = some o) (hb : Below w.heap.size w w') : w'.heap[g]? = some o := by
  rw [hb.block g (Array.getElem?_eq_some_iff.1 h).1]; exact h
theorem Raw.grow {w w' : World} {p : HP} {n : Nat} {wd kd cn : Nat → Int} {us : Nat → Bool} {L : List (Ent Int)} {clk : Nat} {cl : Int} (h : Raw w p n wd kd cn us L clk cl) (hb : Below w.heap.size w w') : Raw w' p n wd kd cn us L clk cl :=
  h.fr (S := fun _ => False) (Fr.of_below hb) (fun _ _ => id)
theorem SNew.grow {B n m : Nat} {w w' : World} (hb : Below w.heap.size w w') : ∀ (j : Nat) (u : Value), SNew B n m j u w → SNew B n m j u w'
  | 0, _, h => h
  | 1, _, h => h
  | 2, _, h => h
  | 3, _, h => by obtain ⟨g, h1, h2, h3⟩ := h; exact ⟨g, h1, h2, h3.grow hb⟩
  | 4, _, h => h
  | 5, _, h => by obtain ⟨g, h1, h2, h3⟩ := h; exact ⟨g, h1, h2, h3.grow hb⟩
  | 6, _, h => h
  | 7, _, h => by obtain ⟨g, h1, h2, h3⟩ := h; exact ⟨g, h1, h2, h3.grow hb⟩
  | 8, _, h => h
  | 9, _, h => h
  | 10, _, h => h
  | 11, _, h => by obtain ⟨g, h1, h2, h3⟩ := h; exact ⟨g, h1, h2, h3.grow hb⟩
  | 12, _, h => by obtain ⟨g, h1, h2, h3⟩ := h; exact ⟨g, h1, h2, heap_grow h3 hb⟩
  | 13, _, h => by
    obtain ⟨g3, g5, g7, g11, g12, e, b3, b5, b7, b11, b12, n1, n2, n3, n4, n5, n6, n7, n8, n9, n10, k3, k5, k7, k11, k12⟩ := h
    exact ⟨g3, g5, g7, g11, g12, e, b3, b5, b7, b11, b12, n1, n2, n3, n4, n5, n6, n7, n8, n9, n10, k3.grow hb, k5.grow hb, k7.grow hb, k11.grow hb, heap_grow k12 hb⟩
  | 14, _, h => by obtain ⟨p, h1, h2, h3⟩ := h; exact ⟨p, h1, h2, h3.grow hb⟩
  | 15, _, h => by obtain ⟨p, h1, h2, h3⟩ := h; exact ⟨p, h1, h2, h3.grow hb⟩
  | 16, _, h => h
  | _ + 17, _, h => h
theorem SNew.own_lt {B n m : Nat} {w : World} {j : Nat} {u : Value} (h : SNew B n m j u w) (hj : ownIx j = true) {g : Nat} (hg : ownB u = some g) : g < w.heap.size := by
  unfold ownIx at hj
  simp only [Bool.or_eq_true, beq_iff_eq] at hj
  rcases hj with (((rfl | rfl) | rfl) | rfl) | rfl
  · obtain ⟨x, _, rfl, h3⟩ := h; obtain rfl := Option.some.inj hg; exact h3.lt
  · obtain ⟨x, _, rfl, h3⟩ := h; obtain rfl := Option.some.inj hg; exact h3.lt
  · obtain ⟨x, _, rfl, h3⟩ := h; obtain rfl := Option.some.inj hg; exact h3.lt
  · obtain ⟨x, _, rfl, h3⟩ := h; obtain rfl := Option.some.inj hg; exact h3.lt
  · obtain ⟨x, _, rfl, h3⟩ := h; obtain rfl := Option.some.inj hg; exact (Array.getElem?_eq_some_iff.1 h3).1
theorem TNew.off {B n m : Nat} {w : World} {i : Nat} {v : Value} (hi : ownIx i = false) (D : Nat → Bool) : ∀ j u, D j = true → SNew B n m j u w → TNew i j v u ∧ TNew j i u v :=
  fun j u _ _ => ⟨(fun h => by rw [hi] at h; cases h), (fun _ h => by rw [hi] at h; cases h)⟩
theorem TNew.new {B n m : Nat} {w : World} {i : Nat} {v : Value} (hv : ownB v = some w.heap.size) (D : Nat → Bool) : ∀ j u, D j = true → SNew B n m j u w → TNew i j v u ∧ TNew j i u v :=
  fun j u _ h => ⟨fun _ hj g hg hu => by rw [hv] at hg; obtain rfl := Option.some.inj hg; have := h.own_lt hj hu; omega,
    fun hj _ g hg hu => by rw [hv] at hu; obtain rfl := Option.some.inj hu; have := h.own_lt hj hg; omega⟩
theorem made_blk (w : World) (e : TypeId) (z : Value) (n : Nat) : BlkAt (w.alloc (.cells (madeCells #[z] n) e)) w.heap.size e n (fun _ => z) :=
  ⟨madeCells #[z] n, by simp only [World.alloc]; exact Array.getElem?_push_size, size_madeCells _ _, fun i hi => by simp [madeCells, hi, Nat.mod_one]⟩
theorem info33 : (Try.prog.info? 33).map (fun i => (i.zero, i.size, i.bytes)) = some (some (.int .u64 0), 1, 8) := by kernel_rfl
theorem info3 : (Try.prog.info? 3).map (fun i => (i.zero, i.size, i.bytes)) = some (some (.int .i64 0), 1, 8) := by kernel_rfl
theorem info4 : (Try.prog.info? 4).map (fun i => (i.zero, i.size, i.bytes)) = some (some (.bool false), 1, 1) := by kernel_rfl
theorem below_al (w : World) (o : Obj) : Below w.heap.size w (w.alloc o) := (Below.refl _ _).alloc (Nat.le_refl _) o

set_option maxRecDepth 100000 in
set_option maxHeartbeats 1000000 in
theorem new_ok (words : Int) (n : Nat) (w : World) (h1 : 32 ≤ words) (h2 : words ≤ 65536) (hn : words / 32 = n) :
    Calls Try.prog 20 #[.int .i64 words] w fun e w' => ∃ p : HP, e = .returned (.tuple #[.pointer (some ⟨p.h, 0, none⟩), .int .i64 0]) ∧ (∀ k, p.mine k → w.heap.size ≤ k) ∧ HeapAt w' p (HS.empty n) ∧ Below w.heap.size w w' := by
  have hn1 : 1 ≤ n := by omega
  have hn2 : n ≤ 2048 := by omega
  obtain ⟨m, hm⟩ : ∃ m, m = 1 + 32 * n := ⟨_, rfl⟩
  obtain ⟨B, hB⟩ : ∃ B, B = w.heap.size := ⟨_, rfl⟩
  have HN := Lib.hid hn
  have HM := Lib.hid hm
  have HB := Lib.hid hB
  have hm2 : m ≤ 65537 := by omega
  clear hn hm hB
  have hw1 : IntKind.i64.wrap ((n : Int) * 32) = (n : Int) * 32 := IntWalk.i64_in _ (by omega)
  have hw2 : IntKind.i64.wrap (1 + (n : Int) * 32) = 1 + (n : Int) * 32 := IntWalk.i64_in _ (by omega)
  go_enter Try.func20, Try.ntmps20
  go_upto_region 4 with fail
  rw [HN.out]
  refine wp_region_inv2 (n := 28) rfl rfl (by kernel_rfl) (SNew B n m) (fun _ w' => Below B w w') TNew ((Below.refl _ _).drew) ?step ?fin
  case step =>
    intro i o ho D a w' hF hT hJ hDi hdep
    match i, ho with
    | 0, ho =>
      obtain rfl := Option.some.inj ho
      have d4 := hF.out 4 (by rfl); simp only [Array.getD_eq_getD_getElem?, List.getElem?_toArray, List.getElem?_cons_succ, List.getElem?_cons_zero, Option.getD_some] at d4
      go_simp
      exact RegPost2.mk _ rfl (fun j u _ h => h) hJ (TNew.off rfl D)
    | 1, ho =>
      obtain rfl := Option.some.inj ho
      have d13 := hF.mine 0 _ _ rfl rfl (hdep ⟨0, .data⟩ (by simp) rfl); simp only [SNew] at d13
      go_simp
      exact RegPost2.mk _ rfl (fun j u _ h => h) hJ (TNew.off rfl D)
    | 2, ho =>
      obtain rfl := Option.some.inj ho
      have d14 := hF.mine 1 _ _ rfl rfl (hdep ⟨1, .data⟩ (by simp) rfl); simp only [SNew] at d14
      go_simp
      exact RegPost2.mk _ (by show Value.int .i64 _ = Value.int .i64 _; congr 1; have := HM.out; omega) (fun j u _ h => h) hJ (TNew.off rfl D)
    | 3, ho =>
      obtain rfl := Option.some.inj ho
      have d15 := hF.mine 2 _ _ rfl rfl (hdep ⟨2, .data⟩ (by simp) rfl); simp only [SNew] at d15
      have hmk := run_make_row' 122 33 (.int .u64 0) 8 Try.underlying122 info33 rfl .i64 .i64 m (by omega) (by omega) w'
      go_simp
      exact RegPost2.mk _ ⟨w'.heap.size, by have := hJ.size; rw [HB.out]; exact this, rfl, made_blk w' 33 (.int .u64 0) m⟩ (fun j u _ h => h.grow (below_al w' _)) (hJ.alloc (by have := hJ.size; rw [HB.out]; exact this) _) (TNew.new rfl D)
    | 4, ho =>
      obtain rfl := Option.some.inj ho
      have d4 := hF.out 4 (by rfl); simp only [Array.getD_eq_getD_getElem?, List.getElem?_toArray, List.getElem?_cons_succ, List.getElem?_cons_zero, Option.getD_some] at d4
      go_simp
      exact RegPost2.mk _ rfl (fun j u _ h => h) hJ (TNew.off rfl D)
    | 5, ho =>
      obtain rfl := Option.some.inj ho
      have d17 := hF.mine 4 _ _ rfl rfl (hdep ⟨4, .data⟩ (by simp) rfl); simp only [SNew] at d17
      have hmk := run_make_row' 29 3 (.int .i64 0) 8 Try.underlying29 info3 rfl .i64 .i64 n (by omega) (by omega) w'
      go_simp
      exact RegPost2.mk _ ⟨w'.heap.size, by have := hJ.size; rw [HB.out]; exact this, rfl, made_blk w' 3 (.int .i64 0) n⟩ (fun j u _ h => h.grow (below_al w' _)) (hJ.alloc (by have := hJ.size; rw [HB.out]; exact this) _) (TNew.new rfl D)
    | 6, ho =>
      obtain rfl := Option.some.inj ho
      have d4 := hF.out 4 (by rfl); simp only [Array.getD_eq_getD_getElem?, List.getElem?_toArray, List.getElem?_cons_succ, List.getElem?_cons_zero, Option.getD_some] at d4
      go_simp
      exact RegPost2.mk _ rfl (fun j u _ h => h) hJ (TNew.off rfl D)
    | 7, ho =>
      obtain rfl := Option.some.inj ho
      have d19 := hF.mine 6 _ _ rfl rfl (hdep ⟨6, .data⟩ (by simp) rfl); simp only [SNew] at d19
      have hmk := run_make_row' 29 3 (.int .i64 0) 8 Try.underlying29 info3 rfl .i64 .i64 n (by omega) (by omega) w'
      go_simp
      exact RegPost2.mk _ ⟨w'.heap.size, by have := hJ.size; rw [HB.out]; exact this, rfl, made_blk w' 3 (.int .i64 0) n⟩ (fun j u _ h => h.grow (below_al w' _)) (hJ.alloc (by have := hJ.size; rw [HB.out]; exact this) _) (TNew.new rfl D)
    | 8, ho =>
      obtain rfl := Option.some.inj ho
      have d4 := hF.out 4 (by rfl); simp only [Array.getD_eq_getD_getElem?, List.getElem?_toArray, List.getElem?_cons_succ, List.getElem?_cons_zero, Option.getD_some] at d4
      go_simp
      exact RegPost2.mk _ rfl (fun j u _ h => h) hJ (TNew.off rfl D)
    | 9, ho =>
      obtain rfl := Option.some.inj ho
      have d21 := hF.mine 8 _ _ rfl rfl (hdep ⟨8, .data⟩ (by simp) rfl); simp only [SNew] at d21
      go_simp
      exact RegPost2.mk _ rfl (fun j u _ h => h) hJ (TNew.off rfl D)
    | 10, ho =>
      obtain rfl := Option.some.inj ho
      have d22 := hF.mine 9 _ _ rfl rfl (hdep ⟨9, .data⟩ (by simp) rfl); simp only [SNew] at d22
      go_simp
      exact RegPost2.mk _ (by show Value.int .i64 _ = Value.int .i64 _; congr 1; have := HM.out; omega) (fun j u _ h => h) hJ (TNew.off rfl D)
    | 11, ho =>
      obtain rfl := Option.some.inj ho
      have d23 := hF.mine 10 _ _ rfl rfl (hdep ⟨10, .data⟩ (by simp) rfl); simp only [SNew] at d23
      have hmk := run_make_row' 57 4 (.bool false) 1 Try.underlying57 info4 rfl .i64 .i64 m (by omega) (by omega) w'
      go_simp
      exact RegPost2.mk _ ⟨w'.heap.size, by have := hJ.size; rw [HB.out]; exact this, rfl, made_blk w' 4 (.bool false) m⟩ (fun j u _ h => h.grow (below_al w' _)) (hJ.alloc (by have := hJ.size; rw [HB.out]; exact this) _) (TNew.new rfl D)
    | 12, ho =>
      obtain rfl := Option.some.inj ho
      have hmk := run_makeMap (P := Try.prog) 123 w'
      go_simp
      exact RegPost2.mk _ ⟨w'.heap.size, by have := hJ.size; rw [HB.out]; exact this, rfl, by simp only [World.alloc]; exact Array.getElem?_push_size⟩ (fun j u _ h => h.grow (below_al w' _)) (hJ.alloc (by have := hJ.size; rw [HB.out]; exact this) _) (TNew.new rfl D)
    | 13, ho =>
      obtain rfl := Option.some.inj ho
      have d16 := hF.mine 3 _ _ rfl rfl (hdep ⟨3, .data⟩ (by simp) rfl); simp only [SNew] at d16
      have d18 := hF.mine 5 _ _ rfl rfl (hdep ⟨5, .data⟩ (by simp) rfl); simp only [SNew] at d18
      have d20 := hF.mine 7 _ _ rfl rfl (hdep ⟨7, .data⟩ (by simp) rfl); simp only [SNew] at d20
      have d24 := hF.mine 11 _ _ rfl rfl (hdep ⟨11, .data⟩ (by simp) rfl); simp only [SNew] at d24
      have d25 := hF.mine 12 _ _ rfl rfl (hdep ⟨12, .data⟩ (by simp) rfl); simp only [SNew] at d25
      obtain ⟨g3, b3, e3, k3⟩ := d16
      obtain ⟨g5, b5, e5, k5⟩ := d18
      obtain ⟨g7, b7, e7, k7⟩ := d20
      obtain ⟨g11, b11, e11, k11⟩ := d24
      obtain ⟨g12, b12, e12, k12⟩ := d25
      have D3 := hdep ⟨3, .data⟩ (by simp) rfl
      have D5 := hdep ⟨5, .data⟩ (by simp) rfl
      have D7 := hdep ⟨7, .data⟩ (by simp) rfl
      have D11 := hdep ⟨11, .data⟩ (by simp) rfl
      have D12 := hdep ⟨12, .data⟩ (by simp) rfl
      have t1 := hT 3 5 _ _ _ _ rfl rfl rfl rfl D3 D5 (by decide) rfl rfl g3 (by rw [e3]; rfl)
      have t2 := hT 3 7 _ _ _ _ rfl rfl rfl rfl D3 D7 (by decide) rfl rfl g3 (by rw [e3]; rfl)
      have t3 := hT 3 11 _ _ _ _ rfl rfl rfl rfl D3 D11 (by decide) rfl rfl g3 (by rw [e3]; rfl)
      have t4 := hT 3 12 _ _ _ _ rfl rfl rfl rfl D3 D12 (by decide) rfl rfl g3 (by rw [e3]; rfl)
      have t5 := hT 5 7 _ _ _ _ rfl rfl rfl rfl D5 D7 (by decide) rfl rfl g5 (by rw [e5]; rfl)
      have t6 := hT 5 11 _ _ _ _ rfl rfl rfl rfl D5 D11 (by decide) rfl rfl g5 (by rw [e5]; rfl)
      have t7 := hT 5 12 _ _ _ _ rfl rfl rfl rfl D5 D12 (by decide) rfl rfl g5 (by rw [e5]; rfl)
      have t8 := hT 7 11 _ _ _ _ rfl rfl rfl rfl D7 D11 (by decide) rfl rfl g7 (by rw [e7]; rfl)
      have t9 := hT 7 12 _ _ _ _ rfl rfl rfl rfl D7 D12 (by decide) rfl rfl g7 (by rw [e7]; rfl)
      have t10 := hT 11 12 _ _ _ _ rfl rfl rfl rfl D11 D12 (by decide) rfl rfl g11 (by rw [e11]; rfl)
      rw [e5] at t1; rw [e7] at t2 t5; rw [e11] at t3 t6 t8; rw [e12] at t4 t7 t9 t10
      have HT : Hid (g3 ≠ g5 ∧ g3 ≠ g7 ∧ g3 ≠ g11 ∧ g3 ≠ g12 ∧ g5 ≠ g7 ∧ g5 ≠ g11 ∧ g5 ≠ g12 ∧ g7 ≠ g11 ∧ g7 ≠ g12 ∧ g11 ≠ g12) :=
        ⟨fun e => t1 (by rw [e]; rfl), fun e => t2 (by rw [e]; rfl), fun e => t3 (by rw [e]; rfl), fun e => t4 (by rw [e]; rfl), fun e => t5 (by rw [e]; rfl), fun e => t6 (by rw [e]; rfl), fun e => t7 (by rw [e]; rfl), fun e => t8 (by rw [e]; rfl), fun e => t9 (by rw [e]; rfl), fun e => t10 (by rw [e]; rfl)⟩
      clear t1 t2 t3 t4 t5 t6 t7 t8 t9 t10 D3 D5 D7 D11 D12 hT
      have K3 := Lib.hid k3
      have K5 := Lib.hid k5
      have K7 := Lib.hid k7
      have K11 := Lib.hid k11
      have K12 := Lib.hid k12
      clear k3 k5 k7 k11 k12
      simp only [Array.getD_eq_getD_getElem?] at e3 e5 e7 e11 e12
      go_simp
      obtain ⟨n1, n2, n3, n4, n5, n6, n7, n8, n9, n10⟩ := HT.out
      exact RegPost2.mk _ ⟨g3, g5, g7, g11, g12, rfl, b3, b5, b7, b11, b12, n1, n2, n3, n4, n5, n6, n7, n8, n9, n10, K3.out, K5.out, K7.out, K11.out, K12.out⟩ (fun j u _ h => h) hJ (TNew.off rfl D)
    | 14, ho =>
      obtain rfl := Option.some.inj ho
      have d26 := hF.mine 13 _ _ rfl rfl (hdep ⟨13, .data⟩ (by simp) rfl); simp only [SNew] at d26
      obtain ⟨g3, g5, g7, g11, g12, e, b3, b5, b7, b11, b12, n1, n2, n3, n4, n5, n6, n7, n8, n9, n10, k3, k5, k7, k11, k12⟩ := d26
      have hjs := hJ.size
      rw [← HB.out] at hjs
      have l3 := k3.lt
      have l5 := k5.lt
      have l7 := k7.lt
      have l11 := k11.lt
      have l12 := (Array.getElem?_eq_some_iff.1 k12).1
      have HG : ∀ o : Obj, Below w'.heap.size w' (w'.alloc o) := below_al w'
      have FIN : Hid (∃ p : HP, (Value.pointer (some ⟨w'.heap.size, 0, none⟩)) = .pointer (some ⟨p.h, 0, none⟩) ∧ (∀ k, p.mine k → B ≤ k) ∧ Raw (w'.alloc (.cells #[.slice (some ⟨g3, 0, none⟩) m m, .slice (some ⟨g5, 0, none⟩) n n, .slice (some ⟨g7, 0, none⟩) n n, .slice (some ⟨g11, 0, none⟩) m m, .map (some g12), .int .i64 0] 125)) p n (fun _ => 0) (fun _ => 0) (fun _ => 0) (fun _ => false) [] 0 0) := by
        have hm := HM.out
        refine ⟨⟨w'.heap.size, g3, g5, g7, g11, g12⟩, rfl, fun k hk => by unfold HP.mine at hk; simp only at hk; omega, ⟨⟨?_, ?_, ?_, ?_, ?_, n1, n2, n3, n4, n5, n6, n7, n8, n9, n10⟩, ?_, ?_, k5.grow (HG _), k7.grow (HG _), ?_, ⟨?_, List.nodup_nil, List.nodup_nil, fun e he => by cases he⟩⟩⟩
        · show w'.heap.size ≠ g3; omega
        · show w'.heap.size ≠ g5; omega
        · show w'.heap.size ≠ g7; omega
        · show w'.heap.size ≠ g11; omega
        · show w'.heap.size ≠ g12; omega
        · refine ⟨_, by simp only [World.alloc]; exact Array.getElem?_push_size, rfl, fun i hi => ?_⟩
          subst hm
          match i, hi with
          | 0, _ => rfl
          | 1, _ => rfl
          | 2, _ => rfl
          | 3, _ => rfl
          | 4, _ => rfl
          | 5, _ => rfl
        · subst hm; exact k3.grow (HG _)
        · subst hm; exact k11.grow (HG _)
        · exact heap_grow k12 (HG _)
      clear k3 k5 k7 k11 k12 l3 l5 l7 l11 l12
      go_simp
      exact RegPost2.mk _ FIN.out (fun j u _ h => h.grow (HG _)) (hJ.alloc (by rw [HB.out] at hjs ⊢; exact hjs) _) (TNew.off rfl D)
    | 15, ho =>
      obtain rfl := Option.some.inj ho
      have d27 := hF.mine 14 _ _ rfl rfl (hdep ⟨14, .data⟩ (by simp) rfl); simp only [SNew] at d27
      obtain ⟨p, e, hp, hR⟩ := d27
      have HR := Lib.hid hR
      have HP' := Lib.hid hp
      clear hR hp
      go_simp
      exact RegPost2.mk _ ⟨p, rfl, HP'.out, HR.out⟩ (fun j u _ h => h) hJ (TNew.off rfl D)
    | 16, ho =>
      obtain rfl := Option.some.inj ho
      go_simp
      exact RegPost2.mk _ rfl (fun j u _ h => h) hJ (TNew.off rfl D)
    | i + 17, ho => simp at ho
  case fin =>
    intro D a w' hF hT hJ hall
    obtain ⟨p, e2, hp, hR⟩ := hF.mine 15 _ _ rfl rfl (hall 15 (by decide))
    have e3 := hF.mine 16 _ _ rfl rfl (hall 16 (by decide))
    simp only [SNew] at e3
    have FIN : Hid ((∀ k, p.mine k → w.heap.size ≤ k) ∧ HeapAt w' p (HS.empty n) ∧ Below w.heap.size w w') := by
      rw [HB.out] at hp hJ
      refine ⟨hp, ⟨[], 0, 0, hR, HS.empty_wf n, fun c hc => ⟨by simp [lk_nil], by simp [lk_nil], fun b hb => by simp [lk_nil] at hb; omega⟩, ⟨by omega, by omega, fun b hb => by omega⟩, hn1, hn2⟩, hJ⟩
    clear hR hp
    have hl := act_lit a 28 hF.size
    rw [hF.defers] at hl
    simp only [List.range, List.range.loop, List.map_cons, List.map_nil, e2, e3] at hl
    rw [hl]
    clear hl hF
    go_wp2
    go_ret2
    exact ⟨p, rfl, FIN.out⟩

theorem new_bad (words : Int) (w : World) (h : words < 32 ∨ 65536 < words) :
    Calls Try.prog 20 #[.int .i64 words] w fun e w' => e = .returned (.tuple #[.pointer none, .int .i64 1]) ∧ w = w' := by
  rcases h with h | h
  · go_enter Try.func20, Try.ntmps20
    go_wp2
    go_ret2
    exact ⟨rfl, rfl⟩
  · go_enter Try.func20, Try.ntmps20
    go_wp2
    go_ret2
    exact ⟨rfl, rfl⟩
end Go.Proofs.Ytjfpijoeddjgmaa
