/- The heap: Room. Conditions: the heap's memory reads as the plain model says. -/
import Derived.Test.YtjfpijoeddjgmaaHeapW12
namespace Go.Proofs.Ytjfpijoeddjgmaa
open Go.RowKit Hm
set_option linter.unusedVariables false

def HS.room (s : HS) (n : Int) : Bool := decide ((s.alloc n).2.1 = 0)

theorem HeapAt.lt {w : World} {p : HP} {s : HS} (h : HeapAt w p s) : ∀ k, p.mine k → k < w.heap.size := by
  obtain ⟨L, clk, cl, hR, _⟩ := h
  rintro k (rfl | rfl | rfl | rfl | rfl | rfl)
  · exact hR.st.lt
  · exact hR.wd.lt
  · exact hR.kd.lt
  · exact hR.cn.lt
  · exact hR.us.lt
  · exact hR.mp.blk_lt

theorem room_small {s : HS} {n : Nat} (h1 : 1 ≤ n) (h2 : n ≤ 32) : HS.room s n = true ↔ (0 ≤ runInt s 1 ∨ ∃ j, j < (blocksTo s.kind (cls n) s.n).length ∧ (s.cnt ((blocksTo s.kind (cls n) s.n).getD j 0).toNat : Int) < ((32 / cls n : Nat) : Int)) := by
  have hc := cls_is n
  unfold HS.room HS.alloc
  rw [if_neg (by omega), if_neg (by omega), decide_eq_true_eq]
  simp only [Int.toNat_natCast]
  cases hb : s.blk (cls n) with
  | some b =>
    obtain ⟨hbn, hk, ⟨j, hj⟩, _⟩ := HS.blk_some hb
    simp only [true_iff]
    refine .inr ?_
    obtain ⟨i, hi, he⟩ := List.mem_iff_getElem.1 (mem_blocksTo (m := s.n) hbn hk)
    refine ⟨i, hi, ?_⟩
    rw [List.getD_eq_getElem?_getD, List.getElem?_eq_getElem hi, Option.getD_some, he, Int.toNat_natCast]
    have := (HS.slot_isSome hc hk).1 (by rw [hj]; rfl)
    omega
  | none =>
    have hno : ¬ ∃ j, j < (blocksTo s.kind (cls n) s.n).length ∧ (s.cnt ((blocksTo s.kind (cls n) s.n).getD j 0).toNat : Int) < ((32 / cls n : Nat) : Int) := by
      rintro ⟨j, hj, h⟩
      obtain ⟨b, hb1, hb2, hb3⟩ := blocksTo_mem (List.getElem_mem hj)
      rw [List.getD_eq_getElem?_getD, List.getElem?_eq_getElem hj, Option.getD_some, hb1, Int.toNat_natCast] at h
      have h0 := HS.blk_none hb b hb2 hb3
      have := (HS.slot_isSome hc hb3).2 (by omega)
      rw [h0] at this; cases this
    simp only [hno, or_false]
    unfold runInt
    cases s.run 1 with
    | none => simp
    | some b => simp

set_option maxHeartbeats 800000 in
theorem room_any {p : HP} {s : HS} (n : Int) (w : World) (hA : HeapAt w p s) :
    Calls Try.prog 31 #[.pointer (some ⟨p.h, 0, none⟩), .int .i64 n] w fun e w' => e = .returned (.bool (HS.room s n)) ∧ Below w.heap.size w w' := by
  have hlt := hA.lt
  obtain ⟨B, hB⟩ : ∃ B, B = w.heap.size := ⟨_, rfl⟩
  rw [← hB] at hlt ⊢
  have FR : Hid (Fr (fun k => B ≤ k) w w) := Fr.refl _ _
  have HB := Lib.hid hB
  have hAll : Hid (∀ W, Fr (fun k => B ≤ k) w W → HeapAt W p s) := fun W h => hA.fr h fun k hk h2 => by have := hlt k hk; omega
  have hLt : Hid (∀ W, Fr (fun k => B ≤ k) w W → ∀ k, p.mine k → k < W.heap.size) := fun W h k hk => by have := hlt k hk; have := h.size; omega
  have hOut : Hid (∀ W, Fr (fun k => B ≤ k) w W → Below B w W) := fun W h => h.below (by rw [hB]; exact Nat.le_refl _) fun k hk => hk
  have hBs : w.heap.size = B := hB.symm
  clear hlt hA hB
  by_cases hbad : n < 1 ∨ 64 < n
  · have ha : Hid (HS.room s n = false) := by show HS.room s n = false; unfold HS.room HS.alloc; rw [if_pos hbad]; rfl
    rcases hbad with hb | hb
    · go_enter Try.func31, Try.ntmps31
      go_wp2
      go_ret
      rw [ha.out]
      exact ⟨rfl, hOut.out _ (FR.out.alloc _)⟩
    · go_enter Try.func31, Try.ntmps31
      go_wp2
      go_ret
      rw [ha.out]
      exact ⟨rfl, hOut.out _ (FR.out.alloc _)⟩
  · have hn1 : 1 ≤ n := by omega
    have hn2 : n ≤ 64 := by omega
    clear hbad
    by_cases hl : 32 < n
    · have hd : Hid ((n + 32 - 1) / 32 = 2) := by show (n + 32 - 1) / 32 = 2; omega
      have hr : Hid (HS.room s n = decide (0 ≤ runInt s 2)) := by
        show HS.room s n = _
        unfold HS.room HS.alloc runInt
        simp only [show ¬ (n < 1 ∨ 64 < n) by omega, hl, if_true, if_false]
        rw [decide_eq_decide]
        cases s.run 2 with
        | none => simp
        | some b => simp
      rw [hr.out]
      have hrun : Hid (∀ W, Fr (fun k => B ≤ k) w W → Calls Try.prog 64 #[.pointer (some ⟨p.h, 0, none⟩), .int .i64 2] W fun e w' => e = .returned (.int .i64 (runInt s 2)) ∧ W = w') := by
        intro W hW
        obtain ⟨L, clk, cl, hR, _, _, hC, _, hn⟩ := hAll.out W hW
        exact run_any 2 W hR hC hn (by omega) (by omega)
      go_enter Try.func31, Try.ntmps31
      go_wp2_with fail
      rw [hd.out]
      refine (hrun.out _ (FR.out.alloc _)).mono ?_
      rintro e w1 ⟨rfl, rfl⟩
      go_wp2
      go_ret
      exact ⟨rfl, hOut.out _ (FR.out.alloc _)⟩
    · obtain ⟨m, rfl⟩ := Int.eq_ofNat_of_zero_le (show 0 ≤ n by omega)
      have hrs := room_small (s := s) (n := m) (by omega) (by omega)
      obtain ⟨q, hq⟩ : ∃ q, q = HS.room s m := ⟨_, rfl⟩
      rw [← hq] at hrs ⊢
      obtain ⟨R, hRi⟩ : ∃ R, R = runInt s 1 := ⟨_, rfl⟩
      rw [← hRi] at hrs
      have hrun : Hid (∀ W, Fr (fun k => B ≤ k) w W → Calls Try.prog 64 #[.pointer (some ⟨p.h, 0, none⟩), .int .i64 1] W fun e w' => e = .returned (.int .i64 R) ∧ W = w') := by
        intro W hW
        obtain ⟨L, clk, cl, hR, _, _, hC, _, hn⟩ := hAll.out W hW
        rw [hRi]
        exact run_any 1 W hR hC hn (by omega) (by omega)
      have hcls : Hid (∀ W, Fr (fun k => B ≤ k) w W → Calls Try.prog 62 #[.int .i64 m] W fun e w' => e = .returned (.int .i64 (cls m : Nat)) ∧ Fr (fun k => B ≤ k) w w' ∧ Below W.heap.size W w') := by
        intro W hW
        refine (class_any m W (by omega) (by omega)).mono ?_
        rintro e w' ⟨rfl, h⟩
        exact ⟨rfl, hW.trans (Fr.of_below h), h⟩
      have hc := cls_is m
      obtain ⟨c, hce⟩ : ∃ c, c = cls m := ⟨_, rfl⟩
      rw [← hce] at hcls hc hrs
      have HC := Lib.hid hc
      have HRS := Lib.hid hrs
      clear hc hrs hRi hq hce
      have hblocks : Hid (∀ W, Fr (fun k => B ≤ k) w W → Calls Try.prog 71 #[.pointer (some ⟨p.h, 0, none⟩), .int .i64 c] W fun e w' => ∃ v, e = .returned v ∧ IntsAt w' B v (blocksTo s.kind c s.n) ∧ Fr (fun k => B ≤ k) w w' ∧ Below W.heap.size W w') := by
        intro W hW
        obtain ⟨L, clk, cl, hR, _, _, hC, _, hn⟩ := hAll.out W hW
        refine (blocks_raw c W hR hn (hLt.out W hW)).mono ?_
        rintro e w' ⟨v, rfl, h1, h2⟩
        have hs := hW.size
        rw [hBs] at hs
        exact ⟨v, rfl, h1.mono hs, hW.trans (Fr.of_below h2), h2⟩
      have hcont : Hid (∀ W tb tc v, Fr (fun k => B ≤ k) w W → IntsAt W B v (blocksTo s.kind c s.n) → W.cell? ⟨tb, 0, none⟩ = some (.pointer (some ⟨p.h, 0, none⟩)) → W.cell? ⟨tc, 0, none⟩ = some (.int .i64 c) →
          Calls Try.prog 70 #[v, .func (.func 72) #[] #[.pointer (some ⟨tb, 0, none⟩), .pointer (some ⟨tc, 0, none⟩)]] W fun e w' =>
            ∃ r : Bool, e = .returned (.bool r) ∧ (q = true ↔ (0 ≤ R ∨ r = true)) ∧ Fr (fun k => B ≤ k) w w') := by
        intro W tb tc v hW hv ht1 ht2
        obtain ⟨L, clk, cl, hR, _, _, hC, _, hn⟩ := hAll.out W hW
        refine (contains_any B c tb tc v _ W hR HC.out (fun x hx => by obtain ⟨b, h1, h2, _⟩ := blocksTo_mem hx; exact ⟨b, h1, h2⟩) (Nat.le_trans (blocksTo_len _ _ _) hn) hv ht1 ht2).mono ?_
        rintro e w' ⟨r, rfl, h1, h2⟩
        exact ⟨r, rfl, by rw [h1]; exact HRS.out, hW.trans (h2.mono fun k hk => hk.elim)⟩
      go_enter Try.func31, Try.ntmps31
      go_wp2_with fail
      refine (hcls.out _ (FR.out.alloc _)).mono ?_
      rintro e w1 ⟨rfl, hF1, hB1⟩
      have c1 : w1.cell? ⟨B, 0, none⟩ = some (.pointer (some ⟨p.h, 0, none⟩)) := by
        rw [hB1.cell (by simp; omega), ← hBs]; simp
      have s1 : B < w1.heap.size := by have := hB1.size; simp at this; omega
      have s1' : B ≠ w1.heap.size := by omega
      have HF1 := Lib.hid hF1
      clear hF1 hB1
      by_cases hR0 : 0 ≤ R
      · have hq : q = true := HRS.out.2 (.inl hR0)
        subst hq
        go_wp2_with (first
          | (go_at_call 64; refine (hrun.out _ (HF1.out.alloc _)).mono ?_; rintro e w1 ⟨rfl, rfl⟩))
        go_ret
        exact ⟨rfl, hOut.out _ (HF1.out.alloc _)⟩
      · go_wp2_with (first
          | (go_at_call 64; refine (hrun.out _ (HF1.out.alloc _)).mono ?_; rintro e w1 ⟨rfl, rfl⟩))
        refine (hblocks.out _ (HF1.out.alloc _)).mono ?_
        rintro e w3 ⟨v, rfl, hv, hF3, hB3⟩
        have d1 : w3.cell? ⟨B, 0, none⟩ = some (.pointer (some ⟨p.h, 0, none⟩)) := by
          rw [hB3.cell (by show B < _; simp; omega)]; exact ((Fr.refl (fun _ => False) w1).alloc _).cell c1 id
        have d2 : w3.cell? ⟨w1.heap.size, 0, none⟩ = some (.int .i64 c) := by
          rw [hB3.cell (by show w1.heap.size < _; simp)]; simp
        have HC3 : Hid (Calls Try.prog 70 #[v, .func (.func 72) #[] #[.pointer (some ⟨B, 0, none⟩), .pointer (some ⟨w1.heap.size, 0, none⟩)]] w3 fun e w' =>
            ∃ r : Bool, e = .returned (.bool r) ∧ (q = true ↔ (0 ≤ R ∨ r = true)) ∧ Fr (fun k => B ≤ k) w w') := hcont.out w3 _ _ v hF3 hv d1 d2
        clear hv hF3 hB3 d1 d2
        go_wp2_with (first
          | (go_at_call 70; refine HC3.out.mono ?_; rintro e w4 ⟨r, rfl, hr0, hF4⟩; have hr := Lib.hid hr0; clear hr0))
        go_ret
        have hq : q = (decide (0 ≤ R) || r) := by
          have := hr.out
          rw [Bool.eq_iff_iff, this]
          simp
        subst hq
        exact ⟨rfl, hOut.out _ hF4⟩
end Go.Proofs.Ytjfpijoeddjgmaa
