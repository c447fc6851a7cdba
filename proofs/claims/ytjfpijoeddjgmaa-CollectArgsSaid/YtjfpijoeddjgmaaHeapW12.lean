/- The heap: what Room calls. Conditions: the heap's memory reads as the plain model says. -/
import Derived.Test.YtjfpijoeddjgmaaHeapW11
namespace Go.Proofs.Ytjfpijoeddjgmaa
open Go.RowKit Hm
set_option linter.unusedVariables false

theorem room1_any {p : HP} {n : Nat} {wd kd cn : Nat → Int} {us : Nat → Bool} {L : List (Ent Int)} {clk : Nat} {cl : Int} (b c tb tc : Nat) (w : World)
    (hR : Raw w p n wd kd cn us L clk cl) (hb : b < n) (hc : isCls c) (ht : w.cell? ⟨tb, 0, none⟩ = some (.pointer (some ⟨p.h, 0, none⟩))) (ht2 : w.cell? ⟨tc, 0, none⟩ = some (.int .i64 c)) :
    Calls Try.prog 72 #[.int .i64 b, .pointer (some ⟨tb, 0, none⟩), .pointer (some ⟨tc, 0, none⟩)] w fun e w' => e = .returned (.bool (decide (cn b < ((32 / c : Nat) : Int)))) ∧ Fr (fun _ => False) w w' := by
  have h2 : w.cell? ⟨p.h, 2, none⟩ = some (.slice (some ⟨p.cb, 0, none⟩) n n) := hR.st.cell (by omega)
  have hcell := hR.cn.cell hb
  clear hR
  obtain ⟨K, hK⟩ : ∃ K, K = cn b := ⟨_, rfl⟩
  rw [← hK] at hcell ⊢
  clear hK
  rcases hc with rfl | rfl | rfl | rfl | rfl
  all_goals
    go_enter Try.func72, Try.ntmps72
    go_wp2_with fail
    go_quiet (fail)
    go_wp2
    go_ret
    exact ⟨rfl, (Fr.refl _ w).drewN _⟩

def blocksTo (kd : Nat → Int) (c m : Nat) : List Int := ((List.range m).filter (fun b => kd b == (c : Int))).map Int.ofNat
theorem blocksTo_yes {kd : Nat → Int} {c m : Nat} (h : kd m = (c : Int)) : blocksTo kd c (m + 1) = blocksTo kd c m ++ [(m : Int)] := by
  unfold blocksTo; rw [List.range_succ, List.filter_append, List.map_append]; simp [h]
theorem blocksTo_no {kd : Nat → Int} {c m : Nat} (h : kd m ≠ (c : Int)) : blocksTo kd c (m + 1) = blocksTo kd c m := by
  unfold blocksTo; rw [List.range_succ, List.filter_append, List.map_append]; simp [h]
theorem blocksTo_len (kd : Nat → Int) (c m : Nat) : (blocksTo kd c m).length ≤ m := by
  unfold blocksTo; rw [List.length_map]; exact Nat.le_trans (List.length_filter_le _ _) (by simp)
theorem blocksTo_mem {kd : Nat → Int} {c m : Nat} {x : Int} (h : x ∈ blocksTo kd c m) : ∃ b : Nat, x = b ∧ b < m ∧ kd b = c := by
  unfold blocksTo at h
  obtain ⟨b, hb, rfl⟩ := List.mem_map.1 h
  obtain ⟨h1, h2⟩ := List.mem_filter.1 hb
  exact ⟨b, rfl, List.mem_range.1 h1, by simpa using h2⟩
theorem mem_blocksTo {kd : Nat → Int} {c m b : Nat} (h1 : b < m) (h2 : kd b = c) : (b : Int) ∈ blocksTo kd c m :=
  List.mem_map.2 ⟨b, List.mem_filter.2 ⟨List.mem_range.2 h1, by simpa using h2⟩, rfl⟩

set_option maxHeartbeats 400000 in
theorem blocks_raw {p : HP} {n : Nat} {wd kd cn : Nat → Int} {us : Nat → Bool} {L : List (Ent Int)} {clk : Nat} {cl : Int} (c : Nat) (w : World)
    (hR : Raw w p n wd kd cn us L clk cl) (hn : n ≤ 2048) (hp : ∀ k, p.mine k → k < w.heap.size) :
    Calls Try.prog 71 #[.pointer (some ⟨p.h, 0, none⟩), .int .i64 c] w fun e w' => ∃ v, e = .returned v ∧ IntsAt w' w.heap.size v (blocksTo kd c n) ∧ Below w.heap.size w w' := by
  have h1 : w.cell? ⟨p.h, 1, none⟩ = some (.slice (some ⟨p.kb, 0, none⟩) n n) := hR.st.cell (by omega)
  have HU := Lib.hid hR.kd
  have HP := Lib.hid (hp p.kb (by simp [HP.mine]))
  clear hR hp
  obtain ⟨i3, hi, hz0, hz1, hz2⟩ := info_parts info3
  obtain ⟨B, hB⟩ : ∃ B, B = w.heap.size := ⟨_, rfl⟩
  rw [← hB] at HP ⊢
  have HB := Lib.hid hB
  have HW := Lib.hid (Below.refl B w)
  clear hB
  go_enter Try.func71, Try.ntmps71
  go_wp2
  go_loopw [5, 13] (fun v3 v13 wr => ∃ k : Nat, v13 = .int .i64 k ∧ k ≤ n ∧ Hid (IntsAt wr B v3 (blocksTo kd c k) ∧ Below B w wr ∧ B ≤ wr.heap.size)) (fun _ i _ => n - (intOf i).toNat)
  case atStart => exact ⟨0, rfl, by omega, IntsAt.nil _ _, HW.out, by rw [HB.out]; exact Nat.le_refl _⟩
  case round =>
    obtain ⟨k, rfl, hk, hH⟩ := hrel
    by_cases hlt : k < n
    · have hcell : wr.cell? ⟨p.kb, k, none⟩ = some (.int .i64 (kd k)) := ((HU.out.fr (Below.fr' hH.out.2.1) (by have := HP.out; omega)).cell hlt)
      obtain ⟨u, hu⟩ : ∃ u, u = kd k := ⟨_, rfl⟩
      rw [← hu] at hcell
      have HUK := Lib.hid hu
      clear hu
      by_cases hq : u = (c : Int)
      · have hlen := blocksTo_len kd c k
        have hq' : (u == (c : Int)) = true := by simpa using hq
        subst hq
        go_wp2_with (first
          | (at_builtin; refine wpList_append_own _ rfl _ _ 29 rfl B 3 i3 (.int .i64 0) 1 8 Try.underlying29 hi hz0 hz1 hz2 rfl (by decide) _ _ _ rfl (hH.out.1.alloc _) ⟨wr.heap.size, 0, none⟩ 1 1 [.int .i64 k] rfl rfl (cell_one_new _ _ _) (fun u hu => by simp at hu; subst hu; rfl) (by unfold maxLen; omega) (by omega) (by have := hH.out.2.2; simp; omega) ?_))
        intro v' w1 hown' hgrow _
        have HN : Hid (IntsAt w1 B v' (blocksTo kd c (k + 1)) ∧ Below B w w1 ∧ B ≤ w1.heap.size) := by
          refine ⟨?_, below_append hH.out.2.1 hH.out.2.2 hH.out.1 hgrow, ?_⟩
          · rw [blocksTo_yes HUK.out.symm]; exact IntsAt.one hown'
          · have h1 := hgrow.size; have h2 := hH.out.2.2; simp at h1; omega
        clear hown' hgrow
        go_wp2
        go_roundw
        case rel => exact ⟨k + 1, by go_num, by omega, HN⟩
        case measure => simp [intOf]; omega
      · have hq' : (u == (c : Int)) = false := by simpa using hq
        go_wp2
        go_roundw
        case rel => exact ⟨k + 1, by go_num, by omega, by rw [blocksTo_no (by rw [← HUK.out]; exact hq)]; exact hH⟩
        case measure => simp [intOf]; omega
    · have : k = n := by omega
      subst this
      go_wp2
      go_ret
      exact ⟨_, rfl, hH.out.1, hH.out.2.1⟩


theorem Fr.cell {S : Nat → Prop} {w w' : World} (h : Fr S w w') {a : Addr} {v : Value} (hc : w.cell? a = some v) (hn : ¬ S a.block) : w'.cell? a = some v :=
  (World.cell?_of_block (h.block a.block (World.block_lt_of_cell? w a hc) hn)).trans hc

set_option maxHeartbeats 400000 in
theorem index_any {p : HP} {n : Nat} {wd kd cn : Nat → Int} {us : Nat → Bool} {L : List (Ent Int)} {clk : Nat} {cl : Int} (B c tb tc : Nat) (v : Value) (l : List Int) (w : World)
    (hR : Raw w p n wd kd cn us L clk cl) (hc : isCls c) (hl : ∀ x ∈ l, ∃ b : Nat, x = b ∧ b < n) (hll : l.length ≤ 2048) (hv : IntsAt w B v l)
    (ht : w.cell? ⟨tb, 0, none⟩ = some (.pointer (some ⟨p.h, 0, none⟩))) (ht2 : w.cell? ⟨tc, 0, none⟩ = some (.int .i64 c)) :
    Calls Try.prog 92 #[v, .func (.func 72) #[] #[.pointer (some ⟨tb, 0, none⟩), .pointer (some ⟨tc, 0, none⟩)]] w fun e w' =>
      ∃ r : Int, e = .returned (.int .i64 r) ∧ (0 ≤ r ↔ ∃ j, j < l.length ∧ cn (l.getD j 0).toNat < ((32 / c : Nat) : Int)) ∧ Fr (fun _ => False) w w' := by
  rcases hv.form with ⟨rfl, rfl⟩ | ⟨g, cap, rfl, _, hg, hcells⟩
  · clear hR ht ht2 hl hv hc
    go_enter Try.func92, Try.ntmps92
    go_wp2
    go_loopw [8] (fun v8 wr => v8 = .int .i64 0 ∧ wr = w) (fun _ _ => 0)
    case atStart => exact ⟨rfl, rfl⟩
    case round =>
      obtain ⟨rfl, rfl⟩ := hrel
      go_wp2
      go_ret
      exact ⟨_, rfl, by simp, Fr.refl _ _⟩
  · have HR := Lib.hid hR
    have HC := Lib.hid hc
    have HL := Lib.hid hl
    have HT := Lib.hid ht
    have HT2 := Lib.hid ht2
    have HCE := Lib.hid hcells
    have HF := Lib.hid (Fr.refl (fun _ => False) w)
    clear hR ht ht2 hl hv hc hcells
    obtain ⟨m, hm⟩ : ∃ m, m = l.length := ⟨_, rfl⟩
    rw [← hm] at hll HCE ⊢
    have HM := Lib.hid hm
    clear hm
    obtain ⟨R, hRd⟩ : ∃ R : Prop, R = (∃ j, j < m ∧ cn (l.getD j 0).toNat < ((32 / c : Nat) : Int)) := ⟨_, rfl⟩
    rw [← hRd]
    have HRD := Lib.hid hRd
    clear hRd
    go_enter Try.func92, Try.ntmps92
    go_wp2
    go_loopw [8] (fun v8 wr => ∃ k : Nat, v8 = .int .i64 k ∧ k ≤ m ∧ Hid (Fr (fun _ => False) w wr ∧ ∀ j, j < k → ¬ cn (l.getD j 0).toNat < ((32 / c : Nat) : Int))) (fun i _ => m - (intOf i).toNat)
    case atStart => exact ⟨0, rfl, by omega, HF.out, fun j hj => by omega⟩
    case round =>
      obtain ⟨k, rfl, hk, hH⟩ := hrel
      by_cases hlt : k < m
      · have hcell : wr.cell? ⟨g, k, none⟩ = some (.int .i64 (l.getD k 0)) := hH.out.1.cell (HCE.out k hlt) id
        obtain ⟨b, hb, hbn⟩ := HL.out (l.getD k 0) (by rw [List.getD_eq_getElem?_getD, List.getElem?_eq_getElem (by rw [← HM.out]; exact hlt)]; exact List.getElem_mem _)
        rw [hb] at hcell
        have HB := Lib.hid hb
        clear hb
        obtain ⟨q, hq⟩ : ∃ q, q = decide (cn b < ((32 / c : Nat) : Int)) := ⟨_, rfl⟩
        have hcall := room1_any b c tb tc wr (HR.out.fr hH.out.1 fun _ _ => id) hbn HC.out (hH.out.1.cell HT.out id) (hH.out.1.cell HT2.out id)
        rw [← hq] at hcall
        have HCALL := Lib.hid hcall
        have HQ := Lib.hid hq
        clear hcall hq
        cases q
        · go_wp2_with (first | (go_at_call 72; refine HCALL.out.mono ?_; rintro e w2 ⟨rfl, hfr⟩))
          have hfr := (by assumption : Fr (fun _ => False) wr _)
          go_roundw
          case rel =>
            refine ⟨k + 1, by go_num, by omega, hH.out.1.trans hfr, fun j hj => ?_⟩
            rcases Nat.lt_succ_iff_lt_or_eq.1 hj with h | rfl
            · exact Int.not_lt.2 (hH.out.2 j h)
            · rw [HB.out]; exact of_decide_eq_false HQ.out.symm
          case measure => simp [intOf]; omega
        · go_wp2_with (first | (go_at_call 72; refine HCALL.out.mono ?_; rintro e w2 ⟨rfl, hfr⟩))
          have hfr := (by assumption : Fr (fun _ => False) wr _)
          go_ret
          refine ⟨_, rfl, ⟨fun _ => ?_, fun _ => by omega⟩, hH.out.1.trans hfr⟩
          rw [HRD.out]
          refine ⟨k, hlt, ?_⟩
          rw [HB.out]; exact of_decide_eq_true HQ.out.symm
      · have : k = m := by omega
        subst this
        go_wp2
        go_ret
        exact ⟨_, rfl, ⟨fun h => by omega, fun h => by rw [HRD.out] at h; obtain ⟨j, hj, h⟩ := h; exact absurd h (Int.not_lt.2 (hH.out.2 j hj))⟩, hH.out.1⟩

theorem contains_any {p : HP} {n : Nat} {wd kd cn : Nat → Int} {us : Nat → Bool} {L : List (Ent Int)} {clk : Nat} {cl : Int} (B c tb tc : Nat) (v : Value) (l : List Int) (w : World)
    (hR : Raw w p n wd kd cn us L clk cl) (hc : isCls c) (hl : ∀ x ∈ l, ∃ b : Nat, x = b ∧ b < n) (hll : l.length ≤ 2048) (hv : IntsAt w B v l)
    (ht : w.cell? ⟨tb, 0, none⟩ = some (.pointer (some ⟨p.h, 0, none⟩))) (ht2 : w.cell? ⟨tc, 0, none⟩ = some (.int .i64 c)) :
    Calls Try.prog 70 #[v, .func (.func 72) #[] #[.pointer (some ⟨tb, 0, none⟩), .pointer (some ⟨tc, 0, none⟩)]] w fun e w' =>
      ∃ r : Bool, e = .returned (.bool r) ∧ (r = true ↔ ∃ j, j < l.length ∧ cn (l.getD j 0).toNat < ((32 / c : Nat) : Int)) ∧ Fr (fun _ => False) w w' := by
  obtain ⟨R, hRd⟩ : ∃ R : Prop, R = (∃ j, j < l.length ∧ cn (l.getD j 0).toNat < ((32 / c : Nat) : Int)) := ⟨_, rfl⟩
  have h := index_any B c tb tc v l w hR hc hl hll hv ht ht2
  rw [← hRd] at h ⊢
  have H := Lib.hid h
  clear h hR hc hl hll hv ht ht2 hRd
  go_enter Try.func70, Try.ntmps70
  go_wp2_with (first | (go_at_call 92; refine H.out.mono ?_; rintro e w2 ⟨r, rfl, hr0, hfr⟩; have hr := Lib.hid hr0; clear hr0))
  go_ret
  exact ⟨_, rfl, by rw [← hr.out]; simp, hfr⟩
end Go.Proofs.Ytjfpijoeddjgmaa
