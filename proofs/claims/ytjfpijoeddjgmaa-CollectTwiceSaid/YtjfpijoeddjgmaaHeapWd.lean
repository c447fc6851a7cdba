/- HeapW11, HeapW12, HeapW13 in one text. Conditions: as each says. -/
import Derived.Test.YtjfpijoeddjgmaaHeapWc
import Derived.Maps.AppendAt
import Derived.Deep.AppendLies
/- The heap: Cells. Conditions: the heap's memory reads as the plain model says. -/
namespace Go.Proofs.Ytjfpijoeddjgmaa
open Go.RowKit Hm
set_option linter.unusedVariables false

/-- A slice of ints that the call has made, from a block number on. -/
def IntsAt (w : World) (B : Nat) (v : Value) (l : List Int) : Prop := w.ownsRow B 3 1 v l.length (l.map (Value.int .i64))
theorem IntsAt.nil (w : World) (B : Nat) : IntsAt w B (.slice none 0 0) [] := World.ownsRow_nil _ _ _ _
theorem IntsAt.fr {S : Nat → Prop} {a w : World} {B : Nat} {v : Value} {l : List Int} (h : IntsAt a B v l) (hf : Fr S a w) (hn : ∀ k, v.ownBlock = some k → ¬ S k) : IntsAt w B v l := hf.owns h hn
theorem IntsAt.mono {w : World} {B B' : Nat} {v : Value} {l : List Int} (h : IntsAt w B v l) (hb : B' ≤ B) : IntsAt w B' v l := ⟨h.1, h.2.imp id fun ⟨g, cap, cur, h1, h2, h3⟩ => ⟨g, cap, cur, h1, Nat.le_trans hb h2, h3⟩⟩
theorem IntsAt.lt {w : World} {B : Nat} {v : Value} {l : List Int} (h : IntsAt w B v l) : ∀ k, v.ownBlock = some k → B ≤ k ∧ k < w.heap.size := World.ownsRow.lt h
theorem IntsAt.form {w : World} {B : Nat} {v : Value} {l : List Int} (h : IntsAt w B v l) :
    (v = .slice none 0 0 ∧ l = []) ∨ ∃ g cap, v = .slice (some ⟨g, 0, none⟩) l.length cap ∧ B ≤ g ∧ g < w.heap.size ∧ (∀ j, j < l.length → w.cell? ⟨g, j, none⟩ = some (.int .i64 (l.getD j 0))) := by
  rcases h.2 with ⟨h1, h2⟩ | ⟨g, cap, cur, hv, hb, hg, r⟩
  · exact .inl ⟨h1, List.eq_nil_of_length_eq_zero h2⟩
  · refine .inr ⟨g, cap, hv, hb, (Array.getElem?_eq_some_iff.1 hg).1, fun j hj => ?_⟩
    have := h.cells (g := g) (by rw [hv]; rfl) j (.int .i64 (l.getD j 0)) (by simp [hj])
    rw [show (⟨g, j, none⟩ : Addr) = (⟨g, 0, none⟩ : Addr).add j by simp only [Addr.add]; split <;> simp_all]
    exact this
theorem IntsAt.one {w' : World} {B : Nat} {v' : Value} {l : List Int} {x : Int} (h : w'.ownsRow B 3 1 v' (l.length + 1) (l.map (Value.int .i64) ++ [.int .i64 x])) : IntsAt w' B v' (l ++ [x]) := by
  unfold IntsAt
  rw [List.map_append, List.length_append]
  exact h
/-- Behind an append of one: what may have turned lies from the first on. -/
theorem below_append {w w1 : World} {v : Value} {B : Nat} {l : List Int} {o : Obj} {w0 : World} (hb : Below B w0 w) (hB : B ≤ w.heap.size) (ho : IntsAt w B v l) (hg : (w.alloc o).grownBy w1 v.ownBlock) : Below B w0 w1 := by
  have h1 : Below B w w1 := ((Fr.refl (fun k => B ≤ k) w).alloc o |>.trans (Fr.of_grown hg fun k hk => (ho.lt k hk).1)).below hB fun k hk => hk
  exact hb.trans h1

theorem Below.fr' {a w : World} {B : Nat} (h : Below B a w) : Fr (fun k => B ≤ k) a w := ⟨h.os, h.tape, h.output, h.size, fun k _ hk => h.block k (by omega)⟩

def cellsTo (us : Nat → Bool) (m : Nat) : List Int := ((List.range m).filter us).map Int.ofNat
theorem cellsTo_yes {us : Nat → Bool} {m : Nat} (h : us m = true) : cellsTo us (m + 1) = cellsTo us m ++ [(m : Int)] := by
  unfold cellsTo; rw [List.range_succ, List.filter_append, List.map_append]; simp [h]
theorem cellsTo_no {us : Nat → Bool} {m : Nat} (h : us m = false) : cellsTo us (m + 1) = cellsTo us m := by
  unfold cellsTo; rw [List.range_succ, List.filter_append, List.map_append]; simp [h]
theorem cellsTo_len (us : Nat → Bool) (m : Nat) : (cellsTo us m).length ≤ m := by
  unfold cellsTo; rw [List.length_map]; exact Nat.le_trans (List.length_filter_le _ _) (by simp)

set_option maxHeartbeats 400000 in
theorem cells_raw {p : HP} {n : Nat} {wd kd cn : Nat → Int} {us : Nat → Bool} {L : List (Ent Int)} {clk : Nat} {cl : Int} (w : World)
    (hR : Raw w p n wd kd cn us L clk cl) (hn : n ≤ 2048) (hp : ∀ k, p.mine k → k < w.heap.size) :
    Calls Try.prog 26 #[.pointer (some ⟨p.h, 0, none⟩)] w fun e w' => ∃ v, e = .returned v ∧ IntsAt w' w.heap.size v (cellsTo us (1 + 32 * n)) ∧ Below w.heap.size w w' := by
  have h3 : w.cell? ⟨p.h, 3, none⟩ = some (.slice (some ⟨p.ub, 0, none⟩) (1 + 32 * n : Nat) (1 + 32 * n : Nat)) := hR.st.cell (by omega)
  have HU := Lib.hid hR.us
  have HP := Lib.hid (hp p.ub (by simp [HP.mine]))
  clear hR hp
  obtain ⟨m, hm⟩ : ∃ m, m = 1 + 32 * n := ⟨_, rfl⟩
  rw [← hm] at h3 HU ⊢
  have hm2 : m ≤ 65537 := by omega
  clear hm
  obtain ⟨i3, hi, hz0, hz1, hz2⟩ := info_parts info3
  obtain ⟨B, hB⟩ : ∃ B, B = w.heap.size := ⟨_, rfl⟩
  rw [← hB] at HP ⊢
  have HB := Lib.hid hB
  have HW := Lib.hid (Below.refl B w)
  clear hB
  go_enter Try.func26, Try.ntmps26
  go_wp2
  go_loopw [3, 13] (fun v3 v13 wr => ∃ k : Nat, v13 = .int .i64 k ∧ k ≤ m ∧ Hid (IntsAt wr B v3 (cellsTo us k) ∧ Below B w wr ∧ B ≤ wr.heap.size)) (fun _ i _ => m - (intOf i).toNat)
  case atStart => exact ⟨0, rfl, by omega, IntsAt.nil _ _, HW.out, by rw [HB.out]; exact Nat.le_refl _⟩
  case round =>
    obtain ⟨k, rfl, hk, hH⟩ := hrel
    by_cases hlt : k < m
    · have hcell : wr.cell? ⟨p.ub, k, none⟩ = some (.bool (us k)) := ((HU.out.fr (Below.fr' hH.out.2.1) (by have := HP.out; omega)).cell hlt)
      obtain ⟨u, hu⟩ : ∃ u, u = us k := ⟨_, rfl⟩
      rw [← hu] at hcell
      have HUK := Lib.hid hu
      clear hu
      cases u
      · go_wp2
        go_roundw
        case rel => exact ⟨k + 1, by go_num, by omega, by rw [cellsTo_no HUK.out.symm]; exact hH⟩
        case measure => simp [intOf]; omega
      · have hlen := cellsTo_len us k
        go_wp2_with (first
          | (at_builtin; refine wpList_append_own _ rfl _ _ 29 rfl B 3 i3 (.int .i64 0) 1 8 Try.underlying29 hi hz0 hz1 hz2 rfl (by decide) _ _ _ rfl (hH.out.1.alloc _) ⟨wr.heap.size, 0, none⟩ 1 1 [.int .i64 k] rfl rfl (cell_one_new _ _ _) (fun u hu => by simp at hu; subst hu; rfl) (by unfold maxLen; omega) (by omega) (by have := hH.out.2.2; simp; omega) ?_))
        intro v' w1 hown' hgrow _
        have HN : Hid (IntsAt w1 B v' (cellsTo us (k + 1)) ∧ Below B w w1 ∧ B ≤ w1.heap.size) := by
          refine ⟨?_, below_append hH.out.2.1 hH.out.2.2 hH.out.1 hgrow, ?_⟩
          · rw [cellsTo_yes HUK.out.symm]; exact IntsAt.one hown'
          · have h1 := hgrow.size; have h2 := hH.out.2.2; simp at h1; omega
        clear hown' hgrow
        go_wp2
        go_roundw
        case rel => exact ⟨k + 1, by go_num, by omega, HN⟩
        case measure => simp [intOf]; omega
    · have : k = m := by omega
      subst this
      go_wp2
      go_ret
      exact ⟨_, rfl, hH.out.1, hH.out.2.1⟩
end Go.Proofs.Ytjfpijoeddjgmaa

/- The heap: what Room calls. Conditions: the heap's memory reads as the plain model says. -/
namespace Go.Proofs.Ytjfpijoeddjgmaa
open Go.RowKit Hm
set_option linter.unusedVariables false

theorem room1_any {p : HP} {n : Nat} {wd kd cn : Nat → Int} {us : Nat → Bool} {L : List (Ent Int)} {clk : Nat} {cl : Int} (b c tb tc : Nat) (w : World)
    (hR : Raw w p n wd kd cn us L clk cl) (hb : b < n) (hc : isCls c) (ht : w.cell? ⟨tb, 0, none⟩ = some (.pointer (some ⟨p.h, 0, none⟩))) (ht2 : w.cell? ⟨tc, 0, none⟩ = some (.int .i64 c)) :
    Calls Try.prog 72 #[.int .i64 b, .pointer (some ⟨tb, 0, none⟩), .pointer (some ⟨tc, 0, none⟩)] w fun e w' => e = .returned (.bool (decide (cn b < ((32 / c : Nat) : Int)))) ∧ Fr (fun _ => False) w w' := by
  have h2 : w.cell? ⟨p.h, 2, none⟩ = some (.slice (some ⟨p.cb, 0, none⟩) n n) := hR.st.cell (by omega)
  have hcell := hR.cn.cell hb
  clear hR
  obtain ⟨K, hK⟩ : ∃ K, K = cn b := ⟨_, rfl⟩
  rw [← hK] at hcell ⊢
  clear hK
  rcases hc with rfl | rfl | rfl | rfl | rfl
  all_goals
    go_enter Try.func72, Try.ntmps72
    go_wp2_with fail
    go_quiet (fail)
    go_wp2
    go_ret
    exact ⟨rfl, (Fr.refl _ w).drewN _⟩

def blocksTo (kd : Nat → Int) (c m : Nat) : List Int := ((List.range m).filter (fun b => kd b == (c : Int))).map Int.ofNat
theorem blocksTo_yes {kd : Nat → Int} {c m : Nat} (h : kd m = (c : Int)) : blocksTo kd c (m + 1) = blocksTo kd c m ++ [(m : Int)] := by
  unfold blocksTo; rw [List.range_succ, List.filter_append, List.map_append]; simp [h]
theorem blocksTo_no {kd : Nat → Int} {c m : Nat} (h : kd m ≠ (c : Int)) : blocksTo kd c (m + 1) = blocksTo kd c m := by
  unfold blocksTo; rw [List.range_succ, List.filter_append, List.map_append]; simp [h]
theorem blocksTo_len (kd : Nat → Int) (c m : Nat) : (blocksTo kd c m).length ≤ m := by
  unfold blocksTo; rw [List.length_map]; exact Nat.le_trans (List.length_filter_le _ _) (by simp)
theorem blocksTo_mem {kd : Nat → Int} {c m : Nat} {x : Int} (h : x ∈ blocksTo kd c m) : ∃ b : Nat, x = b ∧ b < m ∧ kd b = c := by
  unfold blocksTo at h
  obtain ⟨b, hb, rfl⟩ := List.mem_map.1 h
  obtain ⟨h1, h2⟩ := List.mem_filter.1 hb
  exact ⟨b, rfl, List.mem_range.1 h1, by simpa using h2⟩
theorem mem_blocksTo {kd : Nat → Int} {c m b : Nat} (h1 : b < m) (h2 : kd b = c) : (b : Int) ∈ blocksTo kd c m :=
  List.mem_map.2 ⟨b, List.mem_filter.2 ⟨List.mem_range.2 h1, by simpa using h2⟩, rfl⟩

set_option maxHeartbeats 400000 in
theorem blocks_raw {p : HP} {n : Nat} {wd kd cn : Nat → Int} {us : Nat → Bool} {L : List (Ent Int)} {clk : Nat} {cl : Int} (c : Nat) (w : World)
    (hR : Raw w p n wd kd cn us L clk cl) (hn : n ≤ 2048) (hp : ∀ k, p.mine k → k < w.heap.size) :
    Calls Try.prog 71 #[.pointer (some ⟨p.h, 0, none⟩), .int .i64 c] w fun e w' => ∃ v, e = .returned v ∧ IntsAt w' w.heap.size v (blocksTo kd c n) ∧ Below w.heap.size w w' := by
  have h1 : w.cell? ⟨p.h, 1, none⟩ = some (.slice (some ⟨p.kb, 0, none⟩) n n) := hR.st.cell (by omega)
  have HU := Lib.hid hR.kd
  have HP := Lib.hid (hp p.kb (by simp [HP.mine]))
  clear hR hp
  obtain ⟨i3, hi, hz0, hz1, hz2⟩ := info_parts info3
  obtain ⟨B, hB⟩ : ∃ B, B = w.heap.size := ⟨_, rfl⟩
  rw [← hB] at HP ⊢
  have HB := Lib.hid hB
  have HW := Lib.hid (Below.refl B w)
  clear hB
  go_enter Try.func71, Try.ntmps71
  go_wp2
  go_loopw [5, 13] (fun v3 v13 wr => ∃ k : Nat, v13 = .int .i64 k ∧ k ≤ n ∧ Hid (IntsAt wr B v3 (blocksTo kd c k) ∧ Below B w wr ∧ B ≤ wr.heap.size)) (fun _ i _ => n - (intOf i).toNat)
  case atStart => exact ⟨0, rfl, by omega, IntsAt.nil _ _, HW.out, by rw [HB.out]; exact Nat.le_refl _⟩
  case round =>
    obtain ⟨k, rfl, hk, hH⟩ := hrel
    by_cases hlt : k < n
    · have hcell : wr.cell? ⟨p.kb, k, none⟩ = some (.int .i64 (kd k)) := ((HU.out.fr (Below.fr' hH.out.2.1) (by have := HP.out; omega)).cell hlt)
      obtain ⟨u, hu⟩ : ∃ u, u = kd k := ⟨_, rfl⟩
      rw [← hu] at hcell
      have HUK := Lib.hid hu
      clear hu
      by_cases hq : u = (c : Int)
      · have hlen := blocksTo_len kd c k
        have hq' : (u == (c : Int)) = true := by simpa using hq
        subst hq
        go_wp2_with (first
          | (at_builtin; refine wpList_append_own _ rfl _ _ 29 rfl B 3 i3 (.int .i64 0) 1 8 Try.underlying29 hi hz0 hz1 hz2 rfl (by decide) _ _ _ rfl (hH.out.1.alloc _) ⟨wr.heap.size, 0, none⟩ 1 1 [.int .i64 k] rfl rfl (cell_one_new _ _ _) (fun u hu => by simp at hu; subst hu; rfl) (by unfold maxLen; omega) (by omega) (by have := hH.out.2.2; simp; omega) ?_))
        intro v' w1 hown' hgrow _
        have HN : Hid (IntsAt w1 B v' (blocksTo kd c (k + 1)) ∧ Below B w w1 ∧ B ≤ w1.heap.size) := by
          refine ⟨?_, below_append hH.out.2.1 hH.out.2.2 hH.out.1 hgrow, ?_⟩
          · rw [blocksTo_yes HUK.out.symm]; exact IntsAt.one hown'
          · have h1 := hgrow.size; have h2 := hH.out.2.2; simp at h1; omega
        clear hown' hgrow
        go_wp2
        go_roundw
        case rel => exact ⟨k + 1, by go_num, by omega, HN⟩
        case measure => simp [intOf]; omega
      · have hq' : (u == (c : Int)) = false := by simpa using hq
        go_wp2
        go_roundw
        case rel => exact ⟨k + 1, by go_num, by omega, by rw [blocksTo_no (by rw [← HUK.out]; exact hq)]; exact hH⟩
        case measure => simp [intOf]; omega
    · have : k = n := by omega
      subst this
      go_wp2
      go_ret
      exact ⟨_, rfl, hH.out.1, hH.out.2.1⟩


theorem Fr.cell {S : Nat → Prop} {w w' : World} (h : Fr S w w') {a : Addr} {v : Value} (hc : w.cell? a = some v) (hn : ¬ S a.block) : w'.cell? a = some v :=
  (World.cell?_of_block (h.block a.block (World.block_lt_of_cell? w a hc) hn)).trans hc

set_option maxHeartbeats 400000 in
theorem index_any {p : HP} {n : Nat} {wd kd cn : Nat → Int} {us : Nat → Bool} {L : List (Ent Int)} {clk : Nat} {cl : Int} (B c tb tc : Nat) (v : Value) (l : List Int) (w : World)
    (hR : Raw w p n wd kd cn us L clk cl) (hc : isCls c) (hl : ∀ x ∈ l, ∃ b : Nat, x = b ∧ b < n) (hll : l.length ≤ 2048) (hv : IntsAt w B v l)
    (ht : w.cell? ⟨tb, 0, none⟩ = some (.pointer (some ⟨p.h, 0, none⟩))) (ht2 : w.cell? ⟨tc, 0, none⟩ = some (.int .i64 c)) :
    Calls Try.prog 92 #[v, .func (.func 72) #[] #[.pointer (some ⟨tb, 0, none⟩), .pointer (some ⟨tc, 0, none⟩)]] w fun e w' =>
      ∃ r : Int, e = .returned (.int .i64 r) ∧ (0 ≤ r ↔ ∃ j, j < l.length ∧ cn (l.getD j 0).toNat < ((32 / c : Nat) : Int)) ∧ Fr (fun _ => False) w w' := by
  rcases hv.form with ⟨rfl, rfl⟩ | ⟨g, cap, rfl, _, hg, hcells⟩
  · clear hR ht ht2 hl hv hc
    go_enter Try.func92, Try.ntmps92
    go_wp2
    go_loopw [8] (fun v8 wr => v8 = .int .i64 0 ∧ wr = w) (fun _ _ => 0)
    case atStart => exact ⟨rfl, rfl⟩
    case round =>
      obtain ⟨rfl, rfl⟩ := hrel
      go_wp2
      go_ret
      exact ⟨_, rfl, by simp, Fr.refl _ _⟩
  · have HR := Lib.hid hR
    have HC := Lib.hid hc
    have HL := Lib.hid hl
    have HT := Lib.hid ht
    have HT2 := Lib.hid ht2
    have HCE := Lib.hid hcells
    have HF := Lib.hid (Fr.refl (fun _ => False) w)
    clear hR ht ht2 hl hv hc hcells
    obtain ⟨m, hm⟩ : ∃ m, m = l.length := ⟨_, rfl⟩
    rw [← hm] at hll HCE ⊢
    have HM := Lib.hid hm
    clear hm
    obtain ⟨R, hRd⟩ : ∃ R : Prop, R = (∃ j, j < m ∧ cn (l.getD j 0).toNat < ((32 / c : Nat) : Int)) := ⟨_, rfl⟩
    rw [← hRd]
    have HRD := Lib.hid hRd
    clear hRd
    go_enter Try.func92, Try.ntmps92
    go_wp2
    go_loopw [8] (fun v8 wr => ∃ k : Nat, v8 = .int .i64 k ∧ k ≤ m ∧ Hid (Fr (fun _ => False) w wr ∧ ∀ j, j < k → ¬ cn (l.getD j 0).toNat < ((32 / c : Nat) : Int))) (fun i _ => m - (intOf i).toNat)
    case atStart => exact ⟨0, rfl, by omega, HF.out, fun j hj => by omega⟩
    case round =>
      obtain ⟨k, rfl, hk, hH⟩ := hrel
      by_cases hlt : k < m
      · have hcell : wr.cell? ⟨g, k, none⟩ = some (.int .i64 (l.getD k 0)) := hH.out.1.cell (HCE.out k hlt) id
        obtain ⟨b, hb, hbn⟩ := HL.out (l.getD k 0) (by rw [List.getD_eq_getElem?_getD, List.getElem?_eq_getElem (by rw [← HM.out]; exact hlt)]; exact List.getElem_mem _)
        rw [hb] at hcell
        have HB := Lib.hid hb
        clear hb
        obtain ⟨q, hq⟩ : ∃ q, q = decide (cn b < ((32 / c : Nat) : Int)) := ⟨_, rfl⟩
        have hcall := room1_any b c tb tc wr (HR.out.fr hH.out.1 fun _ _ => id) hbn HC.out (hH.out.1.cell HT.out id) (hH.out.1.cell HT2.out id)
        rw [← hq] at hcall
        have HCALL := Lib.hid hcall
        have HQ := Lib.hid hq
        clear hcall hq
        cases q
        · go_wp2_with (first | (go_at_call 72; refine HCALL.out.mono ?_; rintro e w2 ⟨rfl, hfr⟩))
          have hfr := (by assumption : Fr (fun _ => False) wr _)
          go_roundw
          case rel =>
            refine ⟨k + 1, by go_num, by omega, hH.out.1.trans hfr, fun j hj => ?_⟩
            rcases Nat.lt_succ_iff_lt_or_eq.1 hj with h | rfl
            · exact Int.not_lt.2 (hH.out.2 j h)
            · rw [HB.out]; exact of_decide_eq_false HQ.out.symm
          case measure => simp [intOf]; omega
        · go_wp2_with (first | (go_at_call 72; refine HCALL.out.mono ?_; rintro e w2 ⟨rfl, hfr⟩))
          have hfr := (by assumption : Fr (fun _ => False) wr _)
          go_ret
          refine ⟨_, rfl, ⟨fun _ => ?_, fun _ => by omega⟩, hH.out.1.trans hfr⟩
          rw [HRD.out]
          refine ⟨k, hlt, ?_⟩
          rw [HB.out]; exact of_decide_eq_true HQ.out.symm
      · have : k = m := by omega
        subst this
        go_wp2
        go_ret
        exact ⟨_, rfl, ⟨fun h => by omega, fun h => by rw [HRD.out] at h; obtain ⟨j, hj, h⟩ := h; exact absurd h (Int.not_lt.2 (hH.out.2 j hj))⟩, hH.out.1⟩

theorem contains_any {p : HP} {n : Nat} {wd kd cn : Nat → Int} {us : Nat → Bool} {L : List (Ent Int)} {clk : Nat} {cl : Int} (B c tb tc : Nat) (v : Value) (l : List Int) (w : World)
    (hR : Raw w p n wd kd cn us L clk cl) (hc : isCls c) (hl : ∀ x ∈ l, ∃ b : Nat, x = b ∧ b < n) (hll : l.length ≤ 2048) (hv : IntsAt w B v l)
    (ht : w.cell? ⟨tb, 0, none⟩ = some (.pointer (some ⟨p.h, 0, none⟩))) (ht2 : w.cell? ⟨tc, 0, none⟩ = some (.int .i64 c)) :
    Calls Try.prog 70 #[v, .func (.func 72) #[] #[.pointer (some ⟨tb, 0, none⟩), .pointer (some ⟨tc, 0, none⟩)]] w fun e w' =>
      ∃ r : Bool, e = .returned (.bool r) ∧ (r = true ↔ ∃ j, j < l.length ∧ cn (l.getD j 0).toNat < ((32 / c : Nat) : Int)) ∧ Fr (fun _ => False) w w' := by
  obtain ⟨R, hRd⟩ : ∃ R : Prop, R = (∃ j, j < l.length ∧ cn (l.getD j 0).toNat < ((32 / c : Nat) : Int)) := ⟨_, rfl⟩
  have h := index_any B c tb tc v l w hR hc hl hll hv ht ht2
  rw [← hRd] at h ⊢
  have H := Lib.hid h
  clear h hR hc hl hll hv ht ht2 hRd
  go_enter Try.func70, Try.ntmps70
  go_wp2_with (first | (go_at_call 92; refine H.out.mono ?_; rintro e w2 ⟨r, rfl, hr0, hfr⟩; have hr := Lib.hid hr0; clear hr0))
  go_ret
  exact ⟨_, rfl, by rw [← hr.out]; simp, hfr⟩
end Go.Proofs.Ytjfpijoeddjgmaa

/- The heap: Room. Conditions: the heap's memory reads as the plain model says. -/
namespace Go.Proofs.Ytjfpijoeddjgmaa
open Go.RowKit Hm
set_option linter.unusedVariables false

def HS.room (s : HS) (n : Int) : Bool := decide ((s.alloc n).2.1 = 0)

theorem HeapAt.lt {w : World} {p : HP} {s : HS} (h : HeapAt w p s) : ∀ k, p.mine k → k < w.heap.size := by
  obtain ⟨L, clk, cl, hR, _⟩ := h
  rintro k (rfl | rfl | rfl | rfl | rfl | rfl)
  · exact hR.st.lt
  · exact hR.wd.lt
  · exact hR.kd.lt
  · exact hR.cn.lt
  · exact hR.us.lt
  · exact hR.mp.blk_lt

theorem room_small {s : HS} {n : Nat} (h1 : 1 ≤ n) (h2 : n ≤ 32) : HS.room s n = true ↔ (0 ≤ runInt s 1 ∨ ∃ j, j < (blocksTo s.kind (cls n) s.n).length ∧ (s.cnt ((blocksTo s.kind (cls n) s.n).getD j 0).toNat : Int) < ((32 / cls n : Nat) : Int)) := by
  have hc := cls_is n
  unfold HS.room HS.alloc
  rw [if_neg (by omega), if_neg (by omega), decide_eq_true_eq]
  simp only [Int.toNat_natCast]
  cases hb : s.blk (cls n) with
  | some b =>
    obtain ⟨hbn, hk, ⟨j, hj⟩, _⟩ := HS.blk_some hb
    simp only [true_iff]
    refine .inr ?_
    obtain ⟨i, hi, he⟩ := List.mem_iff_getElem.1 (mem_blocksTo (m := s.n) hbn hk)
    refine ⟨i, hi, ?_⟩
    rw [List.getD_eq_getElem?_getD, List.getElem?_eq_getElem hi, Option.getD_some, he, Int.toNat_natCast]
    have := (HS.slot_isSome hc hk).1 (by rw [hj]; rfl)
    omega
  | none =>
    have hno : ¬ ∃ j, j < (blocksTo s.kind (cls n) s.n).length ∧ (s.cnt ((blocksTo s.kind (cls n) s.n).getD j 0).toNat : Int) < ((32 / cls n : Nat) : Int) := by
      rintro ⟨j, hj, h⟩
      obtain ⟨b, hb1, hb2, hb3⟩ := blocksTo_mem (List.getElem_mem hj)
      rw [List.getD_eq_getElem?_getD, List.getElem?_eq_getElem hj, Option.getD_some, hb1, Int.toNat_natCast] at h
      have h0 := HS.blk_none hb b hb2 hb3
      have := (HS.slot_isSome hc hb3).2 (by omega)
      rw [h0] at this; cases this
    simp only [hno, or_false]
    unfold runInt
    cases s.run 1 with
    | none => simp
    | some b => simp

set_option maxHeartbeats 800000 in
theorem room_any {p : HP} {s : HS} (n : Int) (w : World) (hA : HeapAt w p s) :
    Calls Try.prog 31 #[.pointer (some ⟨p.h, 0, none⟩), .int .i64 n] w fun e w' => e = .returned (.bool (HS.room s n)) ∧ Below w.heap.size w w' := by
  have hlt := hA.lt
  obtain ⟨B, hB⟩ : ∃ B, B = w.heap.size := ⟨_, rfl⟩
  rw [← hB] at hlt ⊢
  have FR : Hid (Fr (fun k => B ≤ k) w w) := Fr.refl _ _
  have HB := Lib.hid hB
  have hAll : Hid (∀ W, Fr (fun k => B ≤ k) w W → HeapAt W p s) := fun W h => hA.fr h fun k hk h2 => by have := hlt k hk; omega
  have hLt : Hid (∀ W, Fr (fun k => B ≤ k) w W → ∀ k, p.mine k → k < W.heap.size) := fun W h k hk => by have := hlt k hk; have := h.size; omega
  have hOut : Hid (∀ W, Fr (fun k => B ≤ k) w W → Below B w W) := fun W h => h.below (by rw [hB]; exact Nat.le_refl _) fun k hk => hk
  have hBs : w.heap.size = B := hB.symm
  clear hlt hA hB
  by_cases hbad : n < 1 ∨ 64 < n
  · have ha : Hid (HS.room s n = false) := by show HS.room s n = false; unfold HS.room HS.alloc; rw [if_pos hbad]; rfl
    rcases hbad with hb | hb
    · go_enter Try.func31, Try.ntmps31
      go_wp2
      go_ret
      rw [ha.out]
      exact ⟨rfl, hOut.out _ (FR.out.alloc _)⟩
    · go_enter Try.func31, Try.ntmps31
      go_wp2
      go_ret
      rw [ha.out]
      exact ⟨rfl, hOut.out _ (FR.out.alloc _)⟩
  · have hn1 : 1 ≤ n := by omega
    have hn2 : n ≤ 64 := by omega
    clear hbad
    by_cases hl : 32 < n
    · have hd : Hid ((n + 32 - 1) / 32 = 2) := by show (n + 32 - 1) / 32 = 2; omega
      have hr : Hid (HS.room s n = decide (0 ≤ runInt s 2)) := by
        show HS.room s n = _
        unfold HS.room HS.alloc runInt
        simp only [show ¬ (n < 1 ∨ 64 < n) by omega, hl, if_true, if_false]
        rw [decide_eq_decide]
        cases s.run 2 with
        | none => simp
        | some b => simp
      rw [hr.out]
      have hrun : Hid (∀ W, Fr (fun k => B ≤ k) w W → Calls Try.prog 64 #[.pointer (some ⟨p.h, 0, none⟩), .int .i64 2] W fun e w' => e = .returned (.int .i64 (runInt s 2)) ∧ W = w') := by
        intro W hW
        obtain ⟨L, clk, cl, hR, _, _, hC, _, hn⟩ := hAll.out W hW
        exact run_any 2 W hR hC hn (by omega) (by omega)
      go_enter Try.func31, Try.ntmps31
      go_wp2_with fail
      rw [hd.out]
      refine (hrun.out _ (FR.out.alloc _)).mono ?_
      rintro e w1 ⟨rfl, rfl⟩
      go_wp2
      go_ret
      exact ⟨rfl, hOut.out _ (FR.out.alloc _)⟩
    · obtain ⟨m, rfl⟩ := Int.eq_ofNat_of_zero_le (show 0 ≤ n by omega)
      have hrs := room_small (s := s) (n := m) (by omega) (by omega)
      obtain ⟨q, hq⟩ : ∃ q, q = HS.room s m := ⟨_, rfl⟩
      rw [← hq] at hrs ⊢
      obtain ⟨R, hRi⟩ : ∃ R, R = runInt s 1 := ⟨_, rfl⟩
      rw [← hRi] at hrs
      have hrun : Hid (∀ W, Fr (fun k => B ≤ k) w W → Calls Try.prog 64 #[.pointer (some ⟨p.h, 0, none⟩), .int .i64 1] W fun e w' => e = .returned (.int .i64 R) ∧ W = w') := by
        intro W hW
        obtain ⟨L, clk, cl, hR, _, _, hC, _, hn⟩ := hAll.out W hW
        rw [hRi]
        exact run_any 1 W hR hC hn (by omega) (by omega)
      have hcls : Hid (∀ W, Fr (fun k => B ≤ k) w W → Calls Try.prog 62 #[.int .i64 m] W fun e w' => e = .returned (.int .i64 (cls m : Nat)) ∧ Fr (fun k => B ≤ k) w w' ∧ Below W.heap.size W w') := by
        intro W hW
        refine (class_any m W (by omega) (by omega)).mono ?_
        rintro e w' ⟨rfl, h⟩
        exact ⟨rfl, hW.trans (Fr.of_below h), h⟩
      have hc := cls_is m
      obtain ⟨c, hce⟩ : ∃ c, c = cls m := ⟨_, rfl⟩
      rw [← hce] at hcls hc hrs
      have HC := Lib.hid hc
      have HRS := Lib.hid hrs
      clear hc hrs hRi hq hce
      have hblocks : Hid (∀ W, Fr (fun k => B ≤ k) w W → Calls Try.prog 71 #[.pointer (some ⟨p.h, 0, none⟩), .int .i64 c] W fun e w' => ∃ v, e = .returned v ∧ IntsAt w' B v (blocksTo s.kind c s.n) ∧ Fr (fun k => B ≤ k) w w' ∧ Below W.heap.size W w') := by
        intro W hW
        obtain ⟨L, clk, cl, hR, _, _, hC, _, hn⟩ := hAll.out W hW
        refine (blocks_raw c W hR hn (hLt.out W hW)).mono ?_
        rintro e w' ⟨v, rfl, h1, h2⟩
        have hs := hW.size
        rw [hBs] at hs
        exact ⟨v, rfl, h1.mono hs, hW.trans (Fr.of_below h2), h2⟩
      have hcont : Hid (∀ W tb tc v, Fr (fun k => B ≤ k) w W → IntsAt W B v (blocksTo s.kind c s.n) → W.cell? ⟨tb, 0, none⟩ = some (.pointer (some ⟨p.h, 0, none⟩)) → W.cell? ⟨tc, 0, none⟩ = some (.int .i64 c) →
          Calls Try.prog 70 #[v, .func (.func 72) #[] #[.pointer (some ⟨tb, 0, none⟩), .pointer (some ⟨tc, 0, none⟩)]] W fun e w' =>
            ∃ r : Bool, e = .returned (.bool r) ∧ (q = true ↔ (0 ≤ R ∨ r = true)) ∧ Fr (fun k => B ≤ k) w w') := by
        intro W tb tc v hW hv ht1 ht2
        obtain ⟨L, clk, cl, hR, _, _, hC, _, hn⟩ := hAll.out W hW
        refine (contains_any B c tb tc v _ W hR HC.out (fun x hx => by obtain ⟨b, h1, h2, _⟩ := blocksTo_mem hx; exact ⟨b, h1, h2⟩) (Nat.le_trans (blocksTo_len _ _ _) hn) hv ht1 ht2).mono ?_
        rintro e w' ⟨r, rfl, h1, h2⟩
        exact ⟨r, rfl, by rw [h1]; exact HRS.out, hW.trans (h2.mono fun k hk => hk.elim)⟩
      go_enter Try.func31, Try.ntmps31
      go_wp2_with fail
      refine (hcls.out _ (FR.out.alloc _)).mono ?_
      rintro e w1 ⟨rfl, hF1, hB1⟩
      have c1 : w1.cell? ⟨B, 0, none⟩ = some (.pointer (some ⟨p.h, 0, none⟩)) := by
        rw [hB1.cell (by simp; omega), ← hBs]; simp
      have s1 : B < w1.heap.size := by have := hB1.size; simp at this; omega
      have s1' : B ≠ w1.heap.size := by omega
      have HF1 := Lib.hid hF1
      clear hF1 hB1
      by_cases hR0 : 0 ≤ R
      · have hq : q = true := HRS.out.2 (.inl hR0)
        subst hq
        go_wp2_with (first
          | (go_at_call 64; refine (hrun.out _ (HF1.out.alloc _)).mono ?_; rintro e w1 ⟨rfl, rfl⟩))
        go_ret
        exact ⟨rfl, hOut.out _ (HF1.out.alloc _)⟩
      · go_wp2_with (first
          | (go_at_call 64; refine (hrun.out _ (HF1.out.alloc _)).mono ?_; rintro e w1 ⟨rfl, rfl⟩))
        refine (hblocks.out _ (HF1.out.alloc _)).mono ?_
        rintro e w3 ⟨v, rfl, hv, hF3, hB3⟩
        have d1 : w3.cell? ⟨B, 0, none⟩ = some (.pointer (some ⟨p.h, 0, none⟩)) := by
          rw [hB3.cell (by show B < _; simp; omega)]; exact ((Fr.refl (fun _ => False) w1).alloc _).cell c1 id
        have d2 : w3.cell? ⟨w1.heap.size, 0, none⟩ = some (.int .i64 c) := by
          rw [hB3.cell (by show w1.heap.size < _; simp)]; simp
        have HC3 : Hid (Calls Try.prog 70 #[v, .func (.func 72) #[] #[.pointer (some ⟨B, 0, none⟩), .pointer (some ⟨w1.heap.size, 0, none⟩)]] w3 fun e w' =>
            ∃ r : Bool, e = .returned (.bool r) ∧ (q = true ↔ (0 ≤ R ∨ r = true)) ∧ Fr (fun k => B ≤ k) w w') := hcont.out w3 _ _ v hF3 hv d1 d2
        clear hv hF3 hB3 d1 d2
        go_wp2_with (first
          | (go_at_call 70; refine HC3.out.mono ?_; rintro e w4 ⟨r, rfl, hr0, hF4⟩; have hr := Lib.hid hr0; clear hr0))
        go_ret
        have hq : q = (decide (0 ≤ R) || r) := by
          have := hr.out
          rw [Bool.eq_iff_iff, this]
          simp
        subst hq
        exact ⟨rfl, hOut.out _ hF4⟩
end Go.Proofs.Ytjfpijoeddjgmaa
