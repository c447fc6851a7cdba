/- The heap: Cells. Conditions: the heap's memory reads as the plain model says. -/
import Derived.Test.YtjfpijoeddjgmaaHeapW10
import Derived.Maps.AppendAt
import Derived.Deep.AppendLies
namespace Go.Proofs.Ytjfpijoeddjgmaa
open Go.RowKit Hm
set_option linter.unusedVariables false

/-- A slice of ints that the call has made, from a block number on. -/
def IntsAt (w : World) (B : Nat) (v : Value) (l : List Int) : Prop := w.ownsRow B 3 1 v l.length (l.map (Value.int .i64))
theorem IntsAt.nil (w : World) (B : Nat) : IntsAt w B (.slice none 0 0) [] := World.ownsRow_nil _ _ _ _
theorem IntsAt.fr {S : Nat → Prop} {a w : World} {B : Nat} {v : Value} {l : List Int} (h : IntsAt a B v l) (hf : Fr S a w) (hn : ∀ k, v.ownBlock = some k → ¬ S k) : IntsAt w B v l := hf.owns h hn
theorem IntsAt.mono {w : World} {B B' : Nat} {v : Value} {l : List Int} (h : IntsAt w B v l) (hb : B' ≤ B) : IntsAt w B' v l := ⟨h.1, h.2.imp id fun ⟨g, cap, cur, h1, h2, h3⟩ => ⟨g, cap, cur, h1, Nat.le_trans hb h2, h3⟩⟩
theorem IntsAt.lt {w : World} {B : Nat} {v : Value} {l : List Int} (h : IntsAt w B v l) : ∀ k, v.ownBlock = some k → B ≤ k ∧ k < w.heap.size := World.ownsRow.lt h
theorem IntsAt.form {w : World} {B : Nat} {v : Value} {l : List Int} (h : IntsAt w B v l) :
    (v = .slice none 0 0 ∧ l = []) ∨ ∃ g cap, v = .slice (some ⟨g, 0, none⟩) l.length cap ∧ B ≤ g ∧ g < w.heap.size ∧ (∀ j, j < l.length → w.cell? ⟨g, j, none⟩ = some (.int .i64 (l.getD j 0))) := by
  rcases h.2 with ⟨h1, h2⟩ | ⟨g, cap, cur, hv, hb, hg, r⟩
  · exact .inl ⟨h1, List.eq_nil_of_length_eq_zero h2⟩
  · refine .inr ⟨g, cap, hv, hb, (Array.getElem?_eq_some_iff.1 hg).1, fun j hj => ?_⟩
    have := h.cells (g := g) (by rw [hv]; rfl) j (.int .i64 (l.getD j 0)) (by simp [hj])
    rw [show (⟨g, j, none⟩ : Addr) = (⟨g, 0, none⟩ : Addr).add j by simp only [Addr.add]; split <;> simp_all]
    exact this
theorem IntsAt.one {w' : World} {B : Nat} {v' : Value} {l : List Int} {x : Int} (h : w'.ownsRow B 3 1 v' (l.length + 1) (l.map (Value.int .i64) ++ [.int .i64 x])) : IntsAt w' B v' (l ++ [x]) := by
  unfold IntsAt
  rw [List.map_append, List.length_append]
  exact h
/-- Behind an append of one: what may have turned lies from the first on. -/
theorem below_append {w w1 : World} {v : Value} {B : Nat} {l : List Int} {o : Obj} {w0 : World} (hb : Below B w0 w) (hB : B ≤ w.heap.size) (ho : IntsAt w B v l) (hg : (w.alloc o).grownBy w1 v.ownBlock) : Below B w0 w1 := by
  have h1 : Below B w w1 := ((Fr.refl (fun k => B ≤ k) w).alloc o |>.trans (Fr.of_grown hg fun k hk => (ho.lt k hk).1)).below hB fun k hk => hk
  exact hb.trans h1

theorem Below.fr' {a w : World} {B : Nat} (h : Below B a w) : Fr (fun k => B ≤ k) a w := ⟨h.os, h.tape, h.output, h.size, fun k _ hk => h.block k (by omega)⟩

def cellsTo (us : Nat → Bool) (m : Nat) : List Int := ((List.range m).filter us).map Int.ofNat
theorem cellsTo_yes {us : Nat → Bool} {m : Nat} (h : us m = true) : cellsTo us (m + 1) = cellsTo us m ++ [(m : Int)] := by
  unfold cellsTo; rw [List.range_succ, List.filter_append, List.map_append]; simp [h]
theorem cellsTo_no {us : Nat → Bool} {m : Nat} (h : us m = false) : cellsTo us (m + 1) = cellsTo us m := by
  unfold cellsTo; rw [List.range_succ, List.filter_append, List.map_append]; simp [h]
theorem cellsTo_len (us : Nat → Bool) (m : Nat) : (cellsTo us m).length ≤ m := by
  unfold cellsTo; rw [List.length_map]; exact Nat.le_trans (List.length_filter_le _ _) (by simp)

set_option maxHeartbeats 400000 in
theorem cells_raw {p : HP} {n : Nat} {wd kd cn : Nat → Int} {us : Nat → Bool} {L : List (Ent Int)} {clk : Nat} {cl : Int} (w : World)
    (hR : Raw w p n wd kd cn us L clk cl) (hn : n ≤ 2048) (hp : ∀ k, p.mine k → k < w.heap.size) :
    Calls Try.prog 26 #[.pointer (some ⟨p.h, 0, none⟩)] w fun e w' => ∃ v, e = .returned v ∧ IntsAt w' w.heap.size v (cellsTo us (1 + 32 * n)) ∧ Below w.heap.size w w' := by
  have h3 : w.cell? ⟨p.h, 3, none⟩ = some (.slice (some ⟨p.ub, 0, none⟩) (1 + 32 * n : Nat) (1 + 32 * n : Nat)) := hR.st.cell (by omega)
  have HU := Lib.hid hR.us
  have HP := Lib.hid (hp p.ub (by simp [HP.mine]))
  clear hR hp
  obtain ⟨m, hm⟩ : ∃ m, m = 1 + 32 * n := ⟨_, rfl⟩
  rw [← hm] at h3 HU ⊢
  have hm2 : m ≤ 65537 := by omega
  clear hm
  obtain ⟨i3, hi, hz0, hz1, hz2⟩ := info_parts info3
  obtain ⟨B, hB⟩ : ∃ B, B = w.heap.size := ⟨_, rfl⟩
  rw [← hB] at HP ⊢
  have HB := Lib.hid hB
  have HW := Lib.hid (Below.refl B w)
  clear hB
  go_enter Try.func26, Try.ntmps26
  go_wp2
  go_loopw [3, 13] (fun v3 v13 wr => ∃ k : Nat, v13 = .int .i64 k ∧ k ≤ m ∧ Hid (IntsAt wr B v3 (cellsTo us k) ∧ Below B w wr ∧ B ≤ wr.heap.size)) (fun _ i _ => m - (intOf i).toNat)
  case atStart => exact ⟨0, rfl, by omega, IntsAt.nil _ _, HW.out, by rw [HB.out]; exact Nat.le_refl _⟩
  case round =>
    obtain ⟨k, rfl, hk, hH⟩ := hrel
    by_cases hlt : k < m
    · have hcell : wr.cell? ⟨p.ub, k, none⟩ = some (.bool (us k)) := ((HU.out.fr (Below.fr' hH.out.2.1) (by have := HP.out; omega)).cell hlt)
      obtain ⟨u, hu⟩ : ∃ u, u = us k := ⟨_, rfl⟩
      rw [← hu] at hcell
      have HUK := Lib.hid hu
      clear hu
      cases u
      · go_wp2
        go_roundw
        case rel => exact ⟨k + 1, by go_num, by omega, by rw [cellsTo_no HUK.out.symm]; exact hH⟩
        case measure => simp [intOf]; omega
      · have hlen := cellsTo_len us k
        go_wp2_with (first
          | (at_builtin; refine wpList_append_own _ rfl _ _ 29 rfl B 3 i3 (.int .i64 0) 1 8 Try.underlying29 hi hz0 hz1 hz2 rfl (by decide) _ _ _ rfl (hH.out.1.alloc _) ⟨wr.heap.size, 0, none⟩ 1 1 [.int .i64 k] rfl rfl (cell_one_new _ _ _) (fun u hu => by simp at hu; subst hu; rfl) (by unfold maxLen; omega) (by omega) (by have := hH.out.2.2; simp; omega) ?_))
        intro v' w1 hown' hgrow _
        have HN : Hid (IntsAt w1 B v' (cellsTo us (k + 1)) ∧ Below B w w1 ∧ B ≤ w1.heap.size) := by
          refine ⟨?_, below_append hH.out.2.1 hH.out.2.2 hH.out.1 hgrow, ?_⟩
          · rw [cellsTo_yes HUK.out.symm]; exact IntsAt.one hown'
          · have h1 := hgrow.size; have h2 := hH.out.2.2; simp at h1; omega
        clear hown' hgrow
        go_wp2
        go_roundw
        case rel => exact ⟨k + 1, by go_num, by omega, HN⟩
        case measure => simp [intOf]; omega
    · have : k = m := by omega
      subst this
      go_wp2
      go_ret
      exact ⟨_, rfl, hH.out.1, hH.out.2.1⟩
end Go.Proofs.Ytjfpijoeddjgmaa
