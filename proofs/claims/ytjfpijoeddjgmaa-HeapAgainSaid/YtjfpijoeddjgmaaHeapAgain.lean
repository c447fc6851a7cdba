/- Law 16, HeapAgain: cells of any sizes are filled, read, given back, and had again where they were. No condition. -/
import Derived.Test.YtjfpijoeddjgmaaOwn
import Derived.Test.YtjfpijoeddjgmaaAgain
import Derived.WalkKit
namespace Go.Proofs.Ytjfpijoeddjgmaa
open Go.RowKit Hm
set_option linter.unusedVariables false
theorem wrap_fit {x : Int} (h0 : -9223372036854775808 ≤ x) (h1 : x ≤ 9223372036854775807) : wrap64 x = x := by unfold wrap64; omega
theorem uwrap_in (x : Int) : 0 ≤ IntKind.u64.wrap x ∧ IntKind.u64.wrap x < 18446744073709551616 := by
  show 0 ≤ x % 18446744073709551616 ∧ x % 18446744073709551616 < 18446744073709551616
  omega
theorem uwrap_fit {x : Int} (h : 0 ≤ x ∧ x < 18446744073709551616) : IntKind.u64.wrap x = x := by
  show x % 18446744073709551616 = x
  omega
theorem urem_in (x n : Int) (hn : 0 < n) (hn2 : n ≤ 1000000) : ∃ y : Nat, wrap64 ((IntKind.u64.wrap x).tmod n) = y ∧ (y : Int) < n := by
  have h := uwrap_in x
  generalize IntKind.u64.wrap x = u at *
  rw [Int.tmod_eq_emod_of_nonneg h.1]
  have h1 := Int.emod_nonneg u (show n ≠ 0 by omega)
  have h2 := Int.emod_lt_of_pos u hn
  rw [wrap_fit (by omega) (by omega)]
  exact ⟨(u % n).toNat, by omega, by omega⟩

theorem u8_wf {z : Int} (h : (Lit.int .u8 z).wf = true) : 0 ≤ z ∧ z ≤ 255 := by
  simp [Lit.wf, IntKind.min, IntKind.max] at h
  exact ⟨of_decide_eq_true h.1, of_decide_eq_true h.2⟩
theorem getD_mem {l : List Int} {i : Nat} (h : i < l.length) : l.getD i 0 ∈ l := by
  rw [List.getD_eq_getElem?_getD, List.getElem?_eq_getElem h]; exact List.getElem_mem _

theorem IntsAt.shape {w : World} {B : Nat} {v : Value} {l : List Int} (h : IntsAt w B v l) : ∃ ao cap, v = .slice ao l.length cap ∧ (l.length = 0 ∨ ∃ g, ao = some ⟨g, 0, none⟩ ∧ B ≤ g) := by
  rcases h.form with ⟨rfl, rfl⟩ | ⟨g, cap, rfl, hg, _⟩
  · exact ⟨_, _, rfl, .inl rfl⟩
  · exact ⟨_, _, rfl, .inr ⟨g, rfl, hg⟩⟩
theorem IntsAt.get {w : World} {B g n cap : Nat} {l : List Int} (h : IntsAt w B (.slice (some ⟨g, 0, none⟩) n cap) l) {j : Nat} (hj : j < l.length) : w.cell? ⟨g, j, none⟩ = some (.int .i64 (l.getD j 0)) := by
  rcases h.form with ⟨h1, h2⟩ | ⟨g', cap', h1, hg, _, hc⟩
  · cases h1
  · cases h1; exact hc j hj

/-- While the cells are had: the heap, the list of the round before, this round's. -/
structure RA (B B2 B3 : Nat) (w wr : World) (p : HP) (s : HS) (v7 v9 : Value) (l7 l9 : List Int) : Prop where
  own : Own B w wr p s
  first : IntsAt wr B2 v7 l7
  firstLt : ∀ k, v7.ownBlock = some k → k < B3
  at' : IntsAt wr B3 v9 l9
  sz : B3 ≤ wr.heap.size
theorem RA.heap {B B2 B3 : Nat} {w wr w' : World} {p : HP} {s t : HS} {v7 v9 : Value} {l7 l9 : List Int} (h : RA B B2 B3 w wr p s v7 v9 l7 l9) (hp : ∀ k, p.mine k → k < B2) (h23 : B2 ≤ B3) (ho : Own B w w' p t) (hf : Fr p.mine wr w') : RA B B2 B3 w w' p t v7 v9 l7 l9 :=
  ⟨ho, h.first.fr hf fun k hk hm => by have := (h.first.lt k hk).1; have := hp k hm; omega, h.firstLt, h.at'.fr hf fun k hk hm => by have := (h.at'.lt k hk).1; have := hp k hm; omega, Nat.le_trans h.sz hf.size⟩
theorem RA.app {B B2 B3 : Nat} {w wr w' : World} {p : HP} {s : HS} {v7 v9 v' : Value} {l7 l9 : List Int} {x : Int} {o : Obj} (h : RA B B2 B3 w wr p s v7 v9 l7 l9) (hp : ∀ k, p.mine k → k < B2) (h23 : B2 ≤ B3) (hB : B ≤ B3)
    (hown : w'.ownsRow B3 3 1 v' (l9.length + 1) (l9.map (Value.int .i64) ++ [.int .i64 x])) (hg : (wr.alloc o).grownBy w' v9.ownBlock) : RA B B2 B3 w w' p s v7 v' l7 (l9 ++ [x]) := by
  have hf : Fr (fun k => B3 ≤ k) wr w' := (Fr.refl _ wr).alloc o |>.trans (Fr.of_grown hg fun k hk => (h.at'.lt k hk).1)
  refine ⟨h.own.app hB (fun k hk => by have := hp k hk; omega) h.at' hg, h.first.fr hf fun k hk hm => ?_, h.firstLt, IntsAt.one hown, Nat.le_trans h.sz hf.size⟩
  have := h.firstLt k hk
  omega

theorem HeapAt.wf {w : World} {p : HP} {s : HS} (h : HeapAt w p s) : s.WF := by obtain ⟨_, _, _, _, h, _⟩ := h; exact h

namespace heapAgain
set_option maxRecDepth 100000 in
set_option maxHeartbeats 4000000 in
theorem walk (words : Int) (v : Value) (zs : List Int) (w : World) (hv : IntArg .u8 w v zs) : Calls Try.prog 3 #[.int .i64 words, v] w fun e w' => e = .returned (.bool true) ∧ Below w.heap.size w w' := by
  obtain ⟨i3, hi3, hz0, hz1, hz2⟩ := info_parts info3
  obtain ⟨ao, cap, rfl, hcells, hwf⟩ := hv
  obtain ⟨B, hB⟩ : ∃ B, B = w.heap.size := ⟨_, rfl⟩
  rw [← hB] at hcells ⊢
  have HL : Hid (∀ W, Below B w W → Calls Try.prog 19 #[] W fun e w' => e = .returned (.bool true) ∧ Hid (Below B w w' ∧ B ≤ w'.heap.size)) := by
    intro W hW
    refine (lives16 W).mono ?_
    rintro e w' ⟨rfl, h⟩
    have hs : B ≤ W.heap.size := by rw [hB]; exact hW.size
    exact ⟨rfl, hW.trans (h.mono hs), Nat.le_trans hs h.size⟩
  have HW := Lib.hid (Below.refl B w)
  clear hB
  have HC := Lib.hid hcells
  have HWF := Lib.hid hwf
  clear hcells hwf
  obtain ⟨m, hm⟩ : ∃ m, m = zs.length := ⟨_, rfl⟩
  rw [← hm]
  have HM := Lib.hid hm
  clear hm
  by_cases hlong : 60 < m
  · go_enter Try.func3, Try.ntmps3
    go_wp2_with fail
    refine (HL.out _ HW.out).mono ?_
    rintro e w1 ⟨rfl, hb1⟩
    go_wp2_with fail
    refine (HL.out _ hb1.out.1).mono ?_
    rintro e w2 ⟨rfl, hb2⟩
    go_wp2
    go_ret
    exact ⟨rfl, hb2.out.1⟩
  · obtain ⟨y, hy, hy2⟩ := urem_in words 3000 (by decide) (by decide)
    obtain ⟨n, hn⟩ : ∃ n : Nat, (32 + (y : Int)) / 32 = n := ⟨(32 + y) / 32, by omega⟩
    have hn1 : 1 ≤ n ∧ n ≤ 100 := by omega
    have HNEW : Hid (∀ W, Below B w W ∧ B ≤ W.heap.size → Calls Try.prog 20 #[.int .i64 (32 + (y : Int))] W fun e w' => ∃ p : HP, e = .returned (.tuple #[.pointer (some ⟨p.h, 0, none⟩), .int .i64 0]) ∧ Hid (Own B w w' p (HS.empty n))) := by
      intro W hW
      refine (new_any (32 + (y : Int)) n W (by omega) (by omega) hn B w hW.1 hW.2).mono ?_
      rintro e w' ⟨p, rfl, h1, h2, h3, h4⟩
      exact ⟨p, rfl, h1, h2, h3, h4⟩
    have HN := Lib.hid hn
    clear hn
    go_enter Try.func3, Try.ntmps3
    go_wp2_with fail
    refine (HL.out _ HW.out).mono ?_
    rintro e w1 ⟨rfl, hb1⟩
    go_wp2_with fail
    refine (HNEW.out _ hb1.out).mono ?_
    rintro e w2 ⟨p, rfl, hO⟩
    obtain ⟨B2, hB2⟩ : ∃ B2, B2 = w2.heap.size := ⟨_, rfl⟩
    have HP2 : Hid (∀ k, p.mine k → k < B2) := by rw [hB2]; exact hO.out.at'.lt
    have HB2 : Hid (B ≤ B2 ∧ B2 ≤ w2.heap.size) := ⟨by rw [hB2]; exact hO.out.size, by rw [hB2]; exact Nat.le_refl _⟩
    clear hB2
    go_wp2
    go_loopw [7, 43] (fun v7 v43 wr => ∃ x7 : Value, ∃ r : Nat, x7 = v7 ∧ v43 = .int .i64 r ∧ r ≤ 2 ∧ Hid (Own B w wr p (HS.empty n) ∧ IntsAt wr B2 x7 (if r = 0 then [] else atl n zs m) ∧ B2 ≤ wr.heap.size)) (fun _ r _ => 2 - (intOf r).toNat)
    case atStart => exact ⟨_, 0, rfl, rfl, by omega, hO.out, IntsAt.nil _ _, HB2.out.2⟩
    case round =>
      obtain ⟨x7, r, rfl, rfl, hr, hH⟩ := hrel
      by_cases hlt : r < 2
      · have hlt' : decide ((r : Int) < 2) = true := by simp; omega
        obtain ⟨B3, hB3⟩ : ∃ B3, B3 = wr.heap.size := ⟨_, rfl⟩
        have HB3 : Hid (B ≤ B3 ∧ B2 ≤ B3) := by have := HB2.out; have := hH.out.2.2; show _ ∧ _; omega
        obtain ⟨L7, hL7⟩ : ∃ L7, L7 = if r = 0 then [] else atl n zs m := ⟨_, rfl⟩
        rw [← hL7] at hH
        have HL7 := Lib.hid hL7
        clear hL7
        have HRA0 : Hid (RA B B2 B3 w wr p (HS.empty n) x7 (.slice none 0 0) L7 []) :=
          ⟨hH.out.1, hH.out.2.1, fun k hk => by rw [hB3]; exact (hH.out.2.1.lt k hk).2, IntsAt.nil _ _, by rw [hB3]; exact Nat.le_refl _⟩
        clear hB3 hH
        go_wp2
        go_loopw [9, 48] (fun v9 v48 wr2 => ∃ x9 : Value, ∃ i : Nat, x9 = v9 ∧ v48 = .int .i64 i ∧ i ≤ m ∧ Hid (RA B B2 B3 w wr2 p (HS.st n zs i) x7 x9 L7 (atl n zs i))) (fun _ i _ => m - (intOf i).toNat)
        case atStart => exact ⟨_, 0, rfl, rfl, by omega, HRA0.out⟩
        case round =>
          obtain ⟨x9, i, rfl, rfl, hi, hR⟩ := hrel
          by_cases hilt : i < m
          · have hilt' : decide ((i : Int) < (m : Int)) = true := by simp; omega
            obtain ⟨b, off, rfl, hb, hcell0⟩ : ∃ b off, ao = some ⟨b, off, none⟩ ∧ b < B ∧ ∀ j, j < zs.length → w.cell? ⟨b, off + j, none⟩ = some (.int .u8 (zs.getD j 0)) := HC.out.resolve_left (by rw [← HM.out]; omega)
            have hcell := hR.out.own.world.cell (hcell0 i (by rw [← HM.out]; exact hilt)) (by show ¬ B ≤ b; omega)
            obtain ⟨z, hz⟩ : ∃ z, z = zs.getD i 0 := ⟨_, rfl⟩
            rw [← hz] at hcell
            have hzr : 0 ≤ z ∧ z ≤ 255 := by rw [hz]; exact u8_wf (HWF.out _ (getD_mem (by rw [← HM.out]; exact hilt)))
            have hz64 : z.tmod 64 = z % 64 := Int.tmod_eq_emod_of_nonneg hzr.1
            obtain ⟨a, e, t, hal⟩ : ∃ a e t, (HS.st n zs i).alloc (1 + zs.getD i 0 % 64) = (a, e, t) := ⟨_, _, _, rfl⟩
            have HAL := Lib.hid hal
            have had : HS.ad n zs i = a := by unfold HS.ad; rw [hal]
            have hcall : Hid (Calls Try.prog 21 #[.pointer (some ⟨p.h, 0, none⟩), .int .i64 (1 + z % 64)] wr fun x w' => x = .returned (.tuple #[.int .i64 a, .int .i64 e]) ∧ Hid (RA B B2 B3 w w' p t x7 x9 L7 (atl n zs i))) := by
              refine (hR.out.own.alloc' (1 + z % 64)).mono ?_
              rw [hz, hal]
              rintro x w' ⟨rfl, h1, h2⟩
              exact ⟨rfl, hR.out.heap HP2.out HB3.out.2 h1 h2⟩
            have herr : e ≠ 0 → a = 0 := by have := HS.err_iff (n := n) (zs := zs) (i := i) (by omega); rw [hal, had] at this; exact this
            have HHAD := Lib.hid had
            have HHZ := Lib.hid hz
            clear hal had hz hcell0
            have hlen := atl_len n zs i
            by_cases he : e = 0
            · subst he
              go_wp2_with fail
              refine hcall.out.mono ?_
              rintro x w2 ⟨rfl, hR2⟩
              go_wp2_with (first
                | (at_builtin; refine wpList_append_own _ rfl _ _ 29 rfl B3 3 i3 (.int .i64 0) 1 8 Try.underlying29 hi3 hz0 hz1 hz2 rfl (by decide) _ _ _ rfl (hR2.out.at'.alloc _) ⟨w2.heap.size, 0, none⟩ 1 1 [.int .i64 a] rfl rfl (cell_one_new _ _ _) (fun u hu => by simp at hu; subst hu; rfl) (by unfold maxLen; omega) (by omega) (by have := hR2.out.sz; simp; omega) ?_))
              intro v' w3 hown' hgrow _
              have HR3 : Hid (RA B B2 B3 w w3 p t x7 v' L7 (atl n zs (i + 1))) := by
                have hown2 : w3.ownsRow B3 3 1 v' ((atl n zs i).length + 1) ((atl n zs i).map (Value.int .i64) ++ [.int .i64 (a : Int)]) := by rw [atl_len]; exact hown'
                have h := hR2.out.app HP2.out HB3.out.2 (by have := HB3.out; omega) hown2 hgrow
                rw [atl_succ, HHAD.out]; exact h
              clear hown' hgrow hR2 hR
              obtain ⟨C, hC⟩ : ∃ C, C = t.cap a := ⟨_, rfl⟩
              have hcap : Hid (Calls Try.prog 22 #[.pointer (some ⟨p.h, 0, none⟩), .int .i64 (a : Int)] w3 fun x w' => x = .returned (.int .i64 C) ∧ w3 = w') := by rw [hC]; exact cap_nat a w3 HR3.out.own.at'
              have hC64 : C ≤ 64 := by rw [hC]; exact HR3.out.own.at'.wf.cap_le _
              have HC2 := Lib.hid hC
              clear hC
              go_wp2_with (first | (go_at_call 22; refine hcap.out.mono ?_; rintro x w4 ⟨rfl, rfl⟩))
              go_loopw [71] (fun v71 wr => ∃ k : Nat, v71 = .int .i64 k ∧ k ≤ C ∧ Hid (RA B B2 B3 w wr p (HS.fill t a i k) x7 v' L7 (atl n zs (i + 1)))) (fun k _ => C - (intOf k).toNat)
              case atStart => exact ⟨0, rfl, by omega, HR3.out⟩
              case round =>
                obtain ⟨k, rfl, hk, hK⟩ := hrel
                by_cases hkl : k < C
                · have hcw : k < (HS.fill t a i k).cap a := by rw [HS.fill_cap, ← HC2.out]; exact hkl
                  have hread : Hid (Calls Try.prog 23 #[.pointer (some ⟨p.h, 0, none⟩), .int .i64 (a : Int), .int .i64 k] wr fun x w' => x = .returned (.tuple #[.int .u64 0, .int .i64 0]) ∧ wr = w') := by
                    have h0 := HS.fill_next (n := n) (zs := zs) (i := i) (k := k) (by omega) (by rw [HAL.out, HHAD.out, ← HC2.out]; exact hkl)
                    rw [HAL.out, HHAD.out] at h0
                    have h := read_in hK.out.own.at' hcw
                    rw [h0] at h
                    exact h
                  have hu := uwrap_fit (x := 1000 * (i : Int) + k + 1) (by omega)
                  have hwrite : Hid (Calls Try.prog 24 #[.pointer (some ⟨p.h, 0, none⟩), .int .i64 (a : Int), .int .i64 k, .int .u64 (1000 * (i : Int) + k + 1)] wr fun x w' => x = .returned (.int .i64 0) ∧ Hid (RA B B2 B3 w w' p (HS.fill t a i (k + 1)) x7 v' L7 (atl n zs (i + 1)))) := by
                    refine (hK.out.own.write hcw (by omega)).mono ?_
                    rintro x w' ⟨rfl, h1, h2⟩
                    exact ⟨rfl, hK.out.heap HP2.out HB3.out.2 h1 h2⟩
                  clear hcw
                  go_wp2_with (first
                    | (go_at_call 23; refine hread.out.mono ?_; rintro x w4 ⟨rfl, rfl⟩)
                    | (go_at_call 24; refine hwrite.out.mono ?_; rintro x w4 ⟨rfl, hK2⟩))
                  have hK2 := (by assumption : Hid (RA B B2 B3 w _ p (HS.fill t a i (k + 1)) x7 v' L7 (atl n zs (i + 1))))
                  go_roundw
                  case rel => exact ⟨k + 1, by go_num, by omega, hK2⟩
                  case measure => simp [intOf]; omega
                · have hkC : k = C := by omega
                  subst hkC
                  go_wp2
                  go_roundw
                  case rel =>
                    refine ⟨_, i + 1, rfl, by go_num, by omega, ?_⟩
                    have e : HS.st n zs (i + 1) = HS.fill t a i (t.cap a) := by
                      show HS.fill _ _ _ _ = _
                      rw [HAL.out]
                    rw [e, ← HC2.out]; exact hK
                  case measure => simp [intOf]; omega
            · have ha := herr he
              subst ha
              go_wp2_with fail
              refine hcall.out.mono ?_
              rintro x w2 ⟨rfl, hR2⟩
              go_wp2_with (first
                | (at_builtin; refine wpList_append_own _ rfl _ _ 29 rfl B3 3 i3 (.int .i64 0) 1 8 Try.underlying29 hi3 hz0 hz1 hz2 rfl (by decide) _ _ _ rfl (hR2.out.at'.alloc _) ⟨w2.heap.size, 0, none⟩ 1 1 [.int .i64 ((0 : Nat) : Int)] rfl rfl (cell_one_new _ _ _) (fun u hu => by simp at hu; subst hu; rfl) (by unfold maxLen; omega) (by omega) (by have := hR2.out.sz; simp; omega) ?_))
              intro v' w3 hown' hgrow _
              have HR3 : Hid (RA B B2 B3 w w3 p t x7 v' L7 (atl n zs (i + 1))) := by
                have hown2 : w3.ownsRow B3 3 1 v' ((atl n zs i).length + 1) ((atl n zs i).map (Value.int .i64) ++ [.int .i64 ((0 : Nat) : Int)]) := by rw [atl_len]; exact hown'
                have h := hR2.out.app HP2.out HB3.out.2 (by have := HB3.out; omega) hown2 hgrow
                rw [atl_succ, HHAD.out]; exact h
              clear hown' hgrow hR2 hR
              obtain ⟨C, hC⟩ : ∃ C, C = t.cap 0 := ⟨_, rfl⟩
              have hcap : Hid (Calls Try.prog 22 #[.pointer (some ⟨p.h, 0, none⟩), .int .i64 ((0 : Nat) : Int)] w3 fun x w' => x = .returned (.int .i64 C) ∧ w3 = w') := by rw [hC]; exact cap_nat 0 w3 HR3.out.own.at'
              have hC64 : C ≤ 64 := by rw [hC]; exact HR3.out.own.at'.wf.cap_le _
              have HC2 := Lib.hid hC
              clear hC
              go_wp2_with (first | (go_at_call 22; refine hcap.out.mono ?_; rintro x w4 ⟨rfl, rfl⟩))
              go_loopw [71] (fun v71 wr => ∃ k : Nat, v71 = .int .i64 k ∧ k ≤ C ∧ Hid (RA B B2 B3 w wr p (HS.fill t 0 i k) x7 v' L7 (atl n zs (i + 1)))) (fun k _ => C - (intOf k).toNat)
              case atStart => exact ⟨0, rfl, by omega, HR3.out⟩
              case round =>
                obtain ⟨k, rfl, hk, hK⟩ := hrel
                by_cases hkl : k < C
                · have hcw : k < (HS.fill t 0 i k).cap 0 := by rw [HS.fill_cap, ← HC2.out]; exact hkl
                  have hread : Hid (Calls Try.prog 23 #[.pointer (some ⟨p.h, 0, none⟩), .int .i64 ((0 : Nat) : Int), .int .i64 k] wr fun x w' => x = .returned (.tuple #[.int .u64 0, .int .i64 0]) ∧ wr = w') := by
                    have h0 := HS.fill_next (n := n) (zs := zs) (i := i) (k := k) (by omega) (by rw [HAL.out, HHAD.out, ← HC2.out]; exact hkl)
                    rw [HAL.out, HHAD.out] at h0
                    have h := read_in hK.out.own.at' hcw
                    rw [h0] at h
                    exact h
                  have hu := uwrap_fit (x := 1000 * (i : Int) + k + 1) (by omega)
                  have hwrite : Hid (Calls Try.prog 24 #[.pointer (some ⟨p.h, 0, none⟩), .int .i64 ((0 : Nat) : Int), .int .i64 k, .int .u64 (1000 * (i : Int) + k + 1)] wr fun x w' => x = .returned (.int .i64 0) ∧ Hid (RA B B2 B3 w w' p (HS.fill t 0 i (k + 1)) x7 v' L7 (atl n zs (i + 1)))) := by
                    refine (hK.out.own.write hcw (by omega)).mono ?_
                    rintro x w' ⟨rfl, h1, h2⟩
                    exact ⟨rfl, hK.out.heap HP2.out HB3.out.2 h1 h2⟩
                  clear hcw
                  go_wp2_with (first
                    | (go_at_call 23; refine hread.out.mono ?_; rintro x w4 ⟨rfl, rfl⟩)
                    | (go_at_call 24; refine hwrite.out.mono ?_; rintro x w4 ⟨rfl, hK2⟩))
                  have hK2 := (by assumption : Hid (RA B B2 B3 w _ p (HS.fill t 0 i (k + 1)) x7 v' L7 (atl n zs (i + 1))))
                  go_roundw
                  case rel => exact ⟨k + 1, by go_num, by omega, hK2⟩
                  case measure => simp [intOf]; omega
                · have hkC : k = C := by omega
                  subst hkC
                  go_wp2
                  go_roundw
                  case rel =>
                    refine ⟨_, i + 1, rfl, by go_num, by omega, ?_⟩
                    have e : HS.st n zs (i + 1) = HS.fill t 0 i (t.cap 0) := by
                      show HS.fill _ _ _ _ = _
                      rw [HAL.out]
                    rw [e, ← HC2.out]; exact hK
                  case measure => simp [intOf]; omega
          · have him : i = m := by omega
            subst him
            obtain ⟨ao9, cap9, rfl, hao9⟩ := hR.out.at'.shape
            rw [atl_len] at hao9 hR ⊢
            have HAO9 := Lib.hid hao9
            clear hao9
            have HI : Hid (HS.StI n zs i) := HS.stI n zs i (by omega)
            go_wp2
            go_loopw [104] (fun v104 wr => ∃ j : Nat, v104 = .int .i64 j ∧ j ≤ i ∧ Hid (RA B B2 B3 w wr p (HS.st n zs i) x7 (.slice ao9 i cap9) L7 (atl n zs i))) (fun j _ => i - (intOf j).toNat)
            case atStart => exact ⟨0, rfl, by omega, hR.out⟩
            case round =>
              obtain ⟨j, rfl, hj, hJ⟩ := hrel
              clear hR
              by_cases hji : j < i
              · have hji' : decide ((j : Int) < (i : Int)) = true := by simp; omega
                obtain ⟨g, rfl, hg⟩ : ∃ g, ao9 = some ⟨g, 0, none⟩ ∧ B3 ≤ g := HAO9.out.resolve_left (by omega)
                obtain ⟨A, hA⟩ : ∃ A, A = HS.ad n zs j := ⟨_, rfl⟩
                have hcell : wr.cell? ⟨g, j, none⟩ = some (.int .i64 A) := by
                  have h := hJ.out.at'.get (j := j) (by rw [atl_len]; exact hji)
                  rw [atl_get n zs hji, ← hA] at h
                  exact h
                obtain ⟨C, hC⟩ : ∃ C, C = (HS.st n zs i).cap A := ⟨_, rfl⟩
                have hcap : Hid (Calls Try.prog 22 #[.pointer (some ⟨p.h, 0, none⟩), .int .i64 A] wr fun x w' => x = .returned (.int .i64 C) ∧ wr = w') := by rw [hC]; exact cap_nat A wr hJ.out.own.at'
                have hC64 : C ≤ 64 := by rw [hC]; exact hJ.out.own.at'.wf.cap_le _
                have HA := Lib.hid hA
                have HC2 := Lib.hid hC
                clear hC hA
                by_cases hr0 : r = 0
                · have hrb : decide (0 < (r : Int)) = false := by simp; omega
                  have hrc : decide (0 < r) = false := by simp; omega
                  have HR0 := Lib.hid hr0
                  clear hr0
                  go_wp2_with (first | (go_at_call 22; refine hcap.out.mono ?_; rintro x w4 ⟨rfl, rfl⟩))
                  go_loopw [112] (fun v112 wr => ∃ k : Nat, v112 = .int .i64 k ∧ k ≤ C ∧ Hid (RA B B2 B3 w wr p (HS.st n zs i) x7 (.slice (some ⟨g, 0, none⟩) i cap9) L7 (atl n zs i))) (fun k _ => C - (intOf k).toNat)
                  case atStart => exact ⟨0, rfl, by omega, hJ.out⟩
                  case round =>
                    obtain ⟨k, rfl, hk, hK⟩ := hrel
                    clear hJ
                    by_cases hkl : k < C
                    · have hu := uwrap_fit (x := 1000 * (j : Int) + k + 1) (by omega)
                      have hA0 : 0 < A := by
                        refine Nat.pos_of_ne_zero fun h0 => ?_
                        rw [h0] at HC2
                        rw [HC2.out, HS.cap_none HI.out.wf.zero_unused] at hkl
                        omega
                      have hread : Hid (Calls Try.prog 23 #[.pointer (some ⟨p.h, 0, none⟩), .int .i64 A, .int .i64 k] wr fun x w' => x = .returned (.tuple #[.int .u64 (1000 * (j : Int) + k + 1), .int .i64 0]) ∧ wr = w') := by
                        have h := read_in hK.out.own.at' (a := A) (i := k) (by rw [← HC2.out]; exact hkl)
                        have h2 := (HI.out.cell j hji).resolve_left (by rw [← HA.out]; omega)
                        rw [← HA.out] at h2
                        rw [h2.2 k (by rw [← HC2.out]; exact hkl)] at h
                        exact h
                      go_wp2_with (first | (go_at_call 23; refine hread.out.mono ?_; rintro x w4 ⟨rfl, rfl⟩))
                      go_roundw
                      case rel => exact ⟨k + 1, by go_num, by omega, hK⟩
                      case measure => simp [intOf]; omega
                    · go_wp2
                      go_roundw
                      case rel => exact ⟨j + 1, by go_num, by omega, hK⟩
                      case measure => simp [intOf]; omega
                · have hrb : decide (0 < (r : Int)) = true := by simp; omega
                  have hrc : decide (0 < r) = true := by simp; omega
                  have hx7 := hJ.out.first
                  rw [show L7 = atl n zs i by rw [HL7.out, if_neg (by omega)]] at hx7
                  obtain ⟨ao7, cap7, rfl, hao7⟩ := hx7.shape
                  rw [atl_len] at hx7 hao7 hJ ⊢
                  obtain ⟨g7, rfl, hg7⟩ : ∃ g, ao7 = some ⟨g, 0, none⟩ ∧ B2 ≤ g := hao7.resolve_left (by omega)
                  clear hx7 hao7 hg7
                  have HR0 := Lib.hid hr0
                  clear hr0
                  go_wp2_with (first | (go_at_call 22; refine hcap.out.mono ?_; rintro x w4 ⟨rfl, rfl⟩))
                  go_loopw [112] (fun v112 wr => ∃ k : Nat, v112 = .int .i64 k ∧ k ≤ C ∧ Hid (RA B B2 B3 w wr p (HS.st n zs i) (.slice (some ⟨g7, 0, none⟩) i cap7) (.slice (some ⟨g, 0, none⟩) i cap9) L7 (atl n zs i))) (fun k _ => C - (intOf k).toNat)
                  case atStart => exact ⟨0, rfl, by omega, hJ.out⟩
                  case round =>
                    obtain ⟨k, rfl, hk, hK⟩ := hrel
                    clear hJ
                    by_cases hkl : k < C
                    · have hu := uwrap_fit (x := 1000 * (j : Int) + k + 1) (by omega)
                      have hA0 : 0 < A := by
                        refine Nat.pos_of_ne_zero fun h0 => ?_
                        rw [h0] at HC2
                        rw [HC2.out, HS.cap_none HI.out.wf.zero_unused] at hkl
                        omega
                      have hread : Hid (Calls Try.prog 23 #[.pointer (some ⟨p.h, 0, none⟩), .int .i64 A, .int .i64 k] wr fun x w' => x = .returned (.tuple #[.int .u64 (1000 * (j : Int) + k + 1), .int .i64 0]) ∧ wr = w') := by
                        have h := read_in hK.out.own.at' (a := A) (i := k) (by rw [← HC2.out]; exact hkl)
                        have h2 := (HI.out.cell j hji).resolve_left (by rw [← HA.out]; omega)
                        rw [← HA.out] at h2
                        rw [h2.2 k (by rw [← HC2.out]; exact hkl)] at h
                        exact h
                      go_wp2_with (first | (go_at_call 23; refine hread.out.mono ?_; rintro x w4 ⟨rfl, rfl⟩))
                      go_roundw
                      case rel => exact ⟨k + 1, by go_num, by omega, hK⟩
                      case measure => simp [intOf]; omega
                    · have hcell7 : wr.cell? ⟨g7, j, none⟩ = some (.int .i64 A) := by
                        have h := hK.out.first
                        rw [show L7 = atl n zs i by rw [HL7.out, if_neg HR0.out]] at h
                        have h := h.get (j := j) (by rw [atl_len]; exact hji)
                        rw [atl_get n zs hji, ← HA.out] at h
                        exact h
                      go_wp2
                      go_roundw
                      case rel => exact ⟨j + 1, by go_num, by omega, hK⟩
                      case measure => simp [intOf]; omega
              · have hji2 : j = i := by omega
                subst hji2
                go_wp2
                go_loopw [152] (fun v152 wr => ∃ q : Nat, v152 = .int .i64 q ∧ q ≤ j ∧ Hid (RA B B2 B3 w wr p (HS.back n zs j q) x7 (.slice ao9 j cap9) L7 (atl n zs j))) (fun q _ => j - (intOf q).toNat)
                case atStart => exact ⟨0, rfl, by omega, hJ.out⟩
                case round =>
                  obtain ⟨q, rfl, hq, hQ⟩ := hrel
                  clear hJ
                  by_cases hqj : q < j
                  · have hqj' : decide ((q : Int) < (j : Int)) = true := by simp; omega
                    obtain ⟨g, rfl, hg⟩ : ∃ g, ao9 = some ⟨g, 0, none⟩ ∧ B3 ≤ g := HAO9.out.resolve_left (by omega)
                    obtain ⟨A, hA⟩ : ∃ A, A = HS.ad n zs q := ⟨_, rfl⟩
                    have hcell : wr.cell? ⟨g, q, none⟩ = some (.int .i64 A) := by
                      have h := hQ.out.at'.get (j := q) (by rw [atl_len]; exact hqj)
                      rw [atl_get n zs hqj, ← hA] at h
                      exact h
                    have hfree : Hid (Calls Try.prog 25 #[.pointer (some ⟨p.h, 0, none⟩), .int .i64 A] wr fun x w' => x = .returned (.int .i64 (if 0 < A then 0 else 1)) ∧ Hid (RA B B2 B3 w w' p (HS.back n zs j (q + 1)) x7 (.slice (some ⟨g, 0, none⟩) j cap9) L7 (atl n zs j))) := by
                      have hb := HS.back_ok (n := n) (zs := zs) (m := j) (j := q) (by omega) hqj
                      refine (hQ.out.own.free A).mono ?_
                      rintro x w' ⟨rfl, h1, h2⟩
                      refine ⟨by rw [hA, hb], ?_⟩
                      rw [hA] at h1
                      exact hQ.out.heap HP2.out HB3.out.2 h1 h2
                    clear hA hg
                    by_cases hA0 : 0 < A
                    · rw [if_pos hA0] at hfree
                      go_wp2_with (first | (go_at_call 25; refine hfree.out.mono ?_; rintro x w4 ⟨rfl, hQ2⟩))
                      have hQ2 := (by assumption : Hid (RA B B2 B3 w _ p (HS.back n zs j (q + 1)) x7 (.slice (some ⟨g, 0, none⟩) j cap9) L7 (atl n zs j)))
                      go_roundw
                      case rel => exact ⟨q + 1, by go_num, by omega, hQ2⟩
                      case measure => simp [intOf]; omega
                    · rw [if_neg hA0] at hfree
                      have hA1 : A = 0 := by omega
                      subst hA1
                      go_wp2_with (first | (go_at_call 25; refine hfree.out.mono ?_; rintro x w4 ⟨rfl, hQ2⟩))
                      have hQ2 := (by assumption : Hid (RA B B2 B3 w _ p (HS.back n zs j (q + 1)) x7 (.slice (some ⟨g, 0, none⟩) j cap9) L7 (atl n zs j)))
                      go_roundw
                      case rel => exact ⟨q + 1, by go_num, by omega, hQ2⟩
                      case measure => simp [intOf]; omega
                  · have hqj2 : q = j := by omega
                    subst hqj2
                    have hB := HS.back_all n zs q (by omega)
                    rw [hB] at hQ
                    clear hB
                    go_wp2
                    go_roundw
                    case rel =>
                      refine ⟨_, r + 1, rfl, by go_num, by omega, hQ.out.own, ?_, by have := HB3.out; have := hQ.out.sz; omega⟩
                      rw [if_neg (by omega)]
                      exact hQ.out.at'.mono HB3.out.2
                    case measure => simp [intOf]; omega
      · have hcells : Hid (Calls Try.prog 26 #[.pointer (some ⟨p.h, 0, none⟩)] wr fun x w' => ∃ ao cap, x = .returned (.slice ao 0 cap) ∧ Below B w w') := by
          refine (cells_any wr hH.out.1.at').mono ?_
          rintro x w' ⟨v, rfl, h1, h2⟩
          have e : cellsTo (HS.empty n).used (1 + 32 * (HS.empty n).n) = [] := by unfold cellsTo; simp [HS.empty]
          rw [e] at h1
          obtain ⟨ao, cap, rfl, _⟩ := h1.shape
          exact ⟨ao, cap, rfl, hH.out.1.below.trans (h2.mono hH.out.1.size)⟩
        clear hH
        go_wp2_with (first | (go_at_call 26; refine hcells.out.mono ?_; rintro x w4 ⟨aoC, capC, rfl, hbel⟩))
        go_ret
        exact ⟨rfl, by assumption⟩
end heapAgain
end Go.Proofs.Ytjfpijoeddjgmaa
