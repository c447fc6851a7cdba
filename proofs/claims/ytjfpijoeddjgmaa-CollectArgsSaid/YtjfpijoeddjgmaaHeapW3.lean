/- The heap: Read, Write, a large cell. Conditions: the heap's memory reads as the plain model says. -/
import Derived.Test.YtjfpijoeddjgmaaHeapW2
import Derived.BigRegion
import Derived.StillTailTactics
namespace Go.Proofs.Ytjfpijoeddjgmaa
open Go.RowKit Hm

/-- There is a word i in the cell at a. -/
def HS.has (s : HS) (a i : Int) : Prop := 0 ≤ i ∧ i < s.cap a.toNat
instance (s : HS) (a i : Int) : Decidable (HS.has s a i) := by unfold HS.has; exact inferInstance
theorem HS.has_pos {s : HS} (h : s.WF) {a i : Int} (hh : HS.has s a i) : 1 ≤ a ∧ a + i < 1 + 32 * s.n := by
  obtain ⟨h0, h1⟩ := hh
  have hu : s.used a.toNat = true := by
    cases hu : s.used a.toNat with
    | true => rfl
    | false => rw [HS.cap_none hu] at h1; omega
  have := h.in_ hu
  have := WF_used_range h hu
  omega

set_option maxHeartbeats 400000 in
theorem read_any {p : HP} {s : HS} (a i : Int) (w : World) (hA : HeapAt w p s) :
    Calls Try.prog 23 #[.pointer (some ⟨p.h, 0, none⟩), .int .i64 a, .int .i64 i] w fun e w' =>
      e = .returned (if HS.has s a i then .tuple #[.int .u64 (s.word (a.toNat + i.toNat)), .int .i64 0] else .tuple #[.int .u64 0, .int .i64 1]) ∧ w = w' := by
  obtain ⟨L, clk, cl, hR, hwf, _, _, hn1, hn2⟩ := hA
  have h0 : w.cell? ⟨p.h, 0, none⟩ = some (.slice (some ⟨p.wb, 0, none⟩) (1 + 32 * s.n) (1 + 32 * s.n)) := hR.st.cell (by omega)
  by_cases hh : HS.has s a i
  · rw [if_pos hh]
    have hp := HS.has_pos hwf hh
    obtain ⟨hi0, hi1⟩ := hh
    obtain ⟨x, rfl⟩ := Int.eq_ofNat_of_zero_le (show 0 ≤ a by omega)
    obtain ⟨k, rfl⟩ := Int.eq_ofNat_of_zero_le hi0
    simp only [Int.toNat_natCast] at hi1 ⊢
    have hc := hR.wd.cell (i := x + k) (by omega)
    obtain ⟨C, hC⟩ : ∃ C, C = s.cap x := ⟨_, rfl⟩
    have hi2 : k < C := by omega
    have hcap := fun w hR => cap_any (p := p) (s := s) (wd := s.word) (cn := fun b => (s.cnt b : Int)) (L := L) (clk := clk) (cl := cl) (x : Int) w hR hwf hn2
    simp only [Int.toNat_natCast, ← hC] at hcap
    have HCAP := Lib.hid hcap
    have HR := Lib.hid hR
    have HC := Lib.hid hC
    clear hcap hC hR hi1
    go_enter Try.func23, Try.ntmps23
    go_wp2_with (first | (go_at_call 22; refine (HCAP.out _ HR.out).mono ?_; rintro e w' ⟨rfl, rfl⟩))
    go_ret2
    exact ⟨rfl, rfl⟩
  · rw [if_neg hh]
    have HH := Lib.hid hh
    clear hh
    by_cases hi0 : i < 0
    · go_enter Try.func23, Try.ntmps23
      go_wp2
      go_ret2
      exact ⟨rfl, rfl⟩
    · obtain ⟨C, hC⟩ : ∃ C, C = s.cap a.toNat := ⟨_, rfl⟩
      have hi2 : (C : Int) ≤ i := by
        have := HH.out
        unfold HS.has at this
        rw [hC]; omega
      have hcap := fun w hR => cap_any (p := p) (s := s) (wd := s.word) (cn := fun b => (s.cnt b : Int)) (L := L) (clk := clk) (cl := cl) a w hR hwf hn2
      simp only [← hC] at hcap
      have HCAP := Lib.hid hcap
      have HR := Lib.hid hR
      have HC := Lib.hid hC
      clear hcap hC hR
      go_enter Try.func23, Try.ntmps23
      go_wp2_with (first | (go_at_call 22; refine (HCAP.out _ HR.out).mono ?_; rintro e w' ⟨rfl, rfl⟩))
      go_ret2
      exact ⟨rfl, rfl⟩

theorem HeapAt.write {w : World} {p : HP} {s : HS} (hA : HeapAt w p s) {a i : Nat} {v : Int} (hi : i < s.cap a) (hv : 0 ≤ v ∧ v < 18446744073709551616) :
    HeapAt (w.setCell ⟨p.wb, a + i, none⟩ (.int .u64 v)) p (s.write a i v) := by
  obtain ⟨L, clk, cl, hR, hwf, hf, hc, hn⟩ := hA
  exact ⟨L, clk, cl, hR.setWord (a + i) v, hwf.write hi hv, hf, hc, hn⟩

set_option maxHeartbeats 400000 in
theorem write_any {p : HP} {s : HS} (a i v : Int) (w : World) (hA : HeapAt w p s) (hv : 0 ≤ v ∧ v < 18446744073709551616) :
    Calls Try.prog 24 #[.pointer (some ⟨p.h, 0, none⟩), .int .i64 a, .int .i64 i, .int .u64 v] w fun e w' =>
      e = .returned (.int .i64 (if HS.has s a i then 0 else 1)) ∧ HeapAt w' p (if HS.has s a i then s.write a.toNat i.toNat v else s) ∧ Fr p.mine w w' := by
  have hA' := hA
  obtain ⟨L, clk, cl, hR, hwf, _, _, hn1, hn2⟩ := hA
  have h0 : w.cell? ⟨p.h, 0, none⟩ = some (.slice (some ⟨p.wb, 0, none⟩) (1 + 32 * s.n) (1 + 32 * s.n)) := hR.st.cell (by omega)
  by_cases hh : HS.has s a i
  · rw [if_pos hh, if_pos hh]
    have hp := HS.has_pos hwf hh
    obtain ⟨hi0, hi1⟩ := hh
    obtain ⟨x, rfl⟩ := Int.eq_ofNat_of_zero_le (show 0 ≤ a by omega)
    obtain ⟨k, rfl⟩ := Int.eq_ofNat_of_zero_le hi0
    simp only [Int.toNat_natCast] at hi1 ⊢
    have HA' := Lib.hid (hA'.write (a := x) (i := k) (v := v) (by omega) hv)
    have hc := hR.wd.cell (i := x + k) (by omega)
    have hfz := hR.wd.frozen (x + k)
    obtain ⟨C, hC⟩ : ∃ C, C = s.cap x := ⟨_, rfl⟩
    have hi2 : k < C := by omega
    have hcap := fun w hR => cap_any (p := p) (s := s) (wd := s.word) (cn := fun b => (s.cnt b : Int)) (L := L) (clk := clk) (cl := cl) (x : Int) w hR hwf hn2
    simp only [Int.toNat_natCast, ← hC] at hcap
    have HCAP := Lib.hid hcap
    have HR := Lib.hid hR
    have HC := Lib.hid hC
    clear hcap hC hR hi1 hA'
    go_enter Try.func24, Try.ntmps24
    go_wp2_with (first | (go_at_call 22; refine (HCAP.out _ HR.out).mono ?_; rintro e w' ⟨rfl, rfl⟩))
    go_ret
    exact ⟨rfl, HA'.out, (Fr.refl _ w).setCell (by simp [HP.mine]) _⟩
  · rw [if_neg hh, if_neg hh]
    have HA' := Lib.hid hA'
    clear hA'
    have HH := Lib.hid hh
    clear hh
    by_cases hi0 : i < 0
    · go_enter Try.func24, Try.ntmps24
      go_wp2
      go_ret
      exact ⟨rfl, HA'.out, Fr.refl _ _⟩
    · obtain ⟨C, hC⟩ : ∃ C, C = s.cap a.toNat := ⟨_, rfl⟩
      have hi2 : (C : Int) ≤ i := by
        have := HH.out
        unfold HS.has at this
        rw [hC]; omega
      have hcap := fun w hR => cap_any (p := p) (s := s) (wd := s.word) (cn := fun b => (s.cnt b : Int)) (L := L) (clk := clk) (cl := cl) a w hR hwf hn2
      simp only [← hC] at hcap
      have HCAP := Lib.hid hcap
      have HR := Lib.hid hR
      have HC := Lib.hid hC
      clear hcap hC hR
      go_enter Try.func24, Try.ntmps24
      go_wp2_with (first | (go_at_call 22; refine (HCAP.out _ HR.out).mono ?_; rintro e w' ⟨rfl, rfl⟩))
      go_ret
      exact ⟨rfl, HA'.out, Fr.refl _ _⟩
end Go.Proofs.Ytjfpijoeddjgmaa
