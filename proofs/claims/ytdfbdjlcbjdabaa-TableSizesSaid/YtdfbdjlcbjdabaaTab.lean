/- The table's functions, and the reference's: what they answer. Conditions: small numbers, where it says so. -/
import Derived.Test.YtdfbdjlcbjdabaaChecked
import Derived.WalkKit
import Derived.WalkSpells
import Derived.WalkLawsBesides
import Derived.Lib.Hide
import Derived.BigQuiet
import Derived.Below
import Derived.Laws.BitsAllLaws
import Derived.Laws.Rows
namespace Go.Proofs.Ytdfbdjlcbjdabaa
open Go.RowKit
set_option linter.unusedVariables false
/-- A sort: its kind, its pointers, its other words, and the rest. -/
structure Inf where
  kind : Int
  ptrs : Int
  nons : Int
  ar : Int
  tag : Int
  code : Int
  of : Int
  pick : Int
  name : ByteArray
def Inf.val (i : Inf) : Value := .agg #[.int .i64 i.kind, .int .i64 i.ptrs, .int .i64 i.nons, .int .i64 i.ar, .int .i64 i.tag, .int .i64 i.code, .int .i64 i.of, .int .i64 i.pick, .string i.name]
structure Inf.Ok (i : Inf) : Prop where
  p0 : 0 ≤ i.ptrs
  p1 : i.ptrs ≤ 60
  n0 : 0 ≤ i.nons
  n1 : i.nons ≤ 60
  sum : i.ptrs + i.nons ≤ 60
def Inf.size (i : Inf) : Int := if i.kind = 3 ∨ i.kind = 7 then 0 else max (i.ptrs + i.nons) 1
def Inf.fits (i : Inf) (n : Int) : Bool := if i.kind = 3 then decide (2 ≤ n ∧ n ≤ 60) else if i.kind = 7 ∨ i.kind = 6 then decide (1 ≤ n ∧ n ≤ 60) else decide (n = i.size)
def Inf.pointers (i : Inf) (n : Int) : Int := if i.kind = 3 then n else i.ptrs

theorem size_any (i : Inf) (h : i.Ok) (w : World) : Calls Try.prog 12 #[i.val] w fun e w' => e = .returned (.int .i64 i.size) ∧ Below w.heap.size w w' := by
  obtain ⟨k, p, n, a, t, c, o, pk, nm⟩ := i
  obtain ⟨p0, p1, n0, n1, _⟩ := h
  simp only at p0 p1 n0 n1
  unfold Inf.val Inf.size
  simp only
  have HF := Lib.hid (Below.refl w.heap.size w)
  by_cases hk : k = 3
  · subst hk
    go_enter Try.func12, Try.ntmps12
    go_wp2
    go_ret
    exact ⟨rfl, HF.out.alloc (Nat.le_refl _) _⟩
  · by_cases hk7 : k = 7
    · subst hk7
      go_enter Try.func12, Try.ntmps12
      go_wp2
      go_ret
      exact ⟨rfl, HF.out.alloc (Nat.le_refl _) _⟩
    · have h3 : (k == 3) = false := by simpa using hk
      have h7 : (k == 7) = false := by simpa using hk7
      rw [if_neg (by omega)]
      obtain ⟨M, hM⟩ : ∃ M, M = max (p + n) 1 := ⟨_, rfl⟩
      rw [← hM]
      have HM := Lib.hid hM
      clear hM
      go_enter Try.func12, Try.ntmps12
      go_wp2
      all_goals
        go_ret
        have := HM.out
        refine ⟨?_, HF.out.alloc (Nat.le_refl _) _⟩
        show Ending.returned (.int .i64 _) = _
        congr 2
        omega

theorem pointers_any (i : Inf) (m : Int) (w : World) : Calls Try.prog 15 #[i.val, .int .i64 m] w fun e w' => e = .returned (.int .i64 (i.pointers m)) ∧ Below w.heap.size w w' := by
  obtain ⟨k, p, n, a, t, c, o, pk, nm⟩ := i
  unfold Inf.val Inf.pointers
  simp only
  have HF := Lib.hid (Below.refl w.heap.size w)
  by_cases hk : k = 3
  · subst hk
    go_enter Try.func15, Try.ntmps15
    go_wp2
    go_ret
    exact ⟨rfl, HF.out.alloc (Nat.le_refl _) _⟩
  · have h3 : (k == 3) = false := by simpa using hk
    rw [if_neg hk]
    clear hk
    go_enter Try.func15, Try.ntmps15
    go_wp2
    go_ret
    exact ⟨rfl, HF.out.alloc (Nat.le_refl _) _⟩

theorem fits_any (i : Inf) (h : i.Ok) (m : Int) (w : World) : Calls Try.prog 13 #[i.val, .int .i64 m] w fun e w' => e = .returned (.bool (i.fits m)) ∧ Below w.heap.size w w' := by
  have HS : Hid (∀ W, Below w.heap.size w W → w.heap.size ≤ W.heap.size → Calls Try.prog 12 #[i.val] W fun e w' => e = .returned (.int .i64 i.size) ∧ Below w.heap.size w w') := by
    intro W hW hs
    refine (size_any i h W).mono ?_
    rintro e w' ⟨rfl, h2⟩
    exact ⟨rfl, hW.trans (h2.mono hs)⟩
  obtain ⟨Z, hZ⟩ : ∃ Z, Z = i.size := ⟨_, rfl⟩
  obtain ⟨F, hF⟩ : ∃ F, F = i.fits m := ⟨_, rfl⟩
  rw [← hZ] at HS
  rw [← hF]
  unfold Inf.fits at hF
  rw [← hZ] at hF
  obtain ⟨k, p, n, a, t, c, o, pk, nm⟩ := i
  unfold Inf.val at HS ⊢
  simp only at hF HS ⊢
  clear hZ h
  have HB := Lib.hid (Below.refl w.heap.size w)
  by_cases hk : k = 3
  · subst hk
    rw [if_pos rfl] at hF
    have HF := Lib.hid hF
    clear hF
    go_enter Try.func13, Try.ntmps13
    go_wp2
    all_goals
      go_ret
      refine ⟨?_, HB.out.alloc (Nat.le_refl _) _⟩
      rw [HF.out]
      first | (simp; done) | (simp; omega)
  · have h3 : (k == 3) = false := by simpa using hk
    rw [if_neg hk] at hF
    by_cases hk7 : k = 7
    · subst hk7
      rw [if_pos (.inl rfl)] at hF
      have HF := Lib.hid hF
      clear hF
      go_enter Try.func13, Try.ntmps13
      go_wp2
      all_goals
        go_ret
        refine ⟨?_, HB.out.alloc (Nat.le_refl _) _⟩
        rw [HF.out]
        first | (simp; done) | (simp; omega)
    · have h7 : (k == 7) = false := by simpa using hk7
      by_cases hk6 : k = 6
      · subst hk6
        rw [if_pos (.inr rfl)] at hF
        have HF := Lib.hid hF
        clear hF
        go_enter Try.func13, Try.ntmps13
        go_wp2
        all_goals
          go_ret
          refine ⟨?_, HB.out.alloc (Nat.le_refl _) _⟩
          rw [HF.out]
          first | (simp; done) | (simp; omega)
      · have h6 : (k == 6) = false := by simpa using hk6
        rw [if_neg (by omega)] at hF
        have HF := Lib.hid hF
        clear hF
        go_enter Try.func13, Try.ntmps13
        go_wp2_with (first | (go_at_call 12; refine (HS.out _ (HB.out.alloc (Nat.le_refl _) _) (by simp)).mono ?_; rintro e w1 ⟨rfl, hb⟩))
        go_ret
        rw [HF.out]
        refine ⟨?_, by assumption⟩
        first | rfl | (simp; done) | (simp; omega)
/-- of: a sort's numbers. -/
def Inf.arr (i : Inf) : Value := .agg #[.int .i64 i.kind, .int .i64 i.ptrs, .int .i64 i.nons, .int .i64 i.ar, .int .i64 i.tag, .int .i64 i.code, .int .i64 i.of, .int .i64 i.pick]
theorem of_any (i : Inf) (w : World) : Calls Try.prog 11 #[i.val] w fun e w' => e = .returned i.arr ∧ Below w.heap.size w w' := by
  obtain ⟨k, p, n, a, t, c, o, pk, nm⟩ := i
  unfold Inf.val Inf.arr
  simp only
  have HF := Lib.hid (Below.refl w.heap.size w)
  go_enter Try.func11, Try.ntmps11
  go_wp2
  refine bodyPost_ret (results_cell_row rfl _ _ (w.heap.size + 1) 35 _ _ _ rfl (heap_alloc2_new _ _ _) Try.underlying35 rfl (by kernel_rfl)) rfl ?_
  exact ⟨rfl, (HF.out.alloc (Nat.le_refl _) _).alloc (by simp) _⟩
end Go.Proofs.Ytdfbdjlcbjdabaa
