/- Right, the table's and the reference's: what they answer. No condition. -/
import Derived.Test.YtdfbdjlcbjdabaaTab
namespace Go.Proofs.Ytdfbdjlcbjdabaa
open Go.RowKit
set_option linter.unusedVariables false
structure Inf.In (i : Inf) : Prop where
  ok : i.Ok
  ar : 0 ≤ i.ar
  tag : 0 ≤ i.tag
  code : 0 ≤ i.code
  of : 0 ≤ i.of
  pick : 0 ≤ i.pick
/-- Which sorts there can be, of those that are in range. -/
def Inf.rest (i : Inf) : Prop :=
  (i.kind = 0 ∧ i.nons = 0 ∧ i.ar = 0 ∧ i.code = 0 ∧ i.pick = 0 ∧ i.of = 0) ∨
  (i.kind = 1 ∧ i.ptrs = 0 ∧ i.nons = 0 ∧ 0 < i.ar ∧ i.tag = 0 ∧ i.pick = 0 ∧ i.of = 0) ∨
  (i.kind = 2 ∧ i.nons = 0 ∧ i.ar = 0 ∧ i.tag = 0 ∧ ((i.pick = 0 ∧ i.of = 0) ∨ (i.ptrs = 1 ∧ 0 < i.pick))) ∨
  ((i.kind = 3 ∨ i.kind = 7) ∧ i.ptrs = 0 ∧ i.nons = 0 ∧ i.ar = 0 ∧ i.tag = 0 ∧ i.code = 0 ∧ i.pick = 0 ∧ i.of = 0) ∨
  ((i.kind = 4 ∨ i.kind = 5) ∧ i.ptrs = 0 ∧ i.nons = 1 ∧ i.ar = 0 ∧ i.tag = 0 ∧ i.code = 0 ∧ i.pick = 0 ∧ i.of = 0) ∨
  (i.kind = 6 ∧ i.ptrs = 1 ∧ i.nons = 0 ∧ i.ar = 0 ∧ i.tag = 0 ∧ i.code = 0 ∧ i.pick = 0 ∧ i.of = 0)
def Inf.right (i : Inf) : Prop := i.In ∧ i.rest
instance (i : Inf) : Decidable i.In := decidable_of_iff ((0 ≤ i.ptrs ∧ i.ptrs ≤ 60 ∧ 0 ≤ i.nons ∧ i.nons ≤ 60 ∧ i.ptrs + i.nons ≤ 60) ∧ 0 ≤ i.ar ∧ 0 ≤ i.tag ∧ 0 ≤ i.code ∧ 0 ≤ i.of ∧ 0 ≤ i.pick)
  ⟨fun h => ⟨⟨h.1.1, h.1.2.1, h.1.2.2.1, h.1.2.2.2.1, h.1.2.2.2.2⟩, h.2.1, h.2.2.1, h.2.2.2.1, h.2.2.2.2.1, h.2.2.2.2.2⟩, fun h => ⟨⟨h.1.1, h.1.2, h.1.3, h.1.4, h.1.5⟩, h.2, h.3, h.4, h.5, h.6⟩⟩
instance (i : Inf) : Decidable i.rest := by unfold Inf.rest; exact inferInstance
instance (i : Inf) : Decidable i.right := by unfold Inf.right; exact inferInstance

set_option maxRecDepth 100000 in
set_option maxHeartbeats 4000000 in
theorem right_out (i : Inf) (h : ¬ i.In) (w : World) : Calls Try.prog 9 #[i.val] w fun e w' => e = .returned (.bool false) ∧ Below w.heap.size w w' := by
  obtain ⟨k, p, n, a, t, c, o, pk, nm⟩ := i
  have hnot : ¬ ((0 ≤ p ∧ p ≤ 60 ∧ 0 ≤ n ∧ n ≤ 60 ∧ p + n ≤ 60) ∧ 0 ≤ a ∧ 0 ≤ t ∧ 0 ≤ c ∧ 0 ≤ o ∧ 0 ≤ pk) := fun h' => h ⟨⟨h'.1.1, h'.1.2.1, h'.1.2.2.1, h'.1.2.2.2.1, h'.1.2.2.2.2⟩, h'.2.1, h'.2.2.1, h'.2.2.2.1, h'.2.2.2.2.1, h'.2.2.2.2.2⟩
  unfold Inf.val
  simp only
  clear h
  have HF := Lib.hid (Below.refl w.heap.size w)
  by_cases c0 : p < 0
  · clear hnot
    go_enter Try.func9, Try.ntmps9
    go_wp2
    go_ret
    exact ⟨rfl, HF.out.alloc (Nat.le_refl _) _⟩
  ·
    by_cases c1 : n < 0
    · clear hnot
      go_enter Try.func9, Try.ntmps9
      go_wp2
      go_ret
      exact ⟨rfl, HF.out.alloc (Nat.le_refl _) _⟩
    ·
      by_cases c2 : 60 < p
      · clear hnot
        go_enter Try.func9, Try.ntmps9
        go_wp2
        go_ret
        exact ⟨rfl, HF.out.alloc (Nat.le_refl _) _⟩
      ·
        by_cases c3 : 60 < n
        · clear hnot
          go_enter Try.func9, Try.ntmps9
          go_wp2
          go_ret
          exact ⟨rfl, HF.out.alloc (Nat.le_refl _) _⟩
        ·
          by_cases c4 : 60 < p + n
          · clear hnot
            go_enter Try.func9, Try.ntmps9
            go_wp2
            go_ret
            exact ⟨rfl, HF.out.alloc (Nat.le_refl _) _⟩
          ·
            by_cases c5 : t < 0
            · clear hnot
              go_enter Try.func9, Try.ntmps9
              go_wp2
              go_ret
              exact ⟨rfl, HF.out.alloc (Nat.le_refl _) _⟩
            ·
              by_cases c6 : c < 0
              · clear hnot
                go_enter Try.func9, Try.ntmps9
                go_wp2
                go_ret
                exact ⟨rfl, HF.out.alloc (Nat.le_refl _) _⟩
              ·
                by_cases c7 : a < 0
                · clear hnot
                  go_enter Try.func9, Try.ntmps9
                  go_wp2
                  go_ret
                  exact ⟨rfl, HF.out.alloc (Nat.le_refl _) _⟩
                ·
                  by_cases c8 : o < 0
                  · clear hnot
                    go_enter Try.func9, Try.ntmps9
                    go_wp2
                    go_ret
                    exact ⟨rfl, HF.out.alloc (Nat.le_refl _) _⟩
                  ·
                    by_cases c9 : pk < 0
                    · clear hnot
                      go_enter Try.func9, Try.ntmps9
                      go_wp2
                      go_ret
                      exact ⟨rfl, HF.out.alloc (Nat.le_refl _) _⟩
                    ·
                      exact absurd ⟨⟨by omega, by omega, by omega, by omega, by omega⟩, by omega, by omega, by omega, by omega, by omega⟩ hnot

set_option maxRecDepth 100000 in
set_option maxHeartbeats 8000000 in
theorem right_k0 (p n a t c o pk : Int) (nm : ByteArray) (hin : (0 ≤ p ∧ p ≤ 60 ∧ 0 ≤ n ∧ n ≤ 60 ∧ p + n ≤ 60) ∧ 0 ≤ a ∧ 0 ≤ t ∧ 0 ≤ c ∧ 0 ≤ o ∧ 0 ≤ pk) (R : Bool) (hR : R = true ↔ n = 0 ∧ a = 0 ∧ c = 0 ∧ pk = 0 ∧ o = 0) (w : World) :
    Calls Try.prog 9 #[.agg #[.int .i64 (0), .int .i64 p, .int .i64 n, .int .i64 a, .int .i64 t, .int .i64 c, .int .i64 o, .int .i64 pk, .string nm]] w fun e w' => e = .returned (.bool R) ∧ Below w.heap.size w w' := by
  have HR := Lib.hid hR
  have HF := Lib.hid (Below.refl w.heap.size w)
  have HIN := Lib.hid hin
  have w0 : wrap64 (p + n) = p + n := by unfold wrap64; omega
  have d0 : decide (p < 0) = false := by simp; omega
  have d1 : decide (n < 0) = false := by simp; omega
  have d2 : decide (60 < p) = false := by simp; omega
  have d3 : decide (60 < n) = false := by simp; omega
  have d4 : decide (60 < p + n) = false := by simp; omega
  have d5 : decide (t < 0) = false := by simp; omega
  have d6 : decide (c < 0) = false := by simp; omega
  have d7 : decide (a < 0) = false := by simp; omega
  have d8 : decide (o < 0) = false := by simp; omega
  have d9 : decide (pk < 0) = false := by simp; omega
  clear hin hR
  go_enter Try.func9, Try.ntmps9
  go_wp2
  all_goals
    go_ret
    refine ⟨congrArg (fun b => Ending.returned (Value.bool b)) (Bool.eq_iff_iff.2 ?_), HF.out.alloc (Nat.le_refl _) _⟩
    have hr := HR.out
    have hin := HIN.out
    clear w0 d0 d1 d2 d3 d4 d5 d6 d7 d8 d9
    rw [show (R = true ↔ (n = 0 ∧ a = 0 ∧ c = 0 ∧ pk = 0 ∧ o = 0)) from hr]
    first | (simp only [beq_iff_eq]; omega) | (simp only [Bool.false_eq_true, false_iff]; omega) | (simp only [true_iff]; omega) | (simp; done) | (simp; omega)

set_option maxRecDepth 100000 in
set_option maxHeartbeats 8000000 in
theorem right_k1 (p n a t c o pk : Int) (nm : ByteArray) (hin : (0 ≤ p ∧ p ≤ 60 ∧ 0 ≤ n ∧ n ≤ 60 ∧ p + n ≤ 60) ∧ 0 ≤ a ∧ 0 ≤ t ∧ 0 ≤ c ∧ 0 ≤ o ∧ 0 ≤ pk) (R : Bool) (hR : R = true ↔ p = 0 ∧ n = 0 ∧ 0 < a ∧ t = 0 ∧ pk = 0 ∧ o = 0) (w : World) :
    Calls Try.prog 9 #[.agg #[.int .i64 (1), .int .i64 p, .int .i64 n, .int .i64 a, .int .i64 t, .int .i64 c, .int .i64 o, .int .i64 pk, .string nm]] w fun e w' => e = .returned (.bool R) ∧ Below w.heap.size w w' := by
  have HR := Lib.hid hR
  have HF := Lib.hid (Below.refl w.heap.size w)
  have HIN := Lib.hid hin
  have w0 : wrap64 (p + n) = p + n := by unfold wrap64; omega
  have d0 : decide (p < 0) = false := by simp; omega
  have d1 : decide (n < 0) = false := by simp; omega
  have d2 : decide (60 < p) = false := by simp; omega
  have d3 : decide (60 < n) = false := by simp; omega
  have d4 : decide (60 < p + n) = false := by simp; omega
  have d5 : decide (t < 0) = false := by simp; omega
  have d6 : decide (c < 0) = false := by simp; omega
  have d7 : decide (a < 0) = false := by simp; omega
  have d8 : decide (o < 0) = false := by simp; omega
  have d9 : decide (pk < 0) = false := by simp; omega
  clear hin hR
  go_enter Try.func9, Try.ntmps9
  go_wp2
  all_goals
    go_ret
    refine ⟨congrArg (fun b => Ending.returned (Value.bool b)) (Bool.eq_iff_iff.2 ?_), HF.out.alloc (Nat.le_refl _) _⟩
    have hr := HR.out
    have hin := HIN.out
    clear w0 d0 d1 d2 d3 d4 d5 d6 d7 d8 d9
    rw [show (R = true ↔ (p = 0 ∧ n = 0 ∧ 0 < a ∧ t = 0 ∧ pk = 0 ∧ o = 0)) from hr]
    first | (simp only [beq_iff_eq]; omega) | (simp only [Bool.false_eq_true, false_iff]; omega) | (simp only [true_iff]; omega) | (simp; done) | (simp; omega)
end Go.Proofs.Ytdfbdjlcbjdabaa
