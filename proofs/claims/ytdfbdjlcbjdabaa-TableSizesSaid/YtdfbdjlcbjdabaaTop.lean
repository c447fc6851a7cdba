/- TableRight, TableSizes: the walks. No condition. -/
import Derived.Test.YtdfbdjlcbjdabaaRightA
import Derived.Test.YtdfbdjlcbjdabaaRightB
import Derived.Test.YtdfbdjlcbjdabaaRightC
import Derived.Test.YtdfbdjlcbjdabaaRightD
import Derived.Test.YtdfbdjlcbjdabaaRefR
import Derived.Test.YtdfbdjlcbjdabaaHead
import Derived.Deep.RegionHeld3
namespace Go.Proofs.Ytdfbdjlcbjdabaa
open Go.RowKit
set_option linter.unusedVariables false
set_option linter.unusedSimpArgs false
theorem in_iff (k p n a t c o pk : Int) (nm : ByteArray) : Inf.In ⟨k, p, n, a, t, c, o, pk, nm⟩ ↔ inRange p n a t c o pk :=
  ⟨fun h => ⟨⟨h.1.1, h.1.2, h.1.3, h.1.4, h.1.5⟩, h.2, h.3, h.4, h.5, h.6⟩, fun h => ⟨⟨h.1.1, h.1.2.1, h.1.2.2.1, h.1.2.2.2.1, h.1.2.2.2.2⟩, h.2.1, h.2.2.1, h.2.2.2.1, h.2.2.2.2.1, h.2.2.2.2.2⟩⟩
/-- Right, of any sort. -/
theorem right_any (k p n a t c o pk : Int) (nm : ByteArray) (R : Bool) (hR : R = true ↔ inRange p n a t c o pk ∧ restOf k p n a t c o pk) (w : World) :
    Calls Try.prog 9 #[Inf.val ⟨k, p, n, a, t, c, o, pk, nm⟩] w fun e w' => e = .returned (.bool R) ∧ Below w.heap.size w w' := by
  by_cases hin : inRange p n a t c o pk
  · have hR2 : R = true ↔ restOf k p n a t c o pk := hR.trans ⟨fun h => h.2, fun h => ⟨hin, h⟩⟩
    by_cases k0 : k = 0
    · subst k0; exact right_k0 p n a t c o pk nm hin R (hR2.trans (rest_0 ..)) w
    by_cases k1 : k = 1
    · subst k1; exact right_k1 p n a t c o pk nm hin R (hR2.trans (rest_1 ..)) w
    by_cases k2 : k = 2
    · subst k2; exact right_k2 p n a t c o pk nm hin R (hR2.trans (rest_2 ..)) w
    by_cases k3 : k = 3
    · subst k3; exact right_k3 p n a t c o pk nm hin R (hR2.trans (rest_3 ..)) w
    by_cases k4 : k = 4
    · subst k4; exact right_k4 p n a t c o pk nm hin R (hR2.trans (rest_4 ..)) w
    by_cases k5 : k = 5
    · subst k5; exact right_k5 p n a t c o pk nm hin R (hR2.trans (rest_5 ..)) w
    by_cases k6 : k = 6
    · subst k6; exact right_k6 p n a t c o pk nm hin R (hR2.trans (rest_6 ..)) w
    by_cases k7 : k = 7
    · subst k7; exact right_k7 p n a t c o pk nm hin R (hR2.trans (rest_7 ..)) w
    refine right_k8 k (by simpa using k0) (by simpa using k1) (by simpa using k2) (by simpa using k3) (by simpa using k4) (by simpa using k5) (by simpa using k6) (by simpa using k7) p n a t c o pk nm hin R (hR2.trans ⟨fun h => ?_, fun h => h.elim⟩) w
    unfold restOf at h
    omega
  · have hRf : R = false := by
      cases R with
      | false => rfl
      | true => exact absurd (hR.1 rfl).1 hin
    rw [hRf]
    exact right_out ⟨k, p, n, a, t, c, o, pk, nm⟩ (fun h => hin ((in_iff ..).1 h)) w
/-- What stays of a boxed sort. -/
def Box (B : Nat) (W1 w' : World) (k p n a t c o pk : Int) (nm : ByteArray) : Prop := Hid (Below (B + 1) W1 w' ∧ B + 1 ≤ w'.heap.size) ∧ w'.cell? ⟨B, 0, none⟩ = some (.int .i64 k) ∧ w'.cell? ⟨B, 1, none⟩ = some (.int .i64 p) ∧ w'.cell? ⟨B, 2, none⟩ = some (.int .i64 n) ∧ w'.cell? ⟨B, 3, none⟩ = some (.int .i64 a) ∧ w'.cell? ⟨B, 4, none⟩ = some (.int .i64 t) ∧ w'.cell? ⟨B, 5, none⟩ = some (.int .i64 c) ∧ w'.cell? ⟨B, 6, none⟩ = some (.int .i64 o) ∧ w'.cell? ⟨B, 7, none⟩ = some (.int .i64 pk) ∧ w'.cell? ⟨B, 8, none⟩ = some (.string nm)
theorem Box.go {B : Nat} {W1 w' w2 : World} {k p n a t c o pk : Int} {nm : ByteArray} (h : Box B W1 w' k p n a t c o pk nm) (hb : Below w'.heap.size w' w2) : Box B W1 w2 k p n a t c o pk nm := by
  obtain ⟨h1, c0, c1, c2, c3, c4, c5, c6, c7, c8⟩ := h
  exact ⟨⟨h1.out.1.trans (hb.mono h1.out.2), Nat.le_trans h1.out.2 hb.size⟩, cell_later hb c0, cell_later hb c1, cell_later hb c2, cell_later hb c3, cell_later hb c4, cell_later hb c5, cell_later hb c6, cell_later hb c7, cell_later hb c8⟩
/-- What a walk has at hand, whatever world it is in. -/
theorem walks (k p n a t c o pk : Int) (nm : ByteArray) (R : Bool) (hR : R = true ↔ inRange p n a t c o pk ∧ restOf k p n a t c o pk) (B : Nat) (W1 : World) :
    (∀ W, Box B W1 W k p n a t c o pk nm → Calls Try.prog 6 #[] W fun e w' => e = .returned (.bool true) ∧ Box B W1 w' k p n a t c o pk nm) ∧
    (∀ W, Box B W1 W k p n a t c o pk nm → Calls Try.prog 9 #[Inf.val ⟨k, p, n, a, t, c, o, pk, nm⟩] W fun e w' => e = .returned (.bool R) ∧ Box B W1 w' k p n a t c o pk nm) ∧
    (∀ W, Box B W1 W k p n a t c o pk nm → Calls Try.prog 11 #[Inf.val ⟨k, p, n, a, t, c, o, pk, nm⟩] W fun e w' => e = .returned (Inf.arr ⟨k, p, n, a, t, c, o, pk, nm⟩) ∧ Box B W1 w' k p n a t c o pk nm) ∧
    (∀ W, Box B W1 W k p n a t c o pk nm → Calls Try.prog 10 #[Inf.arr ⟨k, p, n, a, t, c, o, pk, nm⟩] W fun e w' => e = .returned (.bool R) ∧ Box B W1 w' k p n a t c o pk nm) := by
  refine ⟨fun W hW => (lives14 W).mono ?_, fun W hW => (right_any k p n a t c o pk nm R hR W).mono ?_, fun W hW => (of_any _ W).mono ?_, fun W hW => (ref_right k p n a t c o pk nm R hR W).mono ?_⟩
  · rintro e w' ⟨rfl, rfl⟩; exact ⟨rfl, hW⟩
  · rintro e w' ⟨rfl, h⟩; exact ⟨rfl, hW.go h⟩
  · rintro e w' ⟨rfl, h⟩; exact ⟨rfl, hW.go h⟩
  · rintro e w' ⟨rfl, h⟩; exact ⟨rfl, hW.go h⟩
theorem ref_fits' (i : Inf) (hi : i.Ok) (m : Int) (w : World) : Calls Try.prog 14 #[i.arr, .int .i64 m] w fun e w' => e = .returned (.bool (i.fits m)) ∧ Below w.heap.size w w' := by
  obtain ⟨k, p, n, a, t, c, o, pk, nm⟩ := i
  obtain ⟨p0, p1, n0, n1, hs⟩ := hi
  simp only at p0 p1 n0 n1 hs
  refine ref_fits k p n a t c o pk nm m ⟨p0, p1⟩ ⟨n0, n1⟩ (Inf.fits ⟨k, p, n, a, t, c, o, pk, nm⟩ m) ?_ w
  unfold Inf.fits Inf.size
  simp only
  by_cases k3 : k = 3
  · rw [if_pos k3]; simp; omega
  · rw [if_neg k3]
    by_cases k67 : k = 7 ∨ k = 6
    · rw [if_pos k67]; simp; omega
    · rw [if_neg k67, if_neg (by omega)]; simp only [decide_eq_true_eq]; omega
theorem walks2 (k p n a t c o pk : Int) (nm : ByteArray) (hi : Inf.Ok ⟨k, p, n, a, t, c, o, pk, nm⟩) (B : Nat) (W1 : World) :
    (∀ W, Box B W1 W k p n a t c o pk nm → Calls Try.prog 12 #[Inf.val ⟨k, p, n, a, t, c, o, pk, nm⟩] W fun e w' => e = .returned (.int .i64 (Inf.size ⟨k, p, n, a, t, c, o, pk, nm⟩)) ∧ Box B W1 w' k p n a t c o pk nm) ∧
    (∀ m W, Box B W1 W k p n a t c o pk nm → Calls Try.prog 13 #[Inf.val ⟨k, p, n, a, t, c, o, pk, nm⟩, .int .i64 m] W fun e w' => e = .returned (.bool (Inf.fits ⟨k, p, n, a, t, c, o, pk, nm⟩ m)) ∧ Box B W1 w' k p n a t c o pk nm) ∧
    (∀ m W, Box B W1 W k p n a t c o pk nm → Calls Try.prog 14 #[Inf.arr ⟨k, p, n, a, t, c, o, pk, nm⟩, .int .i64 m] W fun e w' => e = .returned (.bool (Inf.fits ⟨k, p, n, a, t, c, o, pk, nm⟩ m)) ∧ Box B W1 w' k p n a t c o pk nm) ∧
    (∀ m W, Box B W1 W k p n a t c o pk nm → Calls Try.prog 15 #[Inf.val ⟨k, p, n, a, t, c, o, pk, nm⟩, .int .i64 m] W fun e w' => e = .returned (.int .i64 (Inf.pointers ⟨k, p, n, a, t, c, o, pk, nm⟩ m)) ∧ Box B W1 w' k p n a t c o pk nm) := by
  refine ⟨fun W hW => (size_any _ hi W).mono ?_, fun m W hW => (fits_any _ hi m W).mono ?_, fun m W hW => (ref_fits' _ hi m W).mono ?_, fun m W hW => (pointers_any _ m W).mono ?_⟩ <;>
  · rintro e w' ⟨rfl, h⟩; exact ⟨rfl, hW.go h⟩
theorem bool_of (P : Prop) : ∃ R : Bool, R = true ↔ P := by
  by_cases h : P
  · exact ⟨true, ⟨fun _ => h, fun _ => rfl⟩⟩
  · exact ⟨false, ⟨fun h => (by cases h), fun h' => absurd h' h⟩⟩
theorem box_start (w : World) (k p n a t c o pk : Int) (nm : ByteArray) : Box w.heap.size (w.alloc (.cells #[.int .i64 k, .int .i64 p, .int .i64 n, .int .i64 a, .int .i64 t, .int .i64 c, .int .i64 o, .int .i64 pk, .string nm] 31)) (w.alloc (.cells #[.int .i64 k, .int .i64 p, .int .i64 n, .int .i64 a, .int .i64 t, .int .i64 c, .int .i64 o, .int .i64 pk, .string nm] 31)) k p n a t c o pk nm := by
  refine ⟨⟨Below.refl _ _, by simp⟩, ?_⟩
  simp [World.cell?_alloc_new]
namespace tableRight
set_option maxRecDepth 100000 in
set_option maxHeartbeats 8000000 in
theorem walk (k p n a t c o pk : Int) (nm : ByteArray) (m : Int) (w : World) : Calls Try.prog 4 #[.agg #[.int .i64 k, .int .i64 p, .int .i64 n, .int .i64 a, .int .i64 t, .int .i64 c, .int .i64 o, .int .i64 pk, .string nm], .int .i64 m] w fun e w' => e = .returned (.bool true) ∧ Below w.heap.size w w' := by
  obtain ⟨R, hR⟩ := bool_of (inRange p n a t c o pk ∧ restOf k p n a t c o pk)
  have HBX := Lib.hid (box_start w k p n a t c o pk nm)
  have HEND : Hid (∀ w', Box w.heap.size (w.alloc (.cells #[.int .i64 k, .int .i64 p, .int .i64 n, .int .i64 a, .int .i64 t, .int .i64 c, .int .i64 o, .int .i64 pk, .string nm] 31)) w' k p n a t c o pk nm → Below w.heap.size w w') := fun w' h => ((Below.refl _ w).alloc (Nat.le_refl _) _).trans (h.1.out.1.mono (by omega))
  obtain ⟨h6, h9, h11, h10⟩ := walks k p n a t c o pk nm R hR w.heap.size (w.alloc (.cells #[.int .i64 k, .int .i64 p, .int .i64 n, .int .i64 a, .int .i64 t, .int .i64 c, .int .i64 o, .int .i64 pk, .string nm] 31))
  obtain ⟨B, hB⟩ : ∃ B, B = w.heap.size := ⟨_, rfl⟩
  obtain ⟨W1, hW1⟩ : ∃ W1, W1 = (w.alloc (.cells #[.int .i64 k, .int .i64 p, .int .i64 n, .int .i64 a, .int .i64 t, .int .i64 c, .int .i64 o, .int .i64 pk, .string nm] 31)) := ⟨_, rfl⟩
  have HBW := Lib.hid (And.intro hB hW1)
  rw [← hB, ← hW1] at h6 h9 h10 h11 HEND
  rw [← hB]
  unfold Inf.val Inf.arr at *
  simp only at h9 h10 h11
  have HR := Lib.hid hR
  have HB1 : Hid (Box B W1 W1 k p n a t c o pk nm) := by rw [HBW.out.1, HBW.out.2]; exact HBX.out
  have A6 : Hid (∀ W, Hid (Box B W1 W k p n a t c o pk nm) → Calls Try.prog 6 #[] W fun e w' => e = .returned (.bool true) ∧ Hid (Box B W1 w' k p n a t c o pk nm) ∧ w'.cell? ⟨B, 0, none⟩ = some (.int .i64 k) ∧ w'.cell? ⟨B, 1, none⟩ = some (.int .i64 p) ∧ w'.cell? ⟨B, 2, none⟩ = some (.int .i64 n) ∧ w'.cell? ⟨B, 3, none⟩ = some (.int .i64 a) ∧ w'.cell? ⟨B, 4, none⟩ = some (.int .i64 t) ∧ w'.cell? ⟨B, 5, none⟩ = some (.int .i64 c) ∧ w'.cell? ⟨B, 6, none⟩ = some (.int .i64 o) ∧ w'.cell? ⟨B, 7, none⟩ = some (.int .i64 pk) ∧ w'.cell? ⟨B, 8, none⟩ = some (.string nm)) := fun W hW => (h6 W hW.out).mono fun e w' h => ⟨h.1, h.2, h.2.2⟩
  have A9 : Hid (∀ W, Hid (Box B W1 W k p n a t c o pk nm) → Calls Try.prog 9 #[.agg #[.int .i64 k, .int .i64 p, .int .i64 n, .int .i64 a, .int .i64 t, .int .i64 c, .int .i64 o, .int .i64 pk, .string nm]] W fun e w' => e = .returned (.bool R) ∧ Hid (Box B W1 w' k p n a t c o pk nm) ∧ w'.cell? ⟨B, 0, none⟩ = some (.int .i64 k) ∧ w'.cell? ⟨B, 1, none⟩ = some (.int .i64 p) ∧ w'.cell? ⟨B, 2, none⟩ = some (.int .i64 n) ∧ w'.cell? ⟨B, 3, none⟩ = some (.int .i64 a) ∧ w'.cell? ⟨B, 4, none⟩ = some (.int .i64 t) ∧ w'.cell? ⟨B, 5, none⟩ = some (.int .i64 c) ∧ w'.cell? ⟨B, 6, none⟩ = some (.int .i64 o) ∧ w'.cell? ⟨B, 7, none⟩ = some (.int .i64 pk) ∧ w'.cell? ⟨B, 8, none⟩ = some (.string nm)) := fun W hW => (h9 W hW.out).mono fun e w' h => ⟨h.1, h.2, h.2.2⟩
  have A11 : Hid (∀ W, Hid (Box B W1 W k p n a t c o pk nm) → Calls Try.prog 11 #[.agg #[.int .i64 k, .int .i64 p, .int .i64 n, .int .i64 a, .int .i64 t, .int .i64 c, .int .i64 o, .int .i64 pk, .string nm]] W fun e w' => e = .returned (.agg #[.int .i64 k, .int .i64 p, .int .i64 n, .int .i64 a, .int .i64 t, .int .i64 c, .int .i64 o, .int .i64 pk]) ∧ Hid (Box B W1 w' k p n a t c o pk nm) ∧ w'.cell? ⟨B, 0, none⟩ = some (.int .i64 k) ∧ w'.cell? ⟨B, 1, none⟩ = some (.int .i64 p) ∧ w'.cell? ⟨B, 2, none⟩ = some (.int .i64 n) ∧ w'.cell? ⟨B, 3, none⟩ = some (.int .i64 a) ∧ w'.cell? ⟨B, 4, none⟩ = some (.int .i64 t) ∧ w'.cell? ⟨B, 5, none⟩ = some (.int .i64 c) ∧ w'.cell? ⟨B, 6, none⟩ = some (.int .i64 o) ∧ w'.cell? ⟨B, 7, none⟩ = some (.int .i64 pk) ∧ w'.cell? ⟨B, 8, none⟩ = some (.string nm)) := fun W hW => (h11 W hW.out).mono fun e w' h => ⟨h.1, h.2, h.2.2⟩
  have A10 : Hid (∀ W, Hid (Box B W1 W k p n a t c o pk nm) → Calls Try.prog 10 #[.agg #[.int .i64 k, .int .i64 p, .int .i64 n, .int .i64 a, .int .i64 t, .int .i64 c, .int .i64 o, .int .i64 pk]] W fun e w' => e = .returned (.bool R) ∧ Hid (Box B W1 w' k p n a t c o pk nm) ∧ w'.cell? ⟨B, 0, none⟩ = some (.int .i64 k) ∧ w'.cell? ⟨B, 1, none⟩ = some (.int .i64 p) ∧ w'.cell? ⟨B, 2, none⟩ = some (.int .i64 n) ∧ w'.cell? ⟨B, 3, none⟩ = some (.int .i64 a) ∧ w'.cell? ⟨B, 4, none⟩ = some (.int .i64 t) ∧ w'.cell? ⟨B, 5, none⟩ = some (.int .i64 c) ∧ w'.cell? ⟨B, 6, none⟩ = some (.int .i64 o) ∧ w'.cell? ⟨B, 7, none⟩ = some (.int .i64 pk) ∧ w'.cell? ⟨B, 8, none⟩ = some (.string nm)) := fun W hW => (h10 W hW.out).mono fun e w' h => ⟨h.1, h.2, h.2.2⟩
  have HB1' := HB1.out.2
  have HD : Hid (Box B W1 W1.drew k p n a t c o pk nm) := HB1.out.go ((Below.refl _ W1).drew)
  clear h6 h9 h11 h10 hR hB hW1 HBX
  cases R with
  | false =>
    go_enter Try.func4, Try.ntmps4
    go_wp2_with fail
    rw [← HBW.out.2, ← HBW.out.1]
    obtain ⟨c0, c1, c2, c3, c4, c5, c6, c7, c8⟩ := HB1'
    go_region_held3 (fun w' => Hid (Box B W1 w' k p n a t c o pk nm) ∧ w'.cell? ⟨B, 0, none⟩ = some (.int .i64 k) ∧ w'.cell? ⟨B, 1, none⟩ = some (.int .i64 p) ∧ w'.cell? ⟨B, 2, none⟩ = some (.int .i64 n) ∧ w'.cell? ⟨B, 3, none⟩ = some (.int .i64 a) ∧ w'.cell? ⟨B, 4, none⟩ = some (.int .i64 t) ∧ w'.cell? ⟨B, 5, none⟩ = some (.int .i64 c) ∧ w'.cell? ⟨B, 6, none⟩ = some (.int .i64 o) ∧ w'.cell? ⟨B, 7, none⟩ = some (.int .i64 pk) ∧ w'.cell? ⟨B, 8, none⟩ = some (.string nm)) (simp [*])
      (first | (go_at_call 6; refine (A6.out _ ?_).mono ?_; (simp [*]); rintro e w9 ⟨rfl, h9, g0, g1, g2, g3, g4, g5, g6, g7, g8⟩) | (go_at_call 9; refine (A9.out _ ?_).mono ?_; (simp [*]); rintro e w9 ⟨rfl, h9, g0, g1, g2, g3, g4, g5, g6, g7, g8⟩) | (go_at_call 11; refine (A11.out _ ?_).mono ?_; (simp [*]); rintro e w9 ⟨rfl, h9, g0, g1, g2, g3, g4, g5, g6, g7, g8⟩) | (go_at_call 10; refine (A10.out _ ?_).mono ?_; (simp [*]); rintro e w9 ⟨rfl, h9, g0, g1, g2, g3, g4, g5, g6, g7, g8⟩))
    go_wp2_with (first | (go_at_call 6; refine (A6.out _ ?_).mono ?_; (simp [*]); rintro e w9 ⟨rfl, h9, g0, g1, g2, g3, g4, g5, g6, g7, g8⟩) | (go_at_call 9; refine (A9.out _ ?_).mono ?_; (simp [*]); rintro e w9 ⟨rfl, h9, g0, g1, g2, g3, g4, g5, g6, g7, g8⟩) | (go_at_call 11; refine (A11.out _ ?_).mono ?_; (simp [*]); rintro e w9 ⟨rfl, h9, g0, g1, g2, g3, g4, g5, g6, g7, g8⟩) | (go_at_call 10; refine (A10.out _ ?_).mono ?_; (simp [*]); rintro e w9 ⟨rfl, h9, g0, g1, g2, g3, g4, g5, g6, g7, g8⟩))
    go_ret
    exact ⟨rfl, HEND.out _ h9.out⟩
  | true =>
    obtain ⟨hin, hrest⟩ := HR.out.1 rfl
    obtain ⟨h12, h13, h14, h15⟩ := walks2 k p n a t c o pk nm ((in_iff ..).2 hin).ok B W1
    obtain ⟨F, hF⟩ : ∃ F, F = Inf.fits ⟨k, p, n, a, t, c, o, pk, nm⟩ m := ⟨_, rfl⟩
    obtain ⟨Z, hZ⟩ : ∃ Z, Z = Inf.size ⟨k, p, n, a, t, c, o, pk, nm⟩ := ⟨_, rfl⟩
    obtain ⟨Y, hY⟩ : ∃ Y, Y = Inf.pointers ⟨k, p, n, a, t, c, o, pk, nm⟩ m := ⟨_, rfl⟩
    have h13' := h13 m
    have h14' := h14 m
    have h15' := h15 m
    rw [← hF] at h13' h14'
    rw [← hZ] at h12
    rw [← hY] at h15'
    unfold Inf.size at hZ
    unfold Inf.pointers at hY
    unfold Inf.val at h12 h13' h15'
    unfold Inf.arr at h14'
    simp only at h12 h13' h14' h15' hZ hY
    have hsum : wrap64 (p + n) = p + n := by
      obtain ⟨⟨h1, h2, h3, h4, h5⟩, _⟩ := hin
      unfold wrap64; omega
    have A12 : Hid (∀ W, Hid (Box B W1 W k p n a t c o pk nm) → Calls Try.prog 12 #[.agg #[.int .i64 k, .int .i64 p, .int .i64 n, .int .i64 a, .int .i64 t, .int .i64 c, .int .i64 o, .int .i64 pk, .string nm]] W fun e w' => e = .returned (.int .i64 Z) ∧ Hid (Box B W1 w' k p n a t c o pk nm) ∧ w'.cell? ⟨B, 0, none⟩ = some (.int .i64 k) ∧ w'.cell? ⟨B, 1, none⟩ = some (.int .i64 p) ∧ w'.cell? ⟨B, 2, none⟩ = some (.int .i64 n) ∧ w'.cell? ⟨B, 3, none⟩ = some (.int .i64 a) ∧ w'.cell? ⟨B, 4, none⟩ = some (.int .i64 t) ∧ w'.cell? ⟨B, 5, none⟩ = some (.int .i64 c) ∧ w'.cell? ⟨B, 6, none⟩ = some (.int .i64 o) ∧ w'.cell? ⟨B, 7, none⟩ = some (.int .i64 pk) ∧ w'.cell? ⟨B, 8, none⟩ = some (.string nm)) := fun W hW => (h12 W hW.out).mono fun e w' h => ⟨h.1, h.2, h.2.2⟩
    have A13 : Hid (∀ W, Hid (Box B W1 W k p n a t c o pk nm) → Calls Try.prog 13 #[.agg #[.int .i64 k, .int .i64 p, .int .i64 n, .int .i64 a, .int .i64 t, .int .i64 c, .int .i64 o, .int .i64 pk, .string nm], .int .i64 m] W fun e w' => e = .returned (.bool F) ∧ Hid (Box B W1 w' k p n a t c o pk nm) ∧ w'.cell? ⟨B, 0, none⟩ = some (.int .i64 k) ∧ w'.cell? ⟨B, 1, none⟩ = some (.int .i64 p) ∧ w'.cell? ⟨B, 2, none⟩ = some (.int .i64 n) ∧ w'.cell? ⟨B, 3, none⟩ = some (.int .i64 a) ∧ w'.cell? ⟨B, 4, none⟩ = some (.int .i64 t) ∧ w'.cell? ⟨B, 5, none⟩ = some (.int .i64 c) ∧ w'.cell? ⟨B, 6, none⟩ = some (.int .i64 o) ∧ w'.cell? ⟨B, 7, none⟩ = some (.int .i64 pk) ∧ w'.cell? ⟨B, 8, none⟩ = some (.string nm)) := fun W hW => (h13' W hW.out).mono fun e w' h => ⟨h.1, h.2, h.2.2⟩
    have A14 : Hid (∀ W, Hid (Box B W1 W k p n a t c o pk nm) → Calls Try.prog 14 #[.agg #[.int .i64 k, .int .i64 p, .int .i64 n, .int .i64 a, .int .i64 t, .int .i64 c, .int .i64 o, .int .i64 pk], .int .i64 m] W fun e w' => e = .returned (.bool F) ∧ Hid (Box B W1 w' k p n a t c o pk nm) ∧ w'.cell? ⟨B, 0, none⟩ = some (.int .i64 k) ∧ w'.cell? ⟨B, 1, none⟩ = some (.int .i64 p) ∧ w'.cell? ⟨B, 2, none⟩ = some (.int .i64 n) ∧ w'.cell? ⟨B, 3, none⟩ = some (.int .i64 a) ∧ w'.cell? ⟨B, 4, none⟩ = some (.int .i64 t) ∧ w'.cell? ⟨B, 5, none⟩ = some (.int .i64 c) ∧ w'.cell? ⟨B, 6, none⟩ = some (.int .i64 o) ∧ w'.cell? ⟨B, 7, none⟩ = some (.int .i64 pk) ∧ w'.cell? ⟨B, 8, none⟩ = some (.string nm)) := fun W hW => (h14' W hW.out).mono fun e w' h => ⟨h.1, h.2, h.2.2⟩
    have A15 : Hid (∀ W, Hid (Box B W1 W k p n a t c o pk nm) → Calls Try.prog 15 #[.agg #[.int .i64 k, .int .i64 p, .int .i64 n, .int .i64 a, .int .i64 t, .int .i64 c, .int .i64 o, .int .i64 pk, .string nm], .int .i64 m] W fun e w' => e = .returned (.int .i64 Y) ∧ Hid (Box B W1 w' k p n a t c o pk nm) ∧ w'.cell? ⟨B, 0, none⟩ = some (.int .i64 k) ∧ w'.cell? ⟨B, 1, none⟩ = some (.int .i64 p) ∧ w'.cell? ⟨B, 2, none⟩ = some (.int .i64 n) ∧ w'.cell? ⟨B, 3, none⟩ = some (.int .i64 a) ∧ w'.cell? ⟨B, 4, none⟩ = some (.int .i64 t) ∧ w'.cell? ⟨B, 5, none⟩ = some (.int .i64 c) ∧ w'.cell? ⟨B, 6, none⟩ = some (.int .i64 o) ∧ w'.cell? ⟨B, 7, none⟩ = some (.int .i64 pk) ∧ w'.cell? ⟨B, 8, none⟩ = some (.string nm)) := fun W hW => (h15' W hW.out).mono fun e w' h => ⟨h.1, h.2, h.2.2⟩
    clear h12 h13 h14 h15 h13' h14' h15' hF hin hrest HR
    obtain ⟨c0, c1, c2, c3, c4, c5, c6, c7, c8⟩ := HB1'
    have hFF : (F == F) = true := by cases F <;> rfl
    by_cases k3 : k = 3
    · subst k3
      rw [if_pos (.inl rfl)] at hZ
      rw [if_pos rfl] at hY
      have hY := hY.symm
      subst hZ hY
      go_enter Try.func4, Try.ntmps4
      go_wp2_with fail
      rw [← HBW.out.2, ← HBW.out.1]
      go_region_held3 (fun w' => Hid (Box B W1 w' 3 p n a t c o pk nm) ∧ w'.cell? ⟨B, 0, none⟩ = some (.int .i64 3) ∧ w'.cell? ⟨B, 1, none⟩ = some (.int .i64 p) ∧ w'.cell? ⟨B, 2, none⟩ = some (.int .i64 n) ∧ w'.cell? ⟨B, 3, none⟩ = some (.int .i64 a) ∧ w'.cell? ⟨B, 4, none⟩ = some (.int .i64 t) ∧ w'.cell? ⟨B, 5, none⟩ = some (.int .i64 c) ∧ w'.cell? ⟨B, 6, none⟩ = some (.int .i64 o) ∧ w'.cell? ⟨B, 7, none⟩ = some (.int .i64 pk) ∧ w'.cell? ⟨B, 8, none⟩ = some (.string nm)) (simp [*])
        (first | (go_at_call 6; refine (A6.out _ ?_).mono ?_; (simp [*]); rintro e w9 ⟨rfl, h9, g0, g1, g2, g3, g4, g5, g6, g7, g8⟩) | (go_at_call 9; refine (A9.out _ ?_).mono ?_; (simp [*]); rintro e w9 ⟨rfl, h9, g0, g1, g2, g3, g4, g5, g6, g7, g8⟩) | (go_at_call 11; refine (A11.out _ ?_).mono ?_; (simp [*]); rintro e w9 ⟨rfl, h9, g0, g1, g2, g3, g4, g5, g6, g7, g8⟩) | (go_at_call 10; refine (A10.out _ ?_).mono ?_; (simp [*]); rintro e w9 ⟨rfl, h9, g0, g1, g2, g3, g4, g5, g6, g7, g8⟩))
      go_wp2_with (first | (go_at_call 6; refine (A6.out _ ?_).mono ?_; (simp [*]); rintro e w9 ⟨rfl, h9, g0, g1, g2, g3, g4, g5, g6, g7, g8⟩) | (go_at_call 9; refine (A9.out _ ?_).mono ?_; (simp [*]); rintro e w9 ⟨rfl, h9, g0, g1, g2, g3, g4, g5, g6, g7, g8⟩) | (go_at_call 11; refine (A11.out _ ?_).mono ?_; (simp [*]); rintro e w9 ⟨rfl, h9, g0, g1, g2, g3, g4, g5, g6, g7, g8⟩) | (go_at_call 10; refine (A10.out _ ?_).mono ?_; (simp [*]); rintro e w9 ⟨rfl, h9, g0, g1, g2, g3, g4, g5, g6, g7, g8⟩))
      all_goals
        have HD9 : Hid (Box B W1 w9.drew 3 p n a t c o pk nm) := h9.out.go ((Below.refl _ w9).drew)
        go_region_held3 (fun w' => Hid (Box B W1 w' 3 p n a t c o pk nm) ∧ w'.cell? ⟨B, 0, none⟩ = some (.int .i64 3) ∧ w'.cell? ⟨B, 1, none⟩ = some (.int .i64 p) ∧ w'.cell? ⟨B, 2, none⟩ = some (.int .i64 n) ∧ w'.cell? ⟨B, 3, none⟩ = some (.int .i64 a) ∧ w'.cell? ⟨B, 4, none⟩ = some (.int .i64 t) ∧ w'.cell? ⟨B, 5, none⟩ = some (.int .i64 c) ∧ w'.cell? ⟨B, 6, none⟩ = some (.int .i64 o) ∧ w'.cell? ⟨B, 7, none⟩ = some (.int .i64 pk) ∧ w'.cell? ⟨B, 8, none⟩ = some (.string nm)) (simp [*])
          (first | (go_at_call 12; refine (A12.out _ ?_).mono ?_; (simp [*]); rintro e w9 ⟨rfl, h9, g0, g1, g2, g3, g4, g5, g6, g7, g8⟩) | (go_at_call 13; refine (A13.out _ ?_).mono ?_; (simp [*]); rintro e w9 ⟨rfl, h9, g0, g1, g2, g3, g4, g5, g6, g7, g8⟩) | (go_at_call 14; refine (A14.out _ ?_).mono ?_; (simp [*]); rintro e w9 ⟨rfl, h9, g0, g1, g2, g3, g4, g5, g6, g7, g8⟩) | (go_at_call 15; refine (A15.out _ ?_).mono ?_; (simp [*]); rintro e w9 ⟨rfl, h9, g0, g1, g2, g3, g4, g5, g6, g7, g8⟩) | (go_at_call 11; refine (A11.out _ ?_).mono ?_; (simp [*]); rintro e w9 ⟨rfl, h9, g0, g1, g2, g3, g4, g5, g6, g7, g8⟩))
        go_wp2
        go_ret
        exact ⟨rfl, HEND.out _ h9.out⟩
    · rw [if_neg k3] at hY
      have hY := hY.symm
      subst hY
      have q3 : (k == 3) = false := by simpa using k3
      by_cases k7 : k = 7
      · subst k7
        rw [if_pos (.inr rfl)] at hZ
        subst hZ
        clear k3
        go_enter Try.func4, Try.ntmps4
        go_wp2_with fail
        rw [← HBW.out.2, ← HBW.out.1]
        go_region_held3 (fun w' => Hid (Box B W1 w' 7 p n a t c o pk nm) ∧ w'.cell? ⟨B, 0, none⟩ = some (.int .i64 7) ∧ w'.cell? ⟨B, 1, none⟩ = some (.int .i64 p) ∧ w'.cell? ⟨B, 2, none⟩ = some (.int .i64 n) ∧ w'.cell? ⟨B, 3, none⟩ = some (.int .i64 a) ∧ w'.cell? ⟨B, 4, none⟩ = some (.int .i64 t) ∧ w'.cell? ⟨B, 5, none⟩ = some (.int .i64 c) ∧ w'.cell? ⟨B, 6, none⟩ = some (.int .i64 o) ∧ w'.cell? ⟨B, 7, none⟩ = some (.int .i64 pk) ∧ w'.cell? ⟨B, 8, none⟩ = some (.string nm)) (simp [*])
          (first | (go_at_call 6; refine (A6.out _ ?_).mono ?_; (simp [*]); rintro e w9 ⟨rfl, h9, g0, g1, g2, g3, g4, g5, g6, g7, g8⟩) | (go_at_call 9; refine (A9.out _ ?_).mono ?_; (simp [*]); rintro e w9 ⟨rfl, h9, g0, g1, g2, g3, g4, g5, g6, g7, g8⟩) | (go_at_call 11; refine (A11.out _ ?_).mono ?_; (simp [*]); rintro e w9 ⟨rfl, h9, g0, g1, g2, g3, g4, g5, g6, g7, g8⟩) | (go_at_call 10; refine (A10.out _ ?_).mono ?_; (simp [*]); rintro e w9 ⟨rfl, h9, g0, g1, g2, g3, g4, g5, g6, g7, g8⟩))
        go_wp2_with (first | (go_at_call 6; refine (A6.out _ ?_).mono ?_; (simp [*]); rintro e w9 ⟨rfl, h9, g0, g1, g2, g3, g4, g5, g6, g7, g8⟩) | (go_at_call 9; refine (A9.out _ ?_).mono ?_; (simp [*]); rintro e w9 ⟨rfl, h9, g0, g1, g2, g3, g4, g5, g6, g7, g8⟩) | (go_at_call 11; refine (A11.out _ ?_).mono ?_; (simp [*]); rintro e w9 ⟨rfl, h9, g0, g1, g2, g3, g4, g5, g6, g7, g8⟩) | (go_at_call 10; refine (A10.out _ ?_).mono ?_; (simp [*]); rintro e w9 ⟨rfl, h9, g0, g1, g2, g3, g4, g5, g6, g7, g8⟩))
        all_goals
          have HD9 : Hid (Box B W1 w9.drew 7 p n a t c o pk nm) := h9.out.go ((Below.refl _ w9).drew)
          go_region_held3 (fun w' => Hid (Box B W1 w' 7 p n a t c o pk nm) ∧ w'.cell? ⟨B, 0, none⟩ = some (.int .i64 7) ∧ w'.cell? ⟨B, 1, none⟩ = some (.int .i64 p) ∧ w'.cell? ⟨B, 2, none⟩ = some (.int .i64 n) ∧ w'.cell? ⟨B, 3, none⟩ = some (.int .i64 a) ∧ w'.cell? ⟨B, 4, none⟩ = some (.int .i64 t) ∧ w'.cell? ⟨B, 5, none⟩ = some (.int .i64 c) ∧ w'.cell? ⟨B, 6, none⟩ = some (.int .i64 o) ∧ w'.cell? ⟨B, 7, none⟩ = some (.int .i64 pk) ∧ w'.cell? ⟨B, 8, none⟩ = some (.string nm)) (simp [*])
            (first | (go_at_call 12; refine (A12.out _ ?_).mono ?_; (simp [*]); rintro e w9 ⟨rfl, h9, g0, g1, g2, g3, g4, g5, g6, g7, g8⟩) | (go_at_call 13; refine (A13.out _ ?_).mono ?_; (simp [*]); rintro e w9 ⟨rfl, h9, g0, g1, g2, g3, g4, g5, g6, g7, g8⟩) | (go_at_call 14; refine (A14.out _ ?_).mono ?_; (simp [*]); rintro e w9 ⟨rfl, h9, g0, g1, g2, g3, g4, g5, g6, g7, g8⟩) | (go_at_call 15; refine (A15.out _ ?_).mono ?_; (simp [*]); rintro e w9 ⟨rfl, h9, g0, g1, g2, g3, g4, g5, g6, g7, g8⟩) | (go_at_call 11; refine (A11.out _ ?_).mono ?_; (simp [*]); rintro e w9 ⟨rfl, h9, g0, g1, g2, g3, g4, g5, g6, g7, g8⟩))
          go_wp2
          go_ret
          exact ⟨rfl, HEND.out _ h9.out⟩
      · have q7 : (k == 7) = false := by simpa using k7
        rw [if_neg (by omega)] at hZ
        have key : (p + n < 1 ∧ Z = 1) ∨ (¬ p + n < 1 ∧ Z = p + n) := by omega
        clear k3 k7 hZ
        rcases key with ⟨hlt, hz⟩ | ⟨hlt, hz⟩
        · subst hz
          go_enter Try.func4, Try.ntmps4
          go_wp2_with fail
          rw [← HBW.out.2, ← HBW.out.1]
          go_region_held3 (fun w' => Hid (Box B W1 w' k p n a t c o pk nm) ∧ w'.cell? ⟨B, 0, none⟩ = some (.int .i64 k) ∧ w'.cell? ⟨B, 1, none⟩ = some (.int .i64 p) ∧ w'.cell? ⟨B, 2, none⟩ = some (.int .i64 n) ∧ w'.cell? ⟨B, 3, none⟩ = some (.int .i64 a) ∧ w'.cell? ⟨B, 4, none⟩ = some (.int .i64 t) ∧ w'.cell? ⟨B, 5, none⟩ = some (.int .i64 c) ∧ w'.cell? ⟨B, 6, none⟩ = some (.int .i64 o) ∧ w'.cell? ⟨B, 7, none⟩ = some (.int .i64 pk) ∧ w'.cell? ⟨B, 8, none⟩ = some (.string nm)) (simp [*])
            (first | (go_at_call 6; refine (A6.out _ ?_).mono ?_; (simp [*]); rintro e w9 ⟨rfl, h9, g0, g1, g2, g3, g4, g5, g6, g7, g8⟩) | (go_at_call 9; refine (A9.out _ ?_).mono ?_; (simp [*]); rintro e w9 ⟨rfl, h9, g0, g1, g2, g3, g4, g5, g6, g7, g8⟩) | (go_at_call 11; refine (A11.out _ ?_).mono ?_; (simp [*]); rintro e w9 ⟨rfl, h9, g0, g1, g2, g3, g4, g5, g6, g7, g8⟩) | (go_at_call 10; refine (A10.out _ ?_).mono ?_; (simp [*]); rintro e w9 ⟨rfl, h9, g0, g1, g2, g3, g4, g5, g6, g7, g8⟩))
          go_wp2_with (first | (go_at_call 6; refine (A6.out _ ?_).mono ?_; (simp [*]); rintro e w9 ⟨rfl, h9, g0, g1, g2, g3, g4, g5, g6, g7, g8⟩) | (go_at_call 9; refine (A9.out _ ?_).mono ?_; (simp [*]); rintro e w9 ⟨rfl, h9, g0, g1, g2, g3, g4, g5, g6, g7, g8⟩) | (go_at_call 11; refine (A11.out _ ?_).mono ?_; (simp [*]); rintro e w9 ⟨rfl, h9, g0, g1, g2, g3, g4, g5, g6, g7, g8⟩) | (go_at_call 10; refine (A10.out _ ?_).mono ?_; (simp [*]); rintro e w9 ⟨rfl, h9, g0, g1, g2, g3, g4, g5, g6, g7, g8⟩))
          all_goals
            have HD9 : Hid (Box B W1 w9.drew k p n a t c o pk nm) := h9.out.go ((Below.refl _ w9).drew)
            go_region_held3 (fun w' => Hid (Box B W1 w' k p n a t c o pk nm) ∧ w'.cell? ⟨B, 0, none⟩ = some (.int .i64 k) ∧ w'.cell? ⟨B, 1, none⟩ = some (.int .i64 p) ∧ w'.cell? ⟨B, 2, none⟩ = some (.int .i64 n) ∧ w'.cell? ⟨B, 3, none⟩ = some (.int .i64 a) ∧ w'.cell? ⟨B, 4, none⟩ = some (.int .i64 t) ∧ w'.cell? ⟨B, 5, none⟩ = some (.int .i64 c) ∧ w'.cell? ⟨B, 6, none⟩ = some (.int .i64 o) ∧ w'.cell? ⟨B, 7, none⟩ = some (.int .i64 pk) ∧ w'.cell? ⟨B, 8, none⟩ = some (.string nm)) (simp [*])
              (first | (go_at_call 12; refine (A12.out _ ?_).mono ?_; (simp [*]); rintro e w9 ⟨rfl, h9, g0, g1, g2, g3, g4, g5, g6, g7, g8⟩) | (go_at_call 13; refine (A13.out _ ?_).mono ?_; (simp [*]); rintro e w9 ⟨rfl, h9, g0, g1, g2, g3, g4, g5, g6, g7, g8⟩) | (go_at_call 14; refine (A14.out _ ?_).mono ?_; (simp [*]); rintro e w9 ⟨rfl, h9, g0, g1, g2, g3, g4, g5, g6, g7, g8⟩) | (go_at_call 15; refine (A15.out _ ?_).mono ?_; (simp [*]); rintro e w9 ⟨rfl, h9, g0, g1, g2, g3, g4, g5, g6, g7, g8⟩) | (go_at_call 11; refine (A11.out _ ?_).mono ?_; (simp [*]); rintro e w9 ⟨rfl, h9, g0, g1, g2, g3, g4, g5, g6, g7, g8⟩))
            go_wp2
            go_ret
            exact ⟨rfl, HEND.out _ h9.out⟩
        · subst hz
          go_enter Try.func4, Try.ntmps4
          go_wp2_with fail
          rw [← HBW.out.2, ← HBW.out.1]
          go_region_held3 (fun w' => Hid (Box B W1 w' k p n a t c o pk nm) ∧ w'.cell? ⟨B, 0, none⟩ = some (.int .i64 k) ∧ w'.cell? ⟨B, 1, none⟩ = some (.int .i64 p) ∧ w'.cell? ⟨B, 2, none⟩ = some (.int .i64 n) ∧ w'.cell? ⟨B, 3, none⟩ = some (.int .i64 a) ∧ w'.cell? ⟨B, 4, none⟩ = some (.int .i64 t) ∧ w'.cell? ⟨B, 5, none⟩ = some (.int .i64 c) ∧ w'.cell? ⟨B, 6, none⟩ = some (.int .i64 o) ∧ w'.cell? ⟨B, 7, none⟩ = some (.int .i64 pk) ∧ w'.cell? ⟨B, 8, none⟩ = some (.string nm)) (simp [*])
            (first | (go_at_call 6; refine (A6.out _ ?_).mono ?_; (simp [*]); rintro e w9 ⟨rfl, h9, g0, g1, g2, g3, g4, g5, g6, g7, g8⟩) | (go_at_call 9; refine (A9.out _ ?_).mono ?_; (simp [*]); rintro e w9 ⟨rfl, h9, g0, g1, g2, g3, g4, g5, g6, g7, g8⟩) | (go_at_call 11; refine (A11.out _ ?_).mono ?_; (simp [*]); rintro e w9 ⟨rfl, h9, g0, g1, g2, g3, g4, g5, g6, g7, g8⟩) | (go_at_call 10; refine (A10.out _ ?_).mono ?_; (simp [*]); rintro e w9 ⟨rfl, h9, g0, g1, g2, g3, g4, g5, g6, g7, g8⟩))
          go_wp2_with (first | (go_at_call 6; refine (A6.out _ ?_).mono ?_; (simp [*]); rintro e w9 ⟨rfl, h9, g0, g1, g2, g3, g4, g5, g6, g7, g8⟩) | (go_at_call 9; refine (A9.out _ ?_).mono ?_; (simp [*]); rintro e w9 ⟨rfl, h9, g0, g1, g2, g3, g4, g5, g6, g7, g8⟩) | (go_at_call 11; refine (A11.out _ ?_).mono ?_; (simp [*]); rintro e w9 ⟨rfl, h9, g0, g1, g2, g3, g4, g5, g6, g7, g8⟩) | (go_at_call 10; refine (A10.out _ ?_).mono ?_; (simp [*]); rintro e w9 ⟨rfl, h9, g0, g1, g2, g3, g4, g5, g6, g7, g8⟩))
          all_goals
            have HD9 : Hid (Box B W1 w9.drew k p n a t c o pk nm) := h9.out.go ((Below.refl _ w9).drew)
            go_region_held3 (fun w' => Hid (Box B W1 w' k p n a t c o pk nm) ∧ w'.cell? ⟨B, 0, none⟩ = some (.int .i64 k) ∧ w'.cell? ⟨B, 1, none⟩ = some (.int .i64 p) ∧ w'.cell? ⟨B, 2, none⟩ = some (.int .i64 n) ∧ w'.cell? ⟨B, 3, none⟩ = some (.int .i64 a) ∧ w'.cell? ⟨B, 4, none⟩ = some (.int .i64 t) ∧ w'.cell? ⟨B, 5, none⟩ = some (.int .i64 c) ∧ w'.cell? ⟨B, 6, none⟩ = some (.int .i64 o) ∧ w'.cell? ⟨B, 7, none⟩ = some (.int .i64 pk) ∧ w'.cell? ⟨B, 8, none⟩ = some (.string nm)) (simp [*])
              (first | (go_at_call 12; refine (A12.out _ ?_).mono ?_; (simp [*]); rintro e w9 ⟨rfl, h9, g0, g1, g2, g3, g4, g5, g6, g7, g8⟩) | (go_at_call 13; refine (A13.out _ ?_).mono ?_; (simp [*]); rintro e w9 ⟨rfl, h9, g0, g1, g2, g3, g4, g5, g6, g7, g8⟩) | (go_at_call 14; refine (A14.out _ ?_).mono ?_; (simp [*]); rintro e w9 ⟨rfl, h9, g0, g1, g2, g3, g4, g5, g6, g7, g8⟩) | (go_at_call 15; refine (A15.out _ ?_).mono ?_; (simp [*]); rintro e w9 ⟨rfl, h9, g0, g1, g2, g3, g4, g5, g6, g7, g8⟩) | (go_at_call 11; refine (A11.out _ ?_).mono ?_; (simp [*]); rintro e w9 ⟨rfl, h9, g0, g1, g2, g3, g4, g5, g6, g7, g8⟩))
            go_wp2
            go_ret
            exact ⟨rfl, HEND.out _ h9.out⟩
end tableRight
end Go.Proofs.Ytdfbdjlcbjdabaa
