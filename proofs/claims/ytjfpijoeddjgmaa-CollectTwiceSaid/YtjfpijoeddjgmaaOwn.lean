/- A heap that a law has made, and slices of numbers, its own and its arguments. Conditions: as each says. -/
import Derived.Test.YtjfpijoeddjgmaaLives16
import Derived.Test.YtjfpijoeddjgmaaHm3
import Derived.OpenShut
namespace Go.Proofs.Ytjfpijoeddjgmaa
open Go.RowKit Hm
set_option linter.unusedVariables false

/-- A slice of numbers that came in. -/
def IntArg (k : IntKind) (w : World) (v : Value) (zs : List Int) : Prop :=
  ∃ ao cap, v = .slice ao zs.length cap ∧ (zs.length = 0 ∨ ∃ b off, ao = some ⟨b, off, none⟩ ∧ b < w.heap.size ∧ ∀ j, j < zs.length → w.cell? ⟨b, off + j, none⟩ = some (.int k (zs.getD j 0))) ∧ ∀ z ∈ zs, (Lit.int k z).wf = true

theorem Own.world {B : Nat} {w0 w : World} {p : HP} {s : HS} (h : Own B w0 w p s) : Fr (fun k => B ≤ k) w0 w := ⟨h.below.os, h.below.tape, h.below.output, h.below.size, fun k _ hk => h.below.block k (by omega)⟩
theorem Own.write {B : Nat} {w0 w : World} {p : HP} {s : HS} (h : Own B w0 w p s) {a i : Nat} {v : Int} (hi : i < s.cap a) (hv : 0 ≤ v ∧ v < 18446744073709551616) :
    Calls Try.prog 24 #[.pointer (some ⟨p.h, 0, none⟩), .int .i64 a, .int .i64 i, .int .u64 v] w fun e w' => e = .returned (.int .i64 0) ∧ Own B w0 w' p (s.write a i v) ∧ Fr p.mine w w' := by
  refine (write_any a i v w h.at' hv).mono ?_
  have hh : HS.has s (a : Int) (i : Int) := by unfold HS.has; rw [Int.toNat_natCast]; omega
  rw [if_pos hh, if_pos hh, Int.toNat_natCast, Int.toNat_natCast]
  rintro e w' ⟨rfl, h1, h2⟩
  exact ⟨rfl, h.step h2 h1, h2⟩
theorem read_in {w : World} {p : HP} {s : HS} (h : HeapAt w p s) {a i : Nat} (hi : i < s.cap a) :
    Calls Try.prog 23 #[.pointer (some ⟨p.h, 0, none⟩), .int .i64 a, .int .i64 i] w fun e w' => e = .returned (.tuple #[.int .u64 (s.word (a + i)), .int .i64 0]) ∧ w = w' := by
  refine (read_any a i w h).mono ?_
  have hh : HS.has s (a : Int) (i : Int) := by unfold HS.has; rw [Int.toNat_natCast]; omega
  rw [if_pos hh, Int.toNat_natCast, Int.toNat_natCast]
  exact fun e w' h => h
theorem Own.alloc' {B : Nat} {w0 w : World} {p : HP} {s : HS} (h : Own B w0 w p s) (n : Int) :
    Calls Try.prog 21 #[.pointer (some ⟨p.h, 0, none⟩), .int .i64 n] w fun e w' => e = .returned (.tuple #[.int .i64 (s.alloc n).1, .int .i64 (s.alloc n).2.1]) ∧ Own B w0 w' p (s.alloc n).2.2 ∧ Fr p.mine w w' := by
  refine (alloc_any n w h.at').mono ?_
  rintro e w' ⟨rfl, h1, h2⟩
  exact ⟨rfl, h.step h2 h1, h2⟩
theorem Own.free {B : Nat} {w0 w : World} {p : HP} {s : HS} (h : Own B w0 w p s) (a : Nat) :
    Calls Try.prog 25 #[.pointer (some ⟨p.h, 0, none⟩), .int .i64 a] w fun e w' => e = .returned (.int .i64 (s.free a).1) ∧ Own B w0 w' p (s.free a).2 ∧ Fr p.mine w w' := by
  refine (free_any a w h.at').mono ?_
  rw [Int.toNat_natCast]
  rintro e w' ⟨rfl, h1, h2⟩
  exact ⟨rfl, h.step h2 h1, h2⟩
theorem cap_nat {p : HP} {s : HS} (a : Nat) (w : World) (hA : HeapAt w p s) :
    Calls Try.prog 22 #[.pointer (some ⟨p.h, 0, none⟩), .int .i64 a] w fun e w' => e = .returned (.int .i64 (s.cap a)) ∧ w = w' := cap_of (a : Int) w hA
theorem cells_any {p : HP} {s : HS} (w : World) (hA : HeapAt w p s) :
    Calls Try.prog 26 #[.pointer (some ⟨p.h, 0, none⟩)] w fun e w' => ∃ v, e = .returned v ∧ IntsAt w' w.heap.size v (cellsTo s.used (1 + 32 * s.n)) ∧ Below w.heap.size w w' := by
  have hl := hA.lt
  obtain ⟨L, clk, cl, hR, _, _, _, _, hn⟩ := hA
  exact cells_raw w hR hn hl

/-- What stands apart from the heap turns: the heap stays. -/
theorem Own.other {B : Nat} {w0 w w' : World} {p : HP} {s : HS} (h : Own B w0 w p s) {S : Nat → Prop} (hf : Fr S w w') (hn : ∀ k, p.mine k → ¬ S k) (hS : ∀ k, S k → B ≤ k) : Own B w0 w' p s :=
  ⟨h.mine, h.at'.fr hf hn, h.below.trans (hf.below h.size hS), Nat.le_trans h.size hf.size⟩
/-- An append to a row from block C on, the heap below it. -/
theorem Own.app {B : Nat} {w0 w w' : World} {p : HP} {s : HS} (h : Own B w0 w p s) {C : Nat} (hBC : B ≤ C) (hp : ∀ k, p.mine k → k < C) {v : Value} {l : List Int} (hv : IntsAt w C v l) {o : Obj} (hg : (w.alloc o).grownBy w' v.ownBlock) : Own B w0 w' p s :=
  h.other (S := fun k => C ≤ k) ((Fr.refl _ w).alloc o |>.trans (Fr.of_grown hg fun k hk => (hv.lt k hk).1)) (fun k hk => by have := hp k hk; omega) (fun k hk => by omega)
end Go.Proofs.Ytjfpijoeddjgmaa
