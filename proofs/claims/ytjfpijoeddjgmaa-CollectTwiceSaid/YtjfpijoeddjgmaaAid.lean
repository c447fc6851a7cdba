/- Aid for the laws of a heap: numbers, rows that a law makes. Conditions: as each says. -/
import Derived.Test.YtjfpijoeddjgmaaOwn
import Derived.WalkKit
namespace Go.Proofs.Ytjfpijoeddjgmaa
open Go.RowKit Hm
set_option linter.unusedVariables false
theorem wrap_fit {x : Int} (h0 : -9223372036854775808 ≤ x) (h1 : x ≤ 9223372036854775807) : wrap64 x = x := by unfold wrap64; omega
theorem uwrap_in (x : Int) : 0 ≤ IntKind.u64.wrap x ∧ IntKind.u64.wrap x < 18446744073709551616 := by
  show 0 ≤ x % 18446744073709551616 ∧ x % 18446744073709551616 < 18446744073709551616
  omega
theorem uwrap_fit {x : Int} (h : 0 ≤ x ∧ x < 18446744073709551616) : IntKind.u64.wrap x = x := by
  show x % 18446744073709551616 = x
  omega
theorem urem_in (x n : Int) (hn : 0 < n) (hn2 : n ≤ 1000000) : ∃ y : Nat, wrap64 ((IntKind.u64.wrap x).tmod n) = y ∧ (y : Int) < n := by
  have h := uwrap_in x
  generalize IntKind.u64.wrap x = u at *
  rw [Int.tmod_eq_emod_of_nonneg h.1]
  have h1 := Int.emod_nonneg u (show n ≠ 0 by omega)
  have h2 := Int.emod_lt_of_pos u hn
  rw [wrap_fit (by omega) (by omega)]
  exact ⟨(u % n).toNat, by omega, by omega⟩

theorem u8_wf {z : Int} (h : (Lit.int .u8 z).wf = true) : 0 ≤ z ∧ z ≤ 255 := by
  simp [Lit.wf, IntKind.min, IntKind.max] at h
  exact ⟨of_decide_eq_true h.1, of_decide_eq_true h.2⟩
theorem getD_mem {l : List Int} {i : Nat} (h : i < l.length) : l.getD i 0 ∈ l := by
  rw [List.getD_eq_getElem?_getD, List.getElem?_eq_getElem h]; exact List.getElem_mem _

theorem IntsAt.shape {w : World} {B : Nat} {v : Value} {l : List Int} (h : IntsAt w B v l) : ∃ ao cap, v = .slice ao l.length cap ∧ (l.length = 0 ∨ ∃ g, ao = some ⟨g, 0, none⟩ ∧ B ≤ g) := by
  rcases h.form with ⟨rfl, rfl⟩ | ⟨g, cap, rfl, hg, _⟩
  · exact ⟨_, _, rfl, .inl rfl⟩
  · exact ⟨_, _, rfl, .inr ⟨g, rfl, hg⟩⟩
theorem IntsAt.get {w : World} {B g n cap : Nat} {l : List Int} (h : IntsAt w B (.slice (some ⟨g, 0, none⟩) n cap) l) {j : Nat} (hj : j < l.length) : w.cell? ⟨g, j, none⟩ = some (.int .i64 (l.getD j 0)) := by
  rcases h.form with ⟨h1, h2⟩ | ⟨g', cap', h1, hg, _, hc⟩
  · cases h1
  · cases h1; exact hc j hj

/-- While the cells are had: the heap, the list of the round before, this round's. -/
structure RA (B B2 B3 : Nat) (w wr : World) (p : HP) (s : HS) (v7 v9 : Value) (l7 l9 : List Int) : Prop where
  own : Own B w wr p s
  first : IntsAt wr B2 v7 l7
  firstLt : ∀ k, v7.ownBlock = some k → k < B3
  at' : IntsAt wr B3 v9 l9
  sz : B3 ≤ wr.heap.size
theorem RA.heap {B B2 B3 : Nat} {w wr w' : World} {p : HP} {s t : HS} {v7 v9 : Value} {l7 l9 : List Int} (h : RA B B2 B3 w wr p s v7 v9 l7 l9) (hp : ∀ k, p.mine k → k < B2) (h23 : B2 ≤ B3) (ho : Own B w w' p t) (hf : Fr p.mine wr w') : RA B B2 B3 w w' p t v7 v9 l7 l9 :=
  ⟨ho, h.first.fr hf fun k hk hm => by have := (h.first.lt k hk).1; have := hp k hm; omega, h.firstLt, h.at'.fr hf fun k hk hm => by have := (h.at'.lt k hk).1; have := hp k hm; omega, Nat.le_trans h.sz hf.size⟩
theorem RA.app {B B2 B3 : Nat} {w wr w' : World} {p : HP} {s : HS} {v7 v9 v' : Value} {l7 l9 : List Int} {x : Int} {o : Obj} (h : RA B B2 B3 w wr p s v7 v9 l7 l9) (hp : ∀ k, p.mine k → k < B2) (h23 : B2 ≤ B3) (hB : B ≤ B3)
    (hown : w'.ownsRow B3 3 1 v' (l9.length + 1) (l9.map (Value.int .i64) ++ [.int .i64 x])) (hg : (wr.alloc o).grownBy w' v9.ownBlock) : RA B B2 B3 w w' p s v7 v' l7 (l9 ++ [x]) := by
  have hf : Fr (fun k => B3 ≤ k) wr w' := (Fr.refl _ wr).alloc o |>.trans (Fr.of_grown hg fun k hk => (h.at'.lt k hk).1)
  refine ⟨h.own.app hB (fun k hk => by have := hp k hk; omega) h.at' hg, h.first.fr hf fun k hk hm => ?_, h.firstLt, IntsAt.one hown, Nat.le_trans h.sz hf.size⟩
  have := h.firstLt k hk
  omega

theorem HeapAt.wf {w : World} {p : HP} {s : HS} (h : HeapAt w p s) : s.WF := by obtain ⟨_, _, _, _, h, _⟩ := h; exact h

theorem IntsAt.shape' {w : World} {B n cap : Nat} {ao : Option Addr} {l : List Int} (h : IntsAt w B (.slice ao n cap) l) : l.length = 0 ∨ ∃ g, ao = some ⟨g, 0, none⟩ := by
  obtain ⟨ao', cap', h1, h2⟩ := h.shape
  cases h1
  exact h2.imp id fun ⟨g, h3, _⟩ => ⟨g, h3⟩
def lenOf : Value → Nat
  | .slice _ n _ => n
  | _ => 0
/-- What a law asks of the chapter's example. -/
theorem lives_from {B : Nat} {w : World} (hB : B = w.heap.size) (W : World) (hW : Below B w W) : Calls Try.prog 19 #[] W fun e w' => e = .returned (.bool true) ∧ Hid (Below B w w' ∧ B ≤ w'.heap.size) := by
  refine (lives16 W).mono ?_
  rintro e w' ⟨rfl, h⟩
  have hs : B ≤ W.heap.size := by rw [hB]; exact hW.size
  exact ⟨rfl, hW.trans (h.mono hs), Nat.le_trans hs h.size⟩
/-- One row of the law's own beside its heap. -/
structure RB (B B2 : Nat) (w wr : World) (p : HP) (s : HS) (v : Value) (l : List Int) : Prop where
  own : Own B w wr p s
  at' : IntsAt wr B2 v l
  sz : B2 ≤ wr.heap.size
theorem RB.heap {B B2 : Nat} {w wr w' : World} {p : HP} {s t : HS} {v : Value} {l : List Int} (h : RB B B2 w wr p s v l) (hp : ∀ k, p.mine k → k < B2) (ho : Own B w w' p t) (hf : Fr p.mine wr w') : RB B B2 w w' p t v l :=
  ⟨ho, h.at'.fr hf fun k hk hm => by have := (h.at'.lt k hk).1; have := hp k hm; omega, Nat.le_trans h.sz hf.size⟩
theorem RB.app {B B2 : Nat} {w wr w' : World} {p : HP} {s : HS} {v v' : Value} {l : List Int} {x : Int} {o : Obj} (h : RB B B2 w wr p s v l) (hp : ∀ k, p.mine k → k < B2) (hB : B ≤ B2)
    (hown : w'.ownsRow B2 3 1 v' (l.length + 1) (l.map (Value.int .i64) ++ [.int .i64 x])) (hg : (wr.alloc o).grownBy w' v.ownBlock) : RB B B2 w w' p s v' (l ++ [x]) := by
  have hf : Fr (fun k => B2 ≤ k) wr w' := (Fr.refl _ wr).alloc o |>.trans (Fr.of_grown hg fun k hk => (h.at'.lt k hk).1)
  exact ⟨h.own.app hB hp h.at' hg, IntsAt.one hown, Nat.le_trans h.sz hf.size⟩
theorem RB.alloc {B B2 : Nat} {w wr : World} {p : HP} {s : HS} {v : Value} {l : List Int} (h : RB B B2 w wr p s v l) (hp : ∀ k, p.mine k → k < B2) (n : Int) {a : Nat} {e : Int} {t : HS} (hal : s.alloc n = (a, e, t)) :
    Calls Try.prog 21 #[.pointer (some ⟨p.h, 0, none⟩), .int .i64 n] wr fun x w' => x = .returned (.tuple #[.int .i64 a, .int .i64 e]) ∧ Hid (RB B B2 w w' p t v l) := by
  refine (h.own.alloc' n).mono ?_
  rw [hal]
  rintro x w' ⟨rfl, h1, h2⟩
  exact ⟨rfl, h.heap hp h1 h2⟩
theorem RB.free {B B2 : Nat} {w wr : World} {p : HP} {s : HS} {v : Value} {l : List Int} (h : RB B B2 w wr p s v l) (hp : ∀ k, p.mine k → k < B2) (a : Nat) {e : Int} {t : HS} (hal : s.free a = (e, t)) :
    Calls Try.prog 25 #[.pointer (some ⟨p.h, 0, none⟩), .int .i64 a] wr fun x w' => x = .returned (.int .i64 e) ∧ Hid (RB B B2 w w' p t v l) := by
  refine (h.own.free a).mono ?_
  rw [hal]
  rintro x w' ⟨rfl, h1, h2⟩
  exact ⟨rfl, h.heap hp h1 h2⟩
/-- New, for a law. -/
theorem new_from {B : Nat} {w : World} (words : Int) (n : Nat) (h1 : 32 ≤ words) (h2 : words ≤ 65536) (hn : words / 32 = n) (W : World) (hW : Below B w W ∧ B ≤ W.heap.size) :
    Calls Try.prog 20 #[.int .i64 words] W fun e w' => ∃ p : HP, e = .returned (.tuple #[.pointer (some ⟨p.h, 0, none⟩), .int .i64 0]) ∧ Hid (RB B w'.heap.size w w' p (HS.empty n) (.slice none 0 0) []) ∧ Hid (∀ k, p.mine k → k < w'.heap.size) := by
  refine (new_any words n W h1 h2 hn B w hW.1 hW.2).mono ?_
  rintro e w' ⟨p, rfl, h1, h2, h3, h4⟩
  exact ⟨p, rfl, ⟨⟨h1, h2, h3, h4⟩, IntsAt.nil _ _, Nat.le_refl _⟩, h2.lt⟩
end Go.Proofs.Ytjfpijoeddjgmaa
