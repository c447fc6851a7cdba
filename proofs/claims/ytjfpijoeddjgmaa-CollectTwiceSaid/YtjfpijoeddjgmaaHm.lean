/- The heap's plain model: blocks of 32 words, their kinds, which cells are used, what is in them; what Alloc and Free do to it. No condition. -/
import Derived.Below
namespace Go.Proofs.Ytjfpijoeddjgmaa.Hm
open Go.RowKit
set_option linter.unusedVariables false

/-- A function, turned at one place. -/
def upd {α : Type} (f : Nat → α) (i : Nat) (v : α) : Nat → α := fun j => if j = i then v else f j
theorem upd_same {α : Type} (f : Nat → α) (i : Nat) (v : α) : upd f i v i = v := by simp [upd]
theorem upd_other {α : Type} (f : Nat → α) {i j : Nat} (v : α) (h : j ≠ i) : upd f i v j = f j := by simp [upd, h]

/-- The sizes of small cells. -/
def isCls (c : Nat) : Prop := c = 2 ∨ c = 4 ∨ c = 8 ∨ c = 16 ∨ c = 32
def cls (n : Nat) : Nat := if n ≤ 2 then 2 else if n ≤ 4 then 4 else if n ≤ 8 then 8 else if n ≤ 16 then 16 else 32
theorem cls_is (n : Nat) : isCls (cls n) := by unfold isCls cls; (repeat' split) <;> simp
theorem cls_ge (n : Nat) (h : n ≤ 32) : n ≤ cls n := by unfold cls; (repeat' split) <;> omega
theorem isCls.pos {c : Nat} (h : isCls c) : 2 ≤ c := by unfold isCls at h; omega
theorem isCls.le {c : Nat} (h : isCls c) : c ≤ 32 := by unfold isCls at h; omega
theorem isCls.dvd {c : Nat} (h : isCls c) : c * (32 / c) = 32 := by unfold isCls at h; rcases h with rfl | rfl | rfl | rfl | rfl <;> rfl
theorem isCls.lt_iff {c j : Nat} (h : isCls c) : c * j < 32 ↔ j < 32 / c := by unfold isCls at h; rcases h with rfl | rfl | rfl | rfl | rfl <;> omega
theorem isCls.end_le {c j : Nat} (h : isCls c) (hj : c * j < 32) : c * j + c ≤ 32 := by unfold isCls at h; rcases h with rfl | rfl | rfl | rfl | rfl <;> omega

/-- How many of a block's cells are used. -/
def cntF (k : Int) (u : Nat → Bool) (b : Nat) : Nat :=
  if 0 < k then (List.range (32 / k.toNat)).countP (fun j => u (1 + 32 * b + k.toNat * j)) else if k = -1 then 1 else 0

theorem countP_turn (p q : Nat → Bool) (j0 : Nat) (hp : p j0 = false) (hq : q j0 = true) (hpq : ∀ j, j ≠ j0 → p j = q j) :
    ∀ m, (List.range m).countP q = (List.range m).countP p + if j0 < m then 1 else 0
  | 0 => by simp
  | m + 1 => by
    rw [List.range_succ, List.countP_append, List.countP_append, countP_turn p q j0 hp hq hpq m]
    simp only [List.countP_singleton]
    by_cases h : m = j0
    · subst h; simp [hp, hq]
    · rw [hpq m h]
      by_cases h2 : j0 < m
      · simp only [h2, show j0 < m + 1 by omega, if_true]; omega
      · simp only [h2, show ¬ j0 < m + 1 by omega, if_false]; omega

theorem countP_congr' {p q : Nat → Bool} : ∀ m, (∀ j, j < m → p j = q j) → (List.range m).countP q = (List.range m).countP p
  | 0, _ => by simp
  | m + 1, h => by
    rw [List.range_succ, List.countP_append, List.countP_append, countP_congr' m (fun j hj => h j (by omega))]
    simp [List.countP_singleton, h m (by omega)]

theorem countP_lt_iff (p : Nat → Bool) (m : Nat) : (List.range m).countP p < m ↔ ∃ j, j < m ∧ p j = false := by
  constructor
  · intro h
    refine Classical.byContradiction fun hn => ?_
    have hall : ∀ j ∈ List.range m, p j = true := fun j hj => by
      have : ¬ p j = false := fun hf => hn ⟨j, List.mem_range.1 hj, hf⟩
      simpa using this
    rw [List.countP_eq_length.2 hall] at h
    simp at h
  · rintro ⟨j, hj, hf⟩
    refine Nat.lt_of_le_of_ne (by have := List.countP_le_length (p := p) (l := List.range m); simpa using this) fun he => ?_
    have : ∀ j ∈ List.range m, p j = true := List.countP_eq_length.1 (by simpa using he)
    rw [this j (List.mem_range.2 hj)] at hf
    cases hf
theorem countP_pos_iff' (p : Nat → Bool) (m : Nat) : 0 < (List.range m).countP p ↔ ∃ j, j < m ∧ p j = true := by
  rw [List.countP_pos_iff]
  constructor
  · rintro ⟨j, h1, h2⟩; exact ⟨j, List.mem_range.1 h1, h2⟩
  · rintro ⟨j, h1, h2⟩; exact ⟨j, List.mem_range.2 h1, h2⟩

theorem cntF_cls {c : Nat} (h : isCls c) (u : Nat → Bool) (b : Nat) : cntF (c : Int) u b = (List.range (32 / c)).countP (fun j => u (1 + 32 * b + c * j)) := by
  unfold cntF; rw [if_pos (by have := h.pos; omega)]; rfl

/-- A heap: how many blocks, what each is (0: free; 2 to 32: its cells' size; -1: a large cell's first; -2: its second), where used cells begin, the words. -/
structure HS where
  n : Nat
  kind : Nat → Int
  used : Nat → Bool
  word : Nat → Int

namespace HS
def cnt (s : HS) (b : Nat) : Nat := cntF (s.kind b) s.used b
/-- How many words the cell at an address has; 0: there is none. -/
def cap (s : HS) (a : Nat) : Nat := if s.used a = true then (if s.kind ((a - 1) / 32) = -1 then 64 else (s.kind ((a - 1) / 32)).toNat) else 0

structure WF (s : HS) : Prop where
  kinds : ∀ b, b < s.n → s.kind b = 0 ∨ s.kind b = -1 ∨ s.kind b = -2 ∨ ∃ c : Nat, isCls c ∧ s.kind b = c
  out : ∀ b, s.n ≤ b → s.kind b = 0
  head : ∀ b, s.kind b = -1 → s.kind (b + 1) = -2
  tail : ∀ b, s.kind b = -2 → ∃ b', b = b' + 1 ∧ s.kind b' = -1
  usedAt : ∀ a, s.used a = true → ∃ b, (s.kind b = -1 ∧ a = 1 + 32 * b) ∨ ∃ c j : Nat, isCls c ∧ s.kind b = c ∧ c * j < 32 ∧ a = 1 + 32 * b + c * j
  headUsed : ∀ b, s.kind b = -1 → s.used (1 + 32 * b) = true
  some : ∀ b (c : Nat), isCls c → s.kind b = c → ∃ j, c * j < 32 ∧ s.used (1 + 32 * b + c * j) = true
  zero : ∀ a, s.word a ≠ 0 → ∃ x, s.used x = true ∧ x ≤ a ∧ a < x + s.cap x
  range : ∀ a, 0 ≤ s.word a ∧ s.word a < 18446744073709551616

theorem WF.lt {s : HS} (h : s.WF) {b : Nat} (hk : s.kind b ≠ 0) : b < s.n := by
  rcases Nat.lt_or_ge b s.n with h1 | h1
  · exact h1
  · exact absurd (h.out b h1) hk

/-- A used cell: its block and what it is. -/
theorem WF.used_cases {s : HS} (h : s.WF) {a : Nat} (ha : s.used a = true) :
    (∃ b, b + 1 < s.n ∧ s.kind b = -1 ∧ s.kind (b + 1) = -2 ∧ a = 1 + 32 * b ∧ s.cap a = 64) ∨
    ∃ b c j, b < s.n ∧ isCls c ∧ s.kind b = (c : Int) ∧ c * j < 32 ∧ a = 1 + 32 * b + c * j ∧ s.cap a = c := by
  obtain ⟨b, ⟨hk, rfl⟩ | ⟨c, j, hc, hk, hj, rfl⟩⟩ := h.usedAt a ha
  · refine .inl ⟨b, h.lt (by rw [h.head b hk]; decide), hk, h.head b hk, rfl, ?_⟩
    unfold cap
    rw [if_pos ha, show (1 + 32 * b - 1) / 32 = b by omega, if_pos hk]
  · refine .inr ⟨b, c, j, h.lt (by rw [hk]; have := hc.pos; omega), hc, hk, hj, rfl, ?_⟩
    unfold cap
    rw [if_pos ha, show (1 + 32 * b + c * j - 1) / 32 = b by omega, hk, if_neg (by omega)]
    simp

theorem WF.cap_pos {s : HS} (h : s.WF) {a : Nat} (ha : s.used a = true) : 2 ≤ s.cap a := by
  rcases h.used_cases ha with ⟨_, _, _, _, _, e⟩ | ⟨_, c, _, _, hc, _, _, _, e⟩
  · omega
  · rw [e]; exact hc.pos
theorem cap_none {s : HS} {a : Nat} (ha : s.used a = false) : s.cap a = 0 := by unfold cap; rw [if_neg (by simp [ha])]
theorem WF.cap_iff {s : HS} (h : s.WF) (a : Nat) : s.cap a = 0 ↔ s.used a = false := by
  constructor
  · intro e
    cases hu : s.used a with
    | false => rfl
    | true => have := h.cap_pos hu; omega
  · exact cap_none
theorem WF.in_ {s : HS} (h : s.WF) {a : Nat} (ha : s.used a = true) : 1 ≤ a ∧ a + s.cap a ≤ 1 + 32 * s.n := by
  rcases h.used_cases ha with ⟨b, hb, _, _, rfl, e⟩ | ⟨b, c, j, hb, hc, _, hj, rfl, e⟩
  · omega
  · have := hc.end_le hj; omega
theorem WF.cap_le {s : HS} (h : s.WF) (a : Nat) : s.cap a ≤ 64 := by
  cases hu : s.used a with
  | false => rw [cap_none hu]; omega
  | true =>
    rcases h.used_cases hu with ⟨_, _, _, _, _, e⟩ | ⟨_, c, _, _, hc, _, _, _, e⟩
    · omega
    · have := hc.le; omega

theorem mul_apart {c i j : Nat} (h : i < j) : c * i + c ≤ c * j := by
  have := Nat.mul_le_mul_left c (show i + 1 ≤ j by omega)
  rw [Nat.mul_add] at this; omega

/-- Two used cells share no word. -/
theorem WF.apart {s : HS} (h : s.WF) {x y : Nat} (hx : s.used x = true) (hy : s.used y = true) (hne : x < y) : x + s.cap x ≤ y := by
  rcases h.used_cases hx with ⟨b, hb, k1, k2, rfl, e⟩ | ⟨b, c, j, hb, hc, hk, hj, rfl, e⟩
  · rcases h.used_cases hy with ⟨b', hb', k1', k2', rfl, e'⟩ | ⟨b', c', j', hb', hc', hk', hj', rfl, e'⟩
    · have hlt : b < b' := by omega
      have : b' ≠ b + 1 := fun he => by subst he; rw [k1'] at k2; cases k2
      omega
    · have : b' ≠ b := fun he => by subst he; rw [hk'] at k1; omega
      have : b' ≠ b + 1 := fun he => by subst he; rw [hk'] at k2; omega
      omega
  · have hend := hc.end_le hj
    rcases h.used_cases hy with ⟨b', hb', k1', k2', rfl, e'⟩ | ⟨b', c', j', hb', hc', hk', hj', rfl, e'⟩
    · have : b' ≠ b := fun he => by subst he; rw [hk] at k1'; omega
      omega
    · by_cases he : b' = b
      · subst he
        have : c' = c := by rw [hk] at hk'; omega
        subst this
        have hjj : j < j' := by
          refine Nat.lt_of_not_le fun hle => ?_
          have := Nat.mul_le_mul_left c' hle
          omega
        have := mul_apart (c := c') hjj
        omega
      · omega

/-- An empty heap. -/
def empty (n : Nat) : HS := { n, kind := fun _ => 0, used := fun _ => false, word := fun _ => 0 }
theorem empty_wf (n : Nat) : (empty n).WF where
  kinds := fun _ _ => .inl rfl
  out := fun _ _ => rfl
  head := fun _ h => by cases h
  tail := fun _ h => by cases h
  usedAt := fun _ h => by cases h
  headUsed := fun _ h => by cases h
  some := fun _ c hc h => by have := hc.pos; simp [empty] at h; omega
  zero := fun _ h => absurd rfl h
  range := fun _ => ⟨by simp [empty], by simp [empty]⟩

/-- A heap without used cells is an empty one. -/
theorem WF.eq_empty {s : HS} (h : s.WF) (hu : ∀ a, s.used a = false) : s = empty s.n := by
  obtain ⟨n, kind, used, word⟩ := s
  have e1 : used = fun _ => false := funext hu
  have e2 : word = fun _ => 0 := funext fun a => Classical.byContradiction fun hn => by
    obtain ⟨x, hx, _⟩ := h.zero a hn
    simp only at hx
    rw [show used x = false from hu x] at hx
    cases hx
  have e3 : kind = fun _ => 0 := funext fun b => Classical.byContradiction fun hn => by
    have hb : b < n := h.lt hn
    rcases h.kinds b hb with h0 | h0 | h0 | ⟨c, hc, h0⟩
    · exact hn h0
    · have := h.headUsed b h0; simp only at this; rw [show used _ = false from hu _] at this; cases this
    · obtain ⟨b', rfl, h1⟩ := h.tail b h0
      have := h.headUsed b' h1; simp only at this; rw [show used _ = false from hu _] at this; cases this
    · obtain ⟨j, _, h1⟩ := h.some b c hc h0
      simp only at h1; rw [show used _ = false from hu _] at h1; cases h1
  subst e1 e2 e3
  rfl

/-! ### Alloc -/
/-- The first cell of a block of such cells that isn't used. -/
def slot (s : HS) (c b : Nat) : Option Nat := (List.range (32 / c)).find? (fun j => !s.used (1 + 32 * b + c * j))
def blk (s : HS) (c : Nat) : Option Nat := (List.range s.n).find? (fun b => s.kind b == (c : Int) && (s.slot c b).isSome)
/-- The first of so many free blocks, one behind the other. -/
def runOk (s : HS) (k b : Nat) : Bool := (List.range k).all (fun i => s.kind (b + i) == 0)
def run (s : HS) (k : Nat) : Option Nat := (List.range (s.n + 1 - k)).find? (s.runOk k)

def takeSlot (s : HS) (a : Nat) : HS := { s with used := upd s.used a true }
def takeNew (s : HS) (b c : Nat) : HS := { s with kind := upd s.kind b c, used := upd s.used (1 + 32 * b) true }
def takeLarge (s : HS) (b : Nat) : HS := { s with kind := upd (upd s.kind b (-1)) (b + 1) (-2), used := upd s.used (1 + 32 * b) true }

/-- The address (0: none), the error, the heap. -/
def alloc (s : HS) (n : Int) : Nat × Int × HS :=
  if n < 1 ∨ 64 < n then (0, 1, s)
  else if 32 < n then
    match s.run 2 with
    | some b => (1 + 32 * b, 0, s.takeLarge b)
    | none => (0, 9, s)
  else
    match s.blk (cls n.toNat) with
    | some b => (1 + 32 * b + cls n.toNat * ((s.slot (cls n.toNat) b).getD 0), 0, s.takeSlot (1 + 32 * b + cls n.toNat * ((s.slot (cls n.toNat) b).getD 0)))
    | none =>
      match s.run 1 with
      | some b => (1 + 32 * b, 0, s.takeNew b (cls n.toNat))
      | none => (0, 9, s)

theorem slot_some {s : HS} {c b j : Nat} (h : s.slot c b = some j) : j < 32 / c ∧ s.used (1 + 32 * b + c * j) = false ∧ ∀ i, i < j → s.used (1 + 32 * b + c * i) = true := by
  unfold slot at h
  rw [List.find?_range_eq_some] at h
  obtain ⟨h1, h2, h3⟩ := h
  refine ⟨by simpa using h2, by simpa using h1, fun i hi => by simpa using h3 i hi⟩
theorem slot_none {s : HS} {c b : Nat} (h : s.slot c b = none) : ∀ i, i < 32 / c → s.used (1 + 32 * b + c * i) = true := by
  unfold slot at h
  rw [List.find?_eq_none] at h
  intro i hi
  have := h i (List.mem_range.2 hi)
  simpa using this
theorem slot_isSome {s : HS} {c b : Nat} (hc : isCls c) (hk : s.kind b = (c : Int)) : (s.slot c b).isSome = true ↔ s.cnt b < 32 / c := by
  unfold cnt
  rw [hk, cntF_cls hc, countP_lt_iff]
  constructor
  · intro h
    obtain ⟨j, hj⟩ := Option.isSome_iff_exists.1 h
    have := slot_some hj
    exact ⟨j, this.1, this.2.1⟩
  · rintro ⟨j, hj, hu⟩
    cases hs : s.slot c b with
    | some _ => rfl
    | none => rw [slot_none hs j hj] at hu; cases hu
theorem blk_some {s : HS} {c b : Nat} (h : s.blk c = some b) : b < s.n ∧ s.kind b = (c : Int) ∧ (∃ j, s.slot c b = some j) ∧ ∀ b', b' < b → s.kind b' = (c : Int) → s.slot c b' = none := by
  unfold blk at h
  rw [List.find?_range_eq_some] at h
  obtain ⟨h1, h2, h3⟩ := h
  simp only [Bool.and_eq_true, beq_iff_eq] at h1
  refine ⟨by simpa using h2, h1.1, Option.isSome_iff_exists.1 h1.2, fun b' hb hk => ?_⟩
  have := h3 b' hb
  simp only [hk, beq_self_eq_true, Bool.true_and, Bool.not_eq_true', Option.isSome_eq_false_iff, Option.isNone_iff_eq_none] at this
  exact this
theorem blk_none {s : HS} {c : Nat} (h : s.blk c = none) : ∀ b, b < s.n → s.kind b = (c : Int) → s.slot c b = none := by
  unfold blk at h
  rw [List.find?_eq_none] at h
  intro b hb hk
  have := h b (List.mem_range.2 hb)
  simpa [hk] using this
theorem blk_of {s : HS} {c b : Nat} (hb : b < s.n) (hk : s.kind b = (c : Int)) {j : Nat} (hj : s.slot c b = some j) (hf : ∀ b', b' < b → s.kind b' = (c : Int) → s.slot c b' = none) : s.blk c = some b := by
  unfold blk
  rw [List.find?_range_eq_some]
  refine ⟨by simp [hk, hj], by simpa using hb, fun b' hb' => ?_⟩
  by_cases h : s.kind b' = (c : Int)
  · simp [h, hf b' hb' h]
  · simp [h]
theorem blk_no {s : HS} {c : Nat} (hf : ∀ b', b' < s.n → s.kind b' = (c : Int) → s.slot c b' = none) : s.blk c = none := by
  unfold blk
  rw [List.find?_eq_none]
  intro b hb
  by_cases h : s.kind b = (c : Int)
  · simp [h, hf b (by simpa using hb) h]
  · simp [h]
theorem runOk_iff {s : HS} {k b : Nat} : s.runOk k b = true ↔ ∀ i, i < k → s.kind (b + i) = 0 := by
  unfold runOk; simp
theorem run_some {s : HS} {k b : Nat} (h : s.run k = some b) : b + k ≤ s.n ∨ (k = 0 ∧ b ≤ s.n) := by
  unfold run at h
  rw [List.find?_range_eq_some] at h
  have := h.2.1
  simp at this
  omega
theorem run_free {s : HS} {k b : Nat} (h : s.run k = some b) : ∀ i, i < k → s.kind (b + i) = 0 := by
  unfold run at h
  rw [List.find?_range_eq_some] at h
  exact runOk_iff.1 h.1
theorem run_first {s : HS} {k b : Nat} (h : s.run k = some b) : ∀ b', b' < b → ∃ i, i < k ∧ s.kind (b' + i) ≠ 0 := by
  unfold run at h
  rw [List.find?_range_eq_some] at h
  intro b' hb'
  have := h.2.2 b' hb'
  refine Classical.byContradiction fun hn => ?_
  have : s.runOk k b' = true := runOk_iff.2 fun i hi => Classical.byContradiction fun hk => hn ⟨i, hi, hk⟩
  simp_all
theorem run_none {s : HS} {k : Nat} (h : s.run k = none) : ∀ b', b' + k ≤ s.n → ∃ i, i < k ∧ s.kind (b' + i) ≠ 0 := by
  unfold run at h
  rw [List.find?_eq_none] at h
  intro b' hb'
  have := h b' (List.mem_range.2 (by omega))
  refine Classical.byContradiction fun hn => this ?_
  exact runOk_iff.2 fun i hi => Classical.byContradiction fun hk => hn ⟨i, hi, hk⟩
theorem run_of {s : HS} {k b : Nat} (hb : b + k ≤ s.n) (h : ∀ i, i < k → s.kind (b + i) = 0) (hf : ∀ b', b' < b → ∃ i, i < k ∧ s.kind (b' + i) ≠ 0) : s.run k = some b := by
  unfold run
  rw [List.find?_range_eq_some]
  refine ⟨runOk_iff.2 h, by simp; omega, fun b' hb' => ?_⟩
  obtain ⟨i, hi, hk⟩ := hf b' hb'
  have : ¬ s.runOk k b' = true := fun ht => hk (runOk_iff.1 ht i hi)
  simpa using this
theorem run_no {s : HS} {k : Nat} (hf : ∀ b', b' + k ≤ s.n → ∃ i, i < k ∧ s.kind (b' + i) ≠ 0) : s.run k = none := by
  unfold run
  rw [List.find?_eq_none]
  intro b' hb'
  by_cases hle : b' + k ≤ s.n
  · obtain ⟨i, hi, hk⟩ := hf b' hle
    exact fun ht => hk (runOk_iff.1 ht i hi)
  · have := List.mem_range.1 hb'; omega

/-- Nothing is used in a block that isn't there for it. -/
theorem WF.unused {s : HS} (h : s.WF) {b i : Nat} (hk : s.kind b = 0 ∨ s.kind b = -2) (hi : i < 32) : s.used (1 + 32 * b + i) = false := by
  cases hu : s.used (1 + 32 * b + i) with
  | false => rfl
  | true =>
    obtain ⟨b', ⟨hk', he⟩ | ⟨c, j, hc, hk', hj, he⟩⟩ := h.usedAt _ hu
    · have : b' = b := by omega
      subst this; rw [hk'] at hk; rcases hk with hk | hk <;> cases hk
    · have : b' = b := by omega
      subst this; rw [hk'] at hk; have := hc.pos; omega

/-! ### WF is kept -/
theorem cap_kinds {s t : HS} {a : Nat} (hu : t.used a = s.used a) (hk : t.kind ((a - 1) / 32) = s.kind ((a - 1) / 32)) : t.cap a = s.cap a := by
  unfold cap; rw [hu, hk]

theorem WF.takeSlot {s : HS} (h : s.WF) {b c j : Nat} (hc : isCls c) (hk : s.kind b = (c : Int)) (hj : j < 32 / c) : (s.takeSlot (1 + 32 * b + c * j)).WF where
  kinds := h.kinds
  out := h.out
  head := h.head
  tail := h.tail
  usedAt := fun a ha => by
    simp only [HS.takeSlot, upd] at ha
    by_cases he : a = 1 + 32 * b + c * j
    · exact ⟨b, .inr ⟨c, j, hc, hk, hc.lt_iff.2 hj, he⟩⟩
    · rw [if_neg he] at ha; exact h.usedAt a ha
  headUsed := fun b' hb => by
    simp only [HS.takeSlot, upd]
    split
    · rfl
    · exact h.headUsed b' hb
  some := fun b' c' hc' hk' => by
    obtain ⟨j', h1, h2⟩ := h.some b' c' hc' hk'
    refine ⟨j', h1, ?_⟩
    simp only [HS.takeSlot, upd]
    split
    · rfl
    · exact h2
  zero := fun a ha => by
    obtain ⟨x, h1, h2, h3⟩ := h.zero a ha
    have hu : (s.takeSlot (1 + 32 * b + c * j)).used x = s.used x := by
      simp only [HS.takeSlot, upd]; split
      · exact h1.symm
      · rfl
    exact ⟨x, hu.trans h1, h2, by rw [cap_kinds hu rfl]; exact h3⟩
  range := h.range

theorem WF.takeNew {s : HS} (h : s.WF) {b c : Nat} (hc : isCls c) (hb : b < s.n) (hk : s.kind b = 0) : (s.takeNew b c).WF where
  kinds := fun b' hb' => by
    simp only [HS.takeNew, upd]
    split
    · exact .inr (.inr (.inr ⟨c, hc, rfl⟩))
    · exact h.kinds b' hb'
  out := fun b' hb' => by
    simp only [HS.takeNew, upd]
    rw [if_neg (by simp only [HS.takeNew] at hb'; omega)]
    exact h.out b' hb'
  head := fun b' hb' => by
    simp only [HS.takeNew, upd] at hb' ⊢
    by_cases he : b' = b
    · rw [if_pos he] at hb'; have := hc.pos; omega
    · rw [if_neg he] at hb'
      have h2 := h.head b' hb'
      rw [if_neg (fun he' => by rw [he'] at h2; rw [hk] at h2; cases h2)]
      exact h2
  tail := fun b' hb' => by
    simp only [HS.takeNew, upd] at hb' ⊢
    by_cases he : b' = b
    · rw [if_pos he] at hb'; have := hc.pos; omega
    · rw [if_neg he] at hb'
      obtain ⟨b'', rfl, h2⟩ := h.tail b' hb'
      refine ⟨b'', rfl, ?_⟩
      rw [if_neg (fun he' => by rw [he', hk] at h2; cases h2)]
      exact h2
  usedAt := fun a ha => by
    simp only [HS.takeNew, upd] at ha ⊢
    by_cases he : a = 1 + 32 * b
    · exact ⟨b, .inr ⟨c, 0, hc, by simp, by omega, by omega⟩⟩
    · rw [if_neg he] at ha
      obtain ⟨b', h1⟩ := h.usedAt a ha
      have hne : b' ≠ b := fun e => by
        subst e
        rcases h1 with ⟨h1, _⟩ | ⟨c', j, hc', h1, _⟩
        · rw [hk] at h1; cases h1
        · rw [hk] at h1; have := hc'.pos; omega
      refine ⟨b', ?_⟩
      rw [if_neg hne]
      exact h1
  headUsed := fun b' hb' => by
    simp only [HS.takeNew, upd] at hb' ⊢
    by_cases he : b' = b
    · rw [if_pos he] at hb'; have := hc.pos; omega
    · rw [if_neg he] at hb'
      rw [if_neg (by omega)]
      exact h.headUsed b' hb'
  some := fun b' c' hc' hk' => by
    simp only [HS.takeNew, upd] at hk' ⊢
    by_cases he : b' = b
    · subst he; exact ⟨0, by omega, by simp⟩
    · rw [if_neg he] at hk'
      obtain ⟨j, h1, h2⟩ := h.some b' c' hc' hk'
      refine ⟨j, h1, ?_⟩
      rw [if_neg (by omega)]
      exact h2
  zero := fun a ha => by
    obtain ⟨x, h1, h2, h3⟩ := h.zero a ha
    have hx : (x - 1) / 32 ≠ b := fun e => by
      rcases h.used_cases h1 with ⟨b', _, k1, _, rfl, _⟩ | ⟨b', c', j, _, hc', k1, hj, rfl, _⟩
      · have : b' = b := by omega
        subst this; rw [hk] at k1; cases k1
      · have : b' = b := by omega
        subst this; rw [hk] at k1; have := hc'.pos; omega
    have hu : (s.takeNew b c).used x = s.used x := by
      simp only [HS.takeNew, upd]; rw [if_neg (by omega)]
    refine ⟨x, by rw [hu]; exact h1, h2, ?_⟩
    rw [cap_kinds hu (by simp only [HS.takeNew, upd]; rw [if_neg hx])]
    exact h3
  range := h.range

theorem WF.takeLarge {s : HS} (h : s.WF) {b : Nat} (hb : b + 1 < s.n) (hk : s.kind b = 0) (hk1 : s.kind (b + 1) = 0) : (s.takeLarge b).WF where
  kinds := fun b' hb' => by
    simp only [HS.takeLarge, upd]
    split
    · simp
    · split
      · simp
      · exact h.kinds b' hb'
  out := fun b' hb' => by
    simp only [HS.takeLarge] at hb'
    simp only [HS.takeLarge, upd]
    rw [if_neg (by omega), if_neg (by omega)]
    exact h.out b' hb'
  head := fun b' hb' => by
    simp only [HS.takeLarge, upd] at hb' ⊢
    by_cases he : b' = b
    · subst he; rw [if_pos rfl]
    · by_cases he1 : b' = b + 1
      · rw [if_pos he1] at hb'; cases hb'
      · rw [if_neg he1, if_neg he] at hb'
        have h2 := h.head b' hb'
        rw [if_neg (by omega), if_neg (fun e => by rw [e, hk] at h2; cases h2)]
        exact h2
  tail := fun b' hb' => by
    simp only [HS.takeLarge, upd] at hb' ⊢
    by_cases he1 : b' = b + 1
    · exact ⟨b, he1, by rw [if_neg (by omega), if_pos rfl]⟩
    · rw [if_neg he1] at hb'
      by_cases he : b' = b
      · rw [if_pos he] at hb'; cases hb'
      · rw [if_neg he] at hb'
        obtain ⟨b'', rfl, h2⟩ := h.tail b' hb'
        refine ⟨b'', rfl, ?_⟩
        rw [if_neg (fun e => by rw [e, hk1] at h2; cases h2), if_neg (fun e => by rw [e, hk] at h2; cases h2)]
        exact h2
  usedAt := fun a ha => by
    simp only [HS.takeLarge, upd] at ha ⊢
    by_cases he : a = 1 + 32 * b
    · exact ⟨b, .inl ⟨by rw [if_neg (by omega), if_pos rfl], he⟩⟩
    · rw [if_neg he] at ha
      obtain ⟨b', h1⟩ := h.usedAt a ha
      have hne : ∀ b0, s.kind b0 = 0 → b' ≠ b0 := fun b0 h0 e => by
        subst e
        rcases h1 with ⟨h1, _⟩ | ⟨c', j, hc', h1, _⟩
        · rw [h0] at h1; cases h1
        · rw [h0] at h1; have := hc'.pos; omega
      refine ⟨b', ?_⟩
      rw [if_neg (hne _ hk1), if_neg (hne _ hk)]
      exact h1
  headUsed := fun b' hb' => by
    simp only [HS.takeLarge, upd] at hb' ⊢
    by_cases he : b' = b
    · subst he; rw [if_pos rfl]
    · rw [if_neg (by omega)]
      by_cases he1 : b' = b + 1
      · rw [if_pos he1] at hb'; cases hb'
      · rw [if_neg he1, if_neg he] at hb'
        exact h.headUsed b' hb'
  some := fun b' c' hc' hk' => by
    simp only [HS.takeLarge, upd] at hk' ⊢
    have := hc'.pos
    by_cases he1 : b' = b + 1
    · rw [if_pos he1] at hk'; omega
    · rw [if_neg he1] at hk'
      by_cases he : b' = b
      · rw [if_pos he] at hk'; omega
      · rw [if_neg he] at hk'
        obtain ⟨j, h1, h2⟩ := h.some b' c' hc' hk'
        refine ⟨j, h1, ?_⟩
        rw [if_neg (by omega)]
        exact h2
  zero := fun a ha => by
    obtain ⟨x, h1, h2, h3⟩ := h.zero a ha
    have hx : ∀ b0, s.kind b0 = 0 → (x - 1) / 32 ≠ b0 := fun b0 h0 e => by
      rcases h.used_cases h1 with ⟨b', _, k1, _, rfl, _⟩ | ⟨b', c', j, _, hc', k1, hj, rfl, _⟩
      · have : b' = b0 := by omega
        subst this; rw [h0] at k1; cases k1
      · have : b' = b0 := by omega
        subst this; rw [h0] at k1; have := hc'.pos; omega
    have hu : (s.takeLarge b).used x = s.used x := by
      simp only [HS.takeLarge, upd]; rw [if_neg (by have := hx b hk; omega)]
    refine ⟨x, by rw [hu]; exact h1, h2, ?_⟩
    rw [cap_kinds hu (by simp only [HS.takeLarge, upd]; rw [if_neg (hx _ hk1), if_neg (hx _ hk)])]
    exact h3
  range := h.range

theorem WF.alloc {s : HS} (h : s.WF) (n : Int) : (s.alloc n).2.2.WF := by
  unfold HS.alloc
  split
  · exact h
  split
  · cases hr : s.run 2 with
    | none => exact h
    | some b =>
      have h1 := run_some hr
      have h2 := run_free hr
      exact h.takeLarge (by omega) (h2 0 (by omega)) (h2 1 (by omega))
  · cases hb : s.blk (cls n.toNat) with
    | some b =>
      obtain ⟨h1, h2, ⟨j, h3⟩, _⟩ := blk_some hb
      simp only [h3, Option.getD_some]
      exact h.takeSlot (cls_is _) h2 (slot_some h3).1
    | none =>
      simp only
      cases hr : s.run 1 with
      | none => exact h
      | some b =>
        have h1 := run_some hr
        have h2 := run_free hr
        exact h.takeNew (cls_is _) (by omega) (h2 0 (by omega))
end HS
namespace HS
/-! ### Free, Write -/
def free (s : HS) (a : Nat) : Int × HS :=
  if s.used a = true then
    (0, { s with
      used := upd s.used a false
      word := fun i => if a ≤ i ∧ i < a + s.cap a then 0 else s.word i
      kind := if s.kind ((a - 1) / 32) = -1 then upd (upd s.kind ((a - 1) / 32) 0) ((a - 1) / 32 + 1) 0
        else if cntF (s.kind ((a - 1) / 32)) (upd s.used a false) ((a - 1) / 32) = 0 then upd s.kind ((a - 1) / 32) 0 else s.kind })
  else (1, s)
def write (s : HS) (a i : Nat) (v : Int) : HS := { s with word := upd s.word (a + i) v }

theorem WF.write {s : HS} (h : s.WF) {a i : Nat} {v : Int} (hi : i < s.cap a) (hv : 0 ≤ v ∧ v < 18446744073709551616) : (s.write a i v).WF where
  kinds := h.kinds
  out := h.out
  head := h.head
  tail := h.tail
  usedAt := h.usedAt
  headUsed := h.headUsed
  some := h.some
  zero := fun x hx => by
    simp only [HS.write, upd] at hx
    by_cases he : x = a + i
    · refine ⟨a, ?_, by omega, by show x < a + s.cap a; omega⟩
      show s.used a = true
      cases hu : s.used a with
      | true => rfl
      | false => rw [cap_none hu] at hi; omega
    · rw [if_neg he] at hx; exact h.zero x hx
  range := fun x => by
    simp only [HS.write, upd]
    split
    · exact hv
    · exact h.range x

/-- A cell that is given back: what the block is then, small. -/
theorem free_large {s : HS} {b : Nat} (hu : s.used (1 + 32 * b) = true) (hk : s.kind b = -1) :
    s.free (1 + 32 * b) = (0, { n := s.n, kind := upd (upd s.kind b 0) (b + 1) 0, used := upd s.used (1 + 32 * b) false, word := fun i => if 1 + 32 * b ≤ i ∧ i < 1 + 32 * b + s.cap (1 + 32 * b) then 0 else s.word i }) := by
  unfold free
  rw [if_pos hu, show (1 + 32 * b - 1) / 32 = b by omega, if_pos hk]
theorem free_small {s : HS} {b c j : Nat} (hu : s.used (1 + 32 * b + c * j) = true) (hj : c * j < 32) (hc : isCls c) (hk : s.kind b = (c : Int)) :
    s.free (1 + 32 * b + c * j) = (0, { n := s.n, kind := if cntF c (upd s.used (1 + 32 * b + c * j) false) b = 0 then upd s.kind b 0 else s.kind, used := upd s.used (1 + 32 * b + c * j) false, word := fun i => if 1 + 32 * b + c * j ≤ i ∧ i < 1 + 32 * b + c * j + s.cap (1 + 32 * b + c * j) then 0 else s.word i }) := by
  unfold free
  rw [if_pos hu, show (1 + 32 * b + c * j - 1) / 32 = b by omega, hk, if_neg (by omega)]

theorem cnt_zero_iff {c : Nat} (hc : isCls c) (u : Nat → Bool) (b : Nat) : cntF (c : Int) u b = 0 ↔ ∀ j, c * j < 32 → u (1 + 32 * b + c * j) = false := by
  rw [cntF_cls hc]
  constructor
  · intro h j hj
    cases hu : u (1 + 32 * b + c * j) with
    | false => rfl
    | true =>
      have := (countP_pos_iff' (fun j => u (1 + 32 * b + c * j)) (32 / c)).2 ⟨j, hc.lt_iff.1 hj, hu⟩
      omega
  · intro h
    refine Nat.eq_zero_of_not_pos fun hp => ?_
    obtain ⟨j, hj, hu⟩ := (countP_pos_iff' _ _).1 hp
    rw [h j (hc.lt_iff.2 hj)] at hu
    cases hu

theorem cnt_take {c j b : Nat} (hc : isCls c) {u : Nat → Bool} (hj : c * j < 32) (hu : u (1 + 32 * b + c * j) = false) : cntF (c : Int) (upd u (1 + 32 * b + c * j) true) b = cntF (c : Int) u b + 1 := by
  rw [cntF_cls hc, cntF_cls hc, countP_turn (fun j => u (1 + 32 * b + c * j)) _ j hu (by simp [upd]) (fun i hi => ?_), if_pos (hc.lt_iff.1 hj)]
  have : c * i ≠ c * j := fun he => hi (Nat.eq_of_mul_eq_mul_left (by have := hc.pos; omega) he)
  simp only [upd]
  rw [if_neg (by omega)]
theorem cnt_drop {c j b : Nat} (hc : isCls c) {u : Nat → Bool} (hj : c * j < 32) (hu : u (1 + 32 * b + c * j) = true) : cntF (c : Int) u b = cntF (c : Int) (upd u (1 + 32 * b + c * j) false) b + 1 := by
  rw [cntF_cls hc, cntF_cls hc, countP_turn (fun i => upd u (1 + 32 * b + c * j) false (1 + 32 * b + c * i)) (fun i => u (1 + 32 * b + c * i)) j (by simp [upd]) hu (fun i hi => ?_), if_pos (hc.lt_iff.1 hj)]
  have : c * i ≠ c * j := fun he => hi (Nat.eq_of_mul_eq_mul_left (by have := hc.pos; omega) he)
  simp only [upd]
  rw [if_neg (by omega)]
/-- What is in other blocks doesn't count. -/
theorem cnt_far {k : Int} {u : Nat → Bool} {b x : Nat} {v : Bool} (hk : k ≤ 32) (hx : (x - 1) / 32 ≠ b ∨ x = 0) : cntF k (upd u x v) b = cntF k u b := by
  unfold cntF
  split
  · rename_i hp
    obtain ⟨m, rfl⟩ := Int.eq_ofNat_of_zero_le (show 0 ≤ k by omega)
    simp only [Int.toNat_natCast]
    refine countP_congr' _ fun j hj => ?_
    have : m * j < 32 := by
      have h1 : m * (j + 1) ≤ m * (32 / m) := Nat.mul_le_mul_left _ (by omega)
      have h2 := Nat.mul_div_le 32 m
      rw [Nat.mul_add] at h1
      omega
    simp only [upd]
    rw [if_neg (by omega)]
  · rfl
theorem WF.kind_le {s : HS} (h : s.WF) (b : Nat) : s.kind b ≤ 32 := by
  rcases Nat.lt_or_ge b s.n with hb | hb
  · rcases h.kinds b hb with h1 | h1 | h1 | ⟨c, hc, h1⟩ <;> rw [h1]
    · decide
    · decide
    · decide
    · have := hc.le; omega
  · rw [h.out b hb]; decide
theorem WF.cnt_le {s : HS} (h : s.WF) (b : Nat) : s.cnt b ≤ 32 := by
  unfold cnt cntF
  split
  · have := List.countP_le_length (p := fun j => s.used (1 + 32 * b + (s.kind b).toNat * j)) (l := List.range (32 / (s.kind b).toNat))
    simp only [List.length_range] at this
    have h2 := Nat.div_le_self 32 (s.kind b).toNat
    omega
  · split <;> omega
theorem WF.cnt_free {s : HS} {b : Nat} (hk : s.kind b = 0 ∨ s.kind b = -2) : s.cnt b = 0 := by
  unfold cnt cntF
  rcases hk with hk | hk <;> rw [hk] <;> rfl
theorem cnt_head {s : HS} {b : Nat} (hk : s.kind b = -1) : s.cnt b = 1 := by
  unfold cnt cntF; rw [hk]; rfl

theorem WF.cnt_pos {s : HS} (h : s.WF) {b c : Nat} (hc : isCls c) (hk : s.kind b = (c : Int)) : 0 < s.cnt b := by
  unfold cnt; rw [hk]
  obtain ⟨j, h1, h2⟩ := h.some b c hc hk
  refine Nat.pos_of_ne_zero fun h0 => ?_
  rw [(cnt_zero_iff hc _ _).1 h0 j h1] at h2
  cases h2

theorem WF.free {s : HS} (h : s.WF) (a : Nat) : (s.free a).2.WF := by
  cases hu : s.used a with
  | false => unfold HS.free; rw [if_neg (by simp [hu])]; exact h
  | true =>
    -- the words: what is left is covered by another cell
    have hz : ∀ (t : HS), (∀ x, x ≠ a → t.used x = s.used x) → (∀ x, s.used x = true → x ≠ a → t.kind ((x - 1) / 32) = s.kind ((x - 1) / 32)) → (∀ i, t.word i = if a ≤ i ∧ i < a + s.cap a then 0 else s.word i) →
        ∀ y, t.word y ≠ 0 → ∃ x, t.used x = true ∧ x ≤ y ∧ y < x + t.cap x := by
      intro t ht hk hw y hy
      rw [hw] at hy
      split at hy
      · exact absurd rfl hy
      · rename_i hn
        obtain ⟨x, h1, h2, h3⟩ := h.zero y hy
        have hxa : x ≠ a := fun e => by subst e; exact hn ⟨h2, h3⟩
        exact ⟨x, by rw [ht x hxa]; exact h1, h2, by rw [cap_kinds (ht x hxa) (hk x h1 hxa)]; exact h3⟩
    have hr : ∀ i, 0 ≤ (if a ≤ i ∧ i < a + s.cap a then 0 else s.word i) ∧ (if a ≤ i ∧ i < a + s.cap a then 0 else s.word i) < 18446744073709551616 := by
      intro i
      split
      · omega
      · exact h.range i
    rcases h.used_cases hu with ⟨b, hb, hk, hk1, rfl, e⟩ | ⟨b, c, j, hb, hc, hk, hj, rfl, e⟩
    · rw [free_large hu hk]
      -- used cells of other blocks
      have far : ∀ x, s.used x = true → x ≠ 1 + 32 * b → (x - 1) / 32 ≠ b ∧ (x - 1) / 32 ≠ b + 1 := by
        intro x hx hne
        rcases h.used_cases hx with ⟨b', _, q1, _, rfl, _⟩ | ⟨b', c', j', _, hc', q1, hj', rfl, _⟩
        · refine ⟨by omega, fun e => ?_⟩
          have : b' = b + 1 := by omega
          subst this; rw [q1] at hk1; cases hk1
        · have := hc'.pos
          refine ⟨fun e => ?_, fun e => ?_⟩
          · have : b' = b := by omega
            subst this; rw [q1] at hk; omega
          · have : b' = b + 1 := by omega
            subst this; rw [q1] at hk1; omega
      exact {
        kinds := fun b' hb' => by
          simp only [upd]
          split
          · exact .inl rfl
          · split
            · exact .inl rfl
            · exact h.kinds b' hb'
        out := fun b' hb' => by
          simp only [upd]
          split
          · rfl
          · split
            · rfl
            · exact h.out b' hb'
        head := fun b' hb' => by
          simp only [upd] at hb' ⊢
          by_cases e1 : b' = b + 1
          · rw [if_pos e1] at hb'; cases hb'
          · rw [if_neg e1] at hb'
            by_cases e0 : b' = b
            · rw [if_pos e0] at hb'; cases hb'
            · rw [if_neg e0] at hb'
              rw [if_neg (by omega)]
              have h2 := h.head b' hb'
              rw [if_neg (fun e2 => by rw [e2, hk] at h2; cases h2)]
              exact h2
        tail := fun b' hb' => by
          simp only [upd] at hb' ⊢
          by_cases e1 : b' = b + 1
          · rw [if_pos e1] at hb'; cases hb'
          · rw [if_neg e1] at hb'
            by_cases e0 : b' = b
            · rw [if_pos e0] at hb'; cases hb'
            · rw [if_neg e0] at hb'
              obtain ⟨b'', rfl, h2⟩ := h.tail b' hb'
              refine ⟨b'', rfl, ?_⟩
              rw [if_neg (fun e2 => by rw [e2, hk1] at h2; cases h2), if_neg (by omega)]
              exact h2
        usedAt := fun x hx => by
          simp only [upd] at hx ⊢
          by_cases e0 : x = 1 + 32 * b
          · rw [if_pos e0] at hx; cases hx
          · rw [if_neg e0] at hx
            have hf := far x hx e0
            obtain ⟨b', h1⟩ := h.usedAt x hx
            refine ⟨b', ?_⟩
            have hb1 : (x - 1) / 32 = b' := by
              rcases h1 with ⟨_, rfl⟩ | ⟨c', j', hc', _, hj', rfl⟩ <;> omega
            rw [hb1] at hf
            rw [if_neg hf.2, if_neg hf.1]
            exact h1
        headUsed := fun b' hb' => by
          simp only [upd] at hb' ⊢
          by_cases e1 : b' = b + 1
          · rw [if_pos e1] at hb'; cases hb'
          · rw [if_neg e1] at hb'
            by_cases e0 : b' = b
            · rw [if_pos e0] at hb'; cases hb'
            · rw [if_neg e0] at hb'
              rw [if_neg (by omega)]
              exact h.headUsed b' hb'
        some := fun b' c' hc' hk' => by
          simp only [upd] at hk' ⊢
          have := hc'.pos
          by_cases e1 : b' = b + 1
          · rw [if_pos e1] at hk'; omega
          · rw [if_neg e1] at hk'
            by_cases e0 : b' = b
            · rw [if_pos e0] at hk'; omega
            · rw [if_neg e0] at hk'
              obtain ⟨j', h1, h2⟩ := h.some b' c' hc' hk'
              refine ⟨j', h1, ?_⟩
              rw [if_neg (by omega)]
              exact h2
        zero := hz _ (fun x hx => by simp only [upd]; rw [if_neg hx]) (fun x hx hne => by
          have := far x hx hne
          simp only [upd]; rw [if_neg this.2, if_neg this.1]) (fun _ => rfl)
        range := hr }
    · rw [free_small hu hj hc hk]
      have hcp := hc.pos
      -- other used cells lie in blocks that stay
      have stay : ∀ x, s.used x = true → x ≠ 1 + 32 * b + c * j → (if cntF (c : Int) (upd s.used (1 + 32 * b + c * j) false) b = 0 then upd s.kind b 0 else s.kind) ((x - 1) / 32) = s.kind ((x - 1) / 32) := by
        intro x hx hne
        split
        · rename_i h0
          simp only [upd]
          rw [if_neg (fun e => ?_)]
          rcases h.used_cases hx with ⟨b', _, q1, _, rfl, _⟩ | ⟨b', c', j', _, hc', q1, hj', rfl, _⟩
          · have : b' = b := by omega
            subst this; rw [hk] at q1; omega
          · have : b' = b := by omega
            subst this
            have : c' = c := by rw [hk] at q1; omega
            subst this
            have := (cnt_zero_iff hc _ _).1 h0 j' hj'
            simp only [upd] at this
            rw [if_neg hne, hx] at this
            cases this
        · rfl
      have kcase : ∀ b', (if cntF (c : Int) (upd s.used (1 + 32 * b + c * j) false) b = 0 then upd s.kind b 0 else s.kind) b' = s.kind b' ∨ (b' = b ∧ (if cntF (c : Int) (upd s.used (1 + 32 * b + c * j) false) b = 0 then upd s.kind b 0 else s.kind) b' = 0) := by
        intro b'
        split
        · simp only [upd]
          by_cases e0 : b' = b
          · rw [if_pos e0]; exact .inr ⟨e0, rfl⟩
          · rw [if_neg e0]; exact .inl rfl
        · exact .inl rfl
      exact {
        kinds := fun b' hb' => by
          rcases kcase b' with e1 | ⟨_, e1⟩
          · simp only [e1]; exact h.kinds b' hb'
          · exact .inl e1
        out := fun b' hb' => by
          rcases kcase b' with e1 | ⟨_, e1⟩ <;> simp only [e1]
          exact h.out b' hb'
        head := fun b' hb' => by
          simp only at hb' ⊢
          have hb2 : s.kind b' = -1 := by
            rcases kcase b' with e1 | ⟨_, e1⟩
            · rw [e1] at hb'; exact hb'
            · rw [e1] at hb'; cases hb'
          have h2 := h.head b' hb2
          rcases kcase (b' + 1) with e1 | ⟨e0, e1⟩
          · rw [e1]; exact h2
          · rw [e0, hk] at h2; omega
        tail := fun b' hb' => by
          simp only at hb' ⊢
          have hb2 : s.kind b' = -2 := by
            rcases kcase b' with e1 | ⟨_, e1⟩
            · rw [e1] at hb'; exact hb'
            · rw [e1] at hb'; cases hb'
          obtain ⟨b'', rfl, h2⟩ := h.tail b' hb2
          refine ⟨b'', rfl, ?_⟩
          rcases kcase b'' with e1 | ⟨e0, e1⟩
          · rw [e1]; exact h2
          · rw [e0, hk] at h2; omega
        usedAt := fun x hx => by
          simp only [upd] at hx
          by_cases e0 : x = 1 + 32 * b + c * j
          · rw [if_pos e0] at hx; cases hx
          · rw [if_neg e0] at hx
            have hs := stay x hx e0
            obtain ⟨b', h1⟩ := h.usedAt x hx
            refine ⟨b', ?_⟩
            have hb1 : (x - 1) / 32 = b' := by
              rcases h1 with ⟨_, rfl⟩ | ⟨c', j', hc', _, hj', rfl⟩ <;> omega
            rw [hb1] at hs
            rw [← hs] at h1
            exact h1
        headUsed := fun b' hb' => by
          have hb2 : s.kind b' = -1 := by
            rcases kcase b' with e1 | ⟨_, e1⟩
            · exact e1.symm.trans hb'
            · have := e1.symm.trans hb'; cases this
          simp only [upd]
          rw [if_neg (fun e1 => ?_)]
          · exact h.headUsed b' hb2
          · have : b' = b := by omega
            subst this; rw [hk] at hb2; omega
        some := fun b' c' hc' hk' => by
          have hc'p := hc'.pos
          simp only at hk' ⊢
          have hk2 : s.kind b' = (c' : Int) := by
            rcases kcase b' with e1 | ⟨_, e1⟩
            · rw [e1] at hk'; exact hk'
            · rw [e1] at hk'; omega
          by_cases e0 : b' = b
          · subst e0
            have : c' = c := by rw [hk] at hk2; omega
            subst this
            have hne : cntF (c' : Int) (upd s.used (1 + 32 * b' + c' * j) false) b' ≠ 0 := fun h0 => by
              rw [if_pos h0] at hk'; simp only [upd, if_pos] at hk'; omega
            rw [cntF_cls hc'] at hne
            obtain ⟨i, hi, hui⟩ := (countP_pos_iff' _ _).1 (Nat.pos_of_ne_zero hne)
            exact ⟨i, hc'.lt_iff.2 hi, hui⟩
          · obtain ⟨j', h1, h2⟩ := h.some b' c' hc' hk2
            refine ⟨j', h1, ?_⟩
            simp only [upd]
            rw [if_neg (by omega)]
            exact h2
        zero := hz _ (fun x hx => by simp only [upd]; rw [if_neg hx]) stay (fun _ => rfl)
        range := hr }

/-! ### The hints: from which block on cells are looked for -/
def HintF (s : HS) (fr : Int → Int) : Prop := ∀ c : Nat, isCls c → 0 ≤ fr c ∧ fr c ≤ s.n ∧ ∀ b : Nat, (b : Int) < fr c → s.kind b = (c : Int) → 32 / c ≤ s.cnt b
def HintC (s : HS) (cl : Int) : Prop := 0 ≤ cl ∧ cl ≤ s.n ∧ ∀ b : Nat, (b : Int) < cl → s.kind b ≠ 0
end HS
end Go.Proofs.Ytjfpijoeddjgmaa.Hm
