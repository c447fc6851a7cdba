/- A marker's memory. Conditions: as each says. -/
import Derived.Test.YtjfpijoeddjgmaaMarkM
import Derived.Deep.DeepCutAuto
import Derived.Deep.CutRange
namespace Go.Proofs.Ytjfpijoeddjgmaa
open Go.RowKit Hm
set_option linter.unusedVariables false

/-! ### A set of numbers -/
theorem zero_bool' (w : World) : (zeroValue 4).run Try.prog w = .ok (.bool false) w := by kernel_rfl
def yes (_ : Unit) : Value := .bool true
def SetAt (w : World) (b : Nat) (K : List Int) : Prop := ∃ L clk, MapAt w b yes L clk ∧ L.map (·.1) = K
theorem SetAt.new (w : World) : SetAt (w.alloc (.map #[] 0)) w.heap.size [] :=
  ⟨[], 0, ⟨by show (w.heap.push _)[w.heap.size]? = _; rw [Array.getElem?_push_size]; rfl, List.nodup_nil, List.nodup_nil, fun e he => by cases he⟩, rfl⟩
theorem SetAt.nodup {w : World} {b : Nat} {K : List Int} (h : SetAt w b K) : K.Nodup := by
  obtain ⟨L, clk, h1, rfl⟩ := h; exact h1.keys
theorem SetAt.lt {w : World} {b : Nat} {K : List Int} (h : SetAt w b K) : b < w.heap.size := by
  obtain ⟨L, clk, h1, rfl⟩ := h; exact h1.blk_lt
theorem SetAt.fr {w w' : World} {b : Nat} {K : List Int} (h : SetAt w b K) {S : Nat → Prop} (hf : Fr S w w') (hb : ¬ S b) : SetAt w' b K := by
  obtain ⟨L, clk, h1, h2⟩ := h; exact ⟨L, clk, h1.fr hf hb, h2⟩
set_option maxRecDepth 100000 in
theorem SetAt.look {w : World} {b : Nat} {K : List Int} (h : SetAt w b K) (k : Int) : (Instr.lookup 67 (.map (some b)) (.int .i64 k) false).run Try.prog w = .ok (.bool (decide (k ∈ K))) w := by
  obtain ⟨L, clk, h1, rfl⟩ := h
  have := run_lookup_at (P := Try.prog) (T := 67) (z := .bool false) Try.underlying67 Try.underlying3 (zero_bool' w) h1 k
  rw [this]
  congr 1
  cases hl : lk L k with
  | none =>
    have : k ∉ L.map (·.1) := fun hm => by have := (lk_isSome k L).2 hm; rw [hl] at this; cases this
    rw [decide_eq_false this]; rfl
  | some u =>
    have : k ∈ L.map (·.1) := (lk_isSome k L).1 (by rw [hl]; rfl)
    rw [decide_eq_true this]; rfl
theorem SetAt.put {w : World} {b : Nat} {K : List Int} (h : SetAt w b K) {k : Int} (hk : k ∉ K) : ∃ w', (Instr.mapUpdate 67 (.map (some b)) (.int .i64 k) (.bool true)).run Try.prog w = .ok () w' ∧ SetAt w' b (K ++ [k]) ∧ Fr (fun j => j = b) w w' := by
  obtain ⟨L, clk, h1, rfl⟩ := h
  have hu := run_update_at (P := Try.prog) (T := 67) (vf := yes) Try.underlying67 Try.underlying3 h1 k ()
  refine ⟨_, hu, ⟨_, _, h1.put k (), ?_⟩, (Fr.refl (fun j => j = b) w).putMap (S := fun j => j = b) rfl _⟩
  rw [put_map_keys, if_neg hk]

theorem nodup_lt : ∀ (n : Nat) (l : List Nat), l.Nodup → (∀ x ∈ l, x < n) → l.length ≤ n
  | 0, l, _, h => by
    cases l with
    | nil => simp
    | cons a _ => exact absurd (h a (by simp)) (by omega)
  | n + 1, l, hn, h => by
    by_cases hm : n ∈ l
    · have h1 := nodup_lt n (l.erase n) (hn.erase n) (fun x hx => by
        have := (List.Nodup.mem_erase_iff hn).1 hx
        have := h x this.2
        omega)
      rw [List.length_erase_of_mem hm] at h1
      omega
    · have := nodup_lt n l hn (fun x hx => by
        have h1 := h x hx
        have h2 : x ≠ n := fun e => hm (e ▸ hx)
        omega)
      omega
theorem inR_len {n : Nat} {l : List Int} (hn : l.Nodup) (h : ∀ x ∈ l, inR n x) : l.length ≤ 32 * n := by
  have h2 : (l.map (fun x => (x - 1).toNat)).Nodup := by
    unfold List.Nodup at hn ⊢
    rw [List.pairwise_map]
    refine hn.imp_of_mem fun {x y} hx hy hne e => ?_
    have := h x hx; have := h y hy
    unfold inR at *
    omega
  have h3 := nodup_lt (32 * n) _ h2 fun x hx => by
    obtain ⟨y, hy, rfl⟩ := List.mem_map.1 hx
    have := h y hy
    unfold inR at this
    omega
  simpa using h3

/-! ### The marker -/
structure MkP where
  C : Nat
  mp : Nat
  mb : Nat
def mcells (q : SPl) (mb : Nat) (v : Value) (most : Int) (m : MK) (a b c : Int) : Nat → Value
  | 0 => .pointer (some ⟨q.sp, 0, none⟩)
  | 1 => .map (some mb)
  | 2 => v
  | 3 => .int .i64 most
  | 4 => .bool m.over
  | 5 => .bool m.moved
  | 6 => .int .i64 a
  | 7 => .int .i64 b
  | 8 => .int .i64 c
  | _ => .int .i64 m.e
structure MkAt (w : World) (q : SPl) (p : HP) (srt : List Inf) (most : Int) (K : MkP) (v : Value) (m : MK) : Prop where
  heap : HeapAt w p m.s
  sto : StoreAt w q p srt
  st : ∃ a b c : Int, BlkAt w K.mp 151 10 (mcells q K.mb v most m a b c) ∧ 0 ≤ a ∧ a ≤ most
  seen : SetAt w K.mb m.seen
  rng : ∀ x ∈ m.seen, inR m.s.n x
  wait : IntsAt w K.C v m.wait
  room : (m.wait.length : Int) ≤ most
  sep : ∀ k, p.mine k → k ≠ q.sp ∧ k ≠ q.sb ∧ k < K.C
  low : q.sp < K.C ∧ q.sb < K.C ∧ K.C ≤ K.mp ∧ K.C ≤ K.mb ∧ K.mp ≠ K.mb
  own : ∀ k, v.ownBlock = some k → k ≠ K.mp ∧ k ≠ K.mb
  sorts : SortsOk srt
  most1 : 1 ≤ most
/-- A block that is none of a marker's, nor of its store's. -/
structure Free (q : SPl) (p : HP) (K : MkP) (v : Value) (k : Nat) : Prop where
  mine : ¬ p.mine k
  sp : k ≠ q.sp
  sb : k ≠ q.sb
  mp : k ≠ K.mp
  mb : k ≠ K.mb
  own : v.ownBlock ≠ some k
section
variable {w w' : World} {q : SPl} {p : HP} {srt : List Inf} {most : Int} {K : MkP} {v : Value} {m : MK}
theorem MkAt.fr (h : MkAt w q p srt most K v m) {S : Nat → Prop} (hf : Fr S w w') (hS : ∀ k, S k → Free q p K v k) : MkAt w' q p srt most K v m := by
  obtain ⟨a, b, c, hb, ha⟩ := h.st
  exact ⟨h.heap.fr hf fun k hk hs => (hS k hs).mine hk, h.sto.fr hf (fun hs => (hS _ hs).sp rfl) (fun hs => (hS _ hs).sb rfl), ⟨a, b, c, hb.fr hf fun hs => (hS _ hs).mp rfl, ha⟩, h.seen.fr hf fun hs => (hS _ hs).mb rfl, h.rng,
    h.wait.fr hf fun k hk hs => (hS _ hs).own hk, h.room, h.sep, h.low, h.own, h.sorts, h.most1⟩
theorem MkAt.quiet (h : MkAt w q p srt most K v m) (hf : Fr (fun _ => False) w w') : MkAt w' q p srt most K v m := h.fr hf fun _ h => h.elim
theorem MkAt.lt (h : MkAt w q p srt most K v m) : K.C < w.heap.size := by
  obtain ⟨a, b, c, hb, _⟩ := h.st
  have := hb.lt; have := h.low; omega
theorem MkAt.mp_lt (h : MkAt w q p srt most K v m) : K.mp < w.heap.size := by obtain ⟨a, b, c, hb, _⟩ := h.st; exact hb.lt
theorem MkAt.fresh (h : MkAt w q p srt most K v m) {k : Nat} (hk : w.heap.size ≤ k) : Free q p K v k := by
  have h1 := h.lt
  have h2 := h.low
  refine ⟨fun hm => ?_, ?_, ?_, ?_, ?_, fun hv => ?_⟩
  · have := (h.sep k hm).2.2; omega
  · omega
  · omega
  · have := h.mp_lt; omega
  · have := h.seen.lt; omega
  · have := (h.wait.lt k hv).2; omega
theorem MkAt.new (h : MkAt w q p srt most K v m) (hf : Fr (fun k => w.heap.size ≤ k) w w') : MkAt w' q p srt most K v m := h.fr hf fun k hk => h.fresh hk
/-- The heap turns. -/
theorem MkAt.turn (h : MkAt w q p srt most K v m) {s : HS} (ha : HeapAt w' p s) (hf : Fr p.mine w w') (hn : s.n = m.s.n) : MkAt w' q p srt most K v { m with s := s } := by
  obtain ⟨a, b, c, hb, hab⟩ := h.st
  have h1 := h.low
  refine ⟨ha, h.sto.fr hf (fun hs => (h.sep _ hs).1 rfl) (fun hs => (h.sep _ hs).2.1 rfl), ⟨a, b, c, hb.fr hf fun hs => by have := (h.sep _ hs).2.2; omega, hab⟩, h.seen.fr hf fun hs => by have := (h.sep _ hs).2.2; omega, fun x hx => ?_,
    h.wait.fr hf fun k hk hs => by have := (h.sep _ hs).2.2; have := (h.wait.lt k hk).1; omega, h.room, h.sep, h.low, h.own, h.sorts, h.most1⟩
  show inR s.n x
  rw [hn]; exact h.rng x hx
/-- A field of the marker is set. -/
theorem MkAt.set (h : MkAt w q p srt most K v m) {m' : MK} (i : Nat) (x : Value) (hs : m'.s = m.s) (hseen : m'.seen = m.seen) (hw : m'.wait = m.wait)
    (hx : ∀ a b c : Int, 0 ≤ a ∧ a ≤ most → ∃ a' b' c' : Int, (∀ j, j < 10 → upd (mcells q K.mb v most m a b c) i x j = mcells q K.mb v most m' a' b' c' j) ∧ 0 ≤ a' ∧ a' ≤ most) : MkAt (w.setCell ⟨K.mp, i, none⟩ x) q p srt most K v m' := by
  obtain ⟨a, b, c, hb, hab⟩ := h.st
  obtain ⟨a', b', c', hc, hab'⟩ := hx a b c hab
  have h1 := h.low
  have hf : Fr (fun k => k = K.mp) w (w.setCell ⟨K.mp, i, none⟩ x) := (Fr.refl _ w).setCell (S := fun k => k = K.mp) rfl _
  refine ⟨by rw [hs]; exact h.heap.fr hf fun k hk (he : k = K.mp) => by have := (h.sep _ hk).2.2; omega, h.sto.fr hf (fun (he : _ = _) => by omega) (fun (he : _ = _) => by omega), ⟨a', b', c', (hb.store i x).congr hc, hab'⟩,
    by rw [hseen]; exact h.seen.fr hf fun (he : _ = _) => by omega, fun y hy => by rw [hs]; rw [hseen] at hy; exact h.rng y hy, by rw [hw]; exact h.wait.fr hf fun k hk (he : k = K.mp) => (h.own k hk).1 he, by rw [hw]; exact h.room, h.sep, h.low, h.own, h.sorts, h.most1⟩
theorem MkAt.ptr (h : MkAt w q p srt most K v m) : w.cell? ⟨K.mp, 0, none⟩ = some (.pointer (some ⟨q.sp, 0, none⟩)) := by obtain ⟨a, b, c, hb, _⟩ := h.st; exact hb.cell (i := 0) (by omega)
theorem MkAt.map (h : MkAt w q p srt most K v m) : w.cell? ⟨K.mp, 1, none⟩ = some (.map (some K.mb)) := by obtain ⟨a, b, c, hb, _⟩ := h.st; exact hb.cell (i := 1) (by omega)
theorem MkAt.wt (h : MkAt w q p srt most K v m) : w.cell? ⟨K.mp, 2, none⟩ = some v := by obtain ⟨a, b, c, hb, _⟩ := h.st; exact hb.cell (i := 2) (by omega)
theorem MkAt.mst (h : MkAt w q p srt most K v m) : w.cell? ⟨K.mp, 3, none⟩ = some (.int .i64 most) := by obtain ⟨a, b, c, hb, _⟩ := h.st; exact hb.cell (i := 3) (by omega)
theorem MkAt.ovr (h : MkAt w q p srt most K v m) : w.cell? ⟨K.mp, 4, none⟩ = some (.bool m.over) := by obtain ⟨a, b, c, hb, _⟩ := h.st; exact hb.cell (i := 4) (by omega)
theorem MkAt.mvd (h : MkAt w q p srt most K v m) : w.cell? ⟨K.mp, 5, none⟩ = some (.bool m.moved) := by obtain ⟨a, b, c, hb, _⟩ := h.st; exact hb.cell (i := 5) (by omega)
theorem MkAt.err (h : MkAt w q p srt most K v m) : w.cell? ⟨K.mp, 9, none⟩ = some (.int .i64 m.e) := by obtain ⟨a, b, c, hb, _⟩ := h.st; exact hb.cell (i := 9) (by omega)
theorem MkAt.nums (h : MkAt w q p srt most K v m) : ∃ a b c : Int, w.cell? ⟨K.mp, 6, none⟩ = some (.int .i64 a) ∧ w.cell? ⟨K.mp, 7, none⟩ = some (.int .i64 b) ∧ w.cell? ⟨K.mp, 8, none⟩ = some (.int .i64 c) ∧ 0 ≤ a ∧ a ≤ most := by
  obtain ⟨a, b, c, hb, ha⟩ := h.st; exact ⟨a, b, c, hb.cell (i := 6) (by omega), hb.cell (i := 7) (by omega), hb.cell (i := 8) (by omega), ha⟩
theorem MkAt.frz (h : MkAt w q p srt most K v m) (i : Nat) : w.frozen? ⟨K.mp, i, none⟩ = false := by obtain ⟨a, b, c, hb, _⟩ := h.st; exact hb.frozen i
theorem upd_cells {f g : Nat → Value} {i : Nat} {x : Value} (hx : g i = x) (hf : ∀ j, j < 10 → j ≠ i → f j = g j) : ∀ j, j < 10 → upd f i x j = g j := by
  intro j hj
  by_cases e : j = i
  · subst e; rw [upd_same, hx]
  · rw [upd_other _ _ e, hf j hj e]
theorem MkAt.setErr (h : MkAt w q p srt most K v m) (e : Int) : MkAt (w.setCell ⟨K.mp, 9, none⟩ (.int .i64 e)) q p srt most K v { m with e := e } :=
  h.set 9 _ rfl rfl rfl fun a b c hab => ⟨a, b, c, upd_cells rfl fun j hj hne => by
    match j, hj, hne with
    | 0, _, _ => rfl
    | 1, _, _ => rfl
    | 2, _, _ => rfl
    | 3, _, _ => rfl
    | 4, _, _ => rfl
    | 5, _, _ => rfl
    | 6, _, _ => rfl
    | 7, _, _ => rfl
    | 8, _, _ => rfl
    | j + 9, hj, hne => exact absurd (show j + 9 = 9 by omega) hne, hab⟩
theorem MkAt.setMoved (h : MkAt w q p srt most K v m) (x : Bool) : MkAt (w.setCell ⟨K.mp, 5, none⟩ (.bool x)) q p srt most K v { m with moved := x } :=
  h.set 5 _ rfl rfl rfl fun a b c hab => ⟨a, b, c, upd_cells rfl fun j hj hne => by
    match j, hj, hne with
    | 0, _, _ => rfl
    | 1, _, _ => rfl
    | 2, _, _ => rfl
    | 3, _, _ => rfl
    | 4, _, _ => rfl
    | 6, _, _ => rfl
    | 7, _, _ => rfl
    | 8, _, _ => rfl
    | 9, _, _ => rfl, hab⟩
theorem MkAt.setOver (h : MkAt w q p srt most K v m) (x : Bool) : MkAt (w.setCell ⟨K.mp, 4, none⟩ (.bool x)) q p srt most K v { m with over := x } :=
  h.set 4 _ rfl rfl rfl fun a b c hab => ⟨a, b, c, upd_cells rfl fun j hj hne => by
    match j, hj, hne with
    | 0, _, _ => rfl
    | 1, _, _ => rfl
    | 2, _, _ => rfl
    | 3, _, _ => rfl
    | 5, _, _ => rfl
    | 6, _, _ => rfl
    | 7, _, _ => rfl
    | 8, _, _ => rfl
    | 9, _, _ => rfl, hab⟩
theorem MkAt.setPeak (h : MkAt w q p srt most K v m) (x : Int) (hx : 0 ≤ x ∧ x ≤ most) : MkAt (w.setCell ⟨K.mp, 6, none⟩ (.int .i64 x)) q p srt most K v m :=
  h.set 6 _ rfl rfl rfl fun a b c hab => ⟨x, b, c, upd_cells rfl fun j hj hne => by
    match j, hj, hne with
    | 0, _, _ => rfl
    | 1, _, _ => rfl
    | 2, _, _ => rfl
    | 3, _, _ => rfl
    | 4, _, _ => rfl
    | 5, _, _ => rfl
    | 7, _, _ => rfl
    | 8, _, _ => rfl
    | 9, _, _ => rfl, hx⟩
theorem MkAt.setAgain (h : MkAt w q p srt most K v m) (x : Int) : MkAt (w.setCell ⟨K.mp, 7, none⟩ (.int .i64 x)) q p srt most K v m :=
  h.set 7 _ rfl rfl rfl fun a b c hab => ⟨a, x, c, upd_cells rfl fun j hj hne => by
    match j, hj, hne with
    | 0, _, _ => rfl
    | 1, _, _ => rfl
    | 2, _, _ => rfl
    | 3, _, _ => rfl
    | 4, _, _ => rfl
    | 5, _, _ => rfl
    | 6, _, _ => rfl
    | 8, _, _ => rfl
    | 9, _, _ => rfl, hab⟩
theorem MkAt.setPassed (h : MkAt w q p srt most K v m) (x : Int) : MkAt (w.setCell ⟨K.mp, 8, none⟩ (.int .i64 x)) q p srt most K v m :=
  h.set 8 _ rfl rfl rfl fun a b c hab => ⟨a, b, x, upd_cells rfl fun j hj hne => by
    match j, hj, hne with
    | 0, _, _ => rfl
    | 1, _, _ => rfl
    | 2, _, _ => rfl
    | 3, _, _ => rfl
    | 4, _, _ => rfl
    | 5, _, _ => rfl
    | 6, _, _ => rfl
    | 7, _, _ => rfl
    | 9, _, _ => rfl, hab⟩
end

/-- fail. -/
theorem fail_any {w : World} {q : SPl} {p : HP} {srt : List Inf} {most : Int} {K : MkP} {v : Value} {m : MK} (h : MkAt w q p srt most K v m) :
    Calls Try.prog 109 #[.pointer (some ⟨K.mp, 0, none⟩), .int .i64 12] w fun e w' => e = .returned (.tuple #[]) ∧ Hid (MkAt w' q p srt most K v m.fail ∧ Fr (fun k => k = K.mp) w w') := by
  have h9 := h.err
  have z9 := h.frz 9
  have HM := Lib.hid h
  obtain ⟨e, he⟩ : ∃ e, e = m.e := ⟨_, rfl⟩
  rw [← he] at h9
  have HE := Lib.hid he
  clear h he
  by_cases h0 : e = 0
  · subst h0
    go_enter Try.func109, Try.ntmps109
    go_wp2
    go_end0
    refine ⟨rfl, ?_, (Fr.refl _ w).setCell (S := fun k => k = K.mp) rfl _⟩
    have := HM.out.setErr 12
    have he : m.fail = { m with e := 12 } := by unfold MK.fail; rw [if_pos HE.out.symm]
    rw [he]; exact this
  · go_enter Try.func109, Try.ntmps109
    go_wp2
    go_end0
    refine ⟨rfl, ?_, Fr.refl _ w⟩
    have he : m.fail = m := by unfold MK.fail; rw [if_neg (by rw [← HE.out]; exact h0)]
    rw [he]; exact HM.out
end Go.Proofs.Ytjfpijoeddjgmaa
