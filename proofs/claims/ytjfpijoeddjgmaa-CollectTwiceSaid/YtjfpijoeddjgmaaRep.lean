/- Blocks of memory and maps as plain functions: what a block holds, how a store turns it, what a map's operations do. No condition. -/
import Derived.Test.YtjfpijoeddjgmaaHm
import Derived.WalkKit
import Derived.Deep.Draws
namespace Go.Proofs.Ytjfpijoeddjgmaa
open Go.RowKit Hm
set_option linter.unusedVariables false

/-! ### A block of one-cell elements -/
def BlkAt (w : World) (b : Nat) (T : TypeId) (n : Nat) (f : Nat → Value) : Prop :=
  ∃ cs : Array Value, w.heap[b]? = some (.cells cs T (0, 0)) ∧ cs.size = n ∧ ∀ i, i < n → cs[i]? = some (f i)

theorem BlkAt.cell {w : World} {b : Nat} {T : TypeId} {n : Nat} {f : Nat → Value} (h : BlkAt w b T n f) {i : Nat} (hi : i < n) : w.cell? ⟨b, i, none⟩ = some (f i) := by
  obtain ⟨cs, h1, h2, h3⟩ := h
  simp [World.cell?, h1, h3 i hi]
theorem BlkAt.frozen {w : World} {b : Nat} {T : TypeId} {n : Nat} {f : Nat → Value} (h : BlkAt w b T n f) (i : Nat) : w.frozen? ⟨b, i, none⟩ = false := by
  obtain ⟨cs, h1, h2, h3⟩ := h
  simp [World.frozen?, h1]
theorem BlkAt.lt {w : World} {b : Nat} {T : TypeId} {n : Nat} {f : Nat → Value} (h : BlkAt w b T n f) : b < w.heap.size := by
  obtain ⟨cs, h1, _⟩ := h
  exact (Array.getElem?_eq_some_iff.1 h1).1
theorem BlkAt.of_heap {w w' : World} {b : Nat} {T : TypeId} {n : Nat} {f : Nat → Value} (h : BlkAt w b T n f) (hh : w'.heap[b]? = w.heap[b]?) : BlkAt w' b T n f := by
  obtain ⟨cs, h1, h2⟩ := h
  exact ⟨cs, hh.trans h1, h2⟩
theorem BlkAt.congr {w : World} {b : Nat} {T : TypeId} {n : Nat} {f g : Nat → Value} (h : BlkAt w b T n f) (hg : ∀ i, i < n → f i = g i) : BlkAt w b T n g := by
  obtain ⟨cs, h1, h2, h3⟩ := h
  exact ⟨cs, h1, h2, fun i hi => by rw [h3 i hi, hg i hi]⟩
theorem heap_setCell_ne (w : World) (a : Addr) (v : Value) {k : Nat} (h : k ≠ a.block) : (w.setCell a v).heap[k]? = w.heap[k]? := by
  simp only [World.setCell, Array.getElem?_modify]
  rw [if_neg (by omega)]
theorem BlkAt.store {w : World} {b : Nat} {T : TypeId} {n : Nat} {f : Nat → Value} (h : BlkAt w b T n f) (i : Nat) (v : Value) : BlkAt (w.setCell ⟨b, i, none⟩ v) b T n (upd f i v) := by
  obtain ⟨cs, h1, h2, h3⟩ := h
  refine ⟨cs.setIfInBounds i v, ?_, by simp [h2], fun j hj => ?_⟩
  · simp [World.setCell, Array.getElem?_modify, h1]
  · rw [Array.getElem?_setIfInBounds]
    unfold upd
    by_cases e : i = j
    · rw [if_pos e, if_pos (by omega), if_pos e.symm]
    · rw [if_neg e, if_neg (by omega)]; exact h3 j hj
theorem BlkAt.store_ne {w : World} {b : Nat} {T : TypeId} {n : Nat} {f : Nat → Value} (h : BlkAt w b T n f) {a : Addr} (hne : b ≠ a.block) (v : Value) : BlkAt (w.setCell a v) b T n f :=
  h.of_heap (heap_setCell_ne w a v hne)
theorem BlkAt.alloc {w : World} {b : Nat} {T : TypeId} {n : Nat} {f : Nat → Value} (h : BlkAt w b T n f) (o : Obj) : BlkAt (w.alloc o) b T n f :=
  h.of_heap (Below.heap_alloc w o b h.lt)

/-! ### A map with int keys -/
abbrev Ent (α : Type) := Int × α × Nat
def entOf {α : Type} (vf : α → Value) (e : Ent α) : MapEntry := ⟨.int .i64 e.1, vf e.2.1, e.2.2⟩
/-- The block b is a map that has these entries. -/
structure MapAt {α : Type} (w : World) (b : Nat) (vf : α → Value) (L : List (Ent α)) (clk : Nat) : Prop where
  heap : w.heap[b]? = some (.map (L.map (entOf vf)).toArray clk)
  keys : (L.map (·.1)).Nodup
  borns : (L.map (·.2.2)).Nodup
  lt : ∀ e ∈ L, e.2.2 < clk
/-- Where a key's entry is, and its value. -/
def ix {α : Type} (k : Int) : List (Ent α) → Nat → Option (Nat × α)
  | [], _ => none
  | x :: L, i => if x.1 = k then some (i, x.2.1) else ix k L (i + 1)
def lk {α : Type} (L : List (Ent α)) (k : Int) : Option α := (ix k L 0).map (·.2)
/-- What an update does to the entries. -/
def put {α : Type} (clk : Nat) (k : Int) (v : α) : List (Ent α) → List (Ent α)
  | [] => [(k, v, clk)]
  | x :: L => if x.1 = k then (x.1, v, x.2.2) :: L else x :: put clk k v L
def clkOf {α : Type} (L : List (Ent α)) (clk : Nat) (k : Int) : Nat := if (lk L k).isSome then clk else clk + 1
def World.putMap (w : World) (b : Nat) (o : Obj) : World := { w with heap := w.heap.setIfInBounds b o }

theorem ix_shift {α : Type} (k : Int) : ∀ (L : List (Ent α)) (i : Nat), ix k L i = (ix k L 0).map fun p => (p.1 + i, p.2)
  | [], _ => rfl
  | x :: L, i => by
    simp only [ix]
    split
    · simp
    · rw [ix_shift k L (i + 1), ix_shift k L (0 + 1), Option.map_map]
      congr 1; funext p; simp; omega
theorem lk_nil {α : Type} (k : Int) : lk ([] : List (Ent α)) k = none := rfl
theorem lk_cons {α : Type} (x : Ent α) (L : List (Ent α)) (k : Int) : lk (x :: L) k = if x.1 = k then some x.2.1 else lk L k := by
  unfold lk
  simp only [ix]
  split
  · rfl
  · rw [ix_shift]; simp [Option.map_map, Function.comp_def]
theorem lk_put {α : Type} (clk : Nat) (k k' : Int) (v : α) : ∀ L : List (Ent α), lk (put clk k v L) k' = if k' = k then some v else lk L k'
  | [] => by
    simp only [put, lk_cons, lk_nil]
    by_cases h : k' = k
    · rw [if_pos h, if_pos h.symm]
    · rw [if_neg h, if_neg (fun e => h e.symm)]
  | x :: L => by
    simp only [put]
    split
    · rename_i hx
      rw [lk_cons, lk_cons]
      simp only []
      by_cases h : k' = k
      · rw [if_pos (by omega), if_pos h]
      · rw [if_neg (by omega), if_neg h, if_neg (by omega)]
    · rename_i hx
      rw [lk_cons, lk_cons, lk_put clk k k' v L]
      by_cases h : k' = k
      · subst h; rw [if_neg hx, if_pos rfl, if_pos rfl]
      · simp only [if_neg h]
theorem lk_isSome {α : Type} (k : Int) : ∀ L : List (Ent α), (lk L k).isSome = true ↔ k ∈ L.map (·.1)
  | [] => by simp [lk_nil]
  | x :: L => by
    rw [lk_cons, List.map_cons, List.mem_cons, ← lk_isSome k L]
    by_cases h : x.1 = k
    · simp [h]
    · simp [h, show ¬ k = x.1 by omega]
theorem put_map_keys {α : Type} (clk : Nat) (k : Int) (v : α) : ∀ L : List (Ent α), (put clk k v L).map (·.1) = if k ∈ L.map (·.1) then L.map (·.1) else L.map (·.1) ++ [k]
  | [] => by simp [put]
  | x :: L => by
    simp only [put]
    split
    · rename_i hx; simp [hx]
    · rename_i hx
      rw [List.map_cons, put_map_keys clk k v L, List.map_cons]
      by_cases h : k ∈ L.map (·.1)
      · rw [if_pos h, if_pos (List.mem_cons_of_mem _ h)]
      · rw [if_neg h, if_neg (fun e => by rcases List.mem_cons.1 e with e | e; exact hx e.symm; exact h e)]
        simp
theorem put_map_borns {α : Type} (clk : Nat) (k : Int) (v : α) : ∀ L : List (Ent α), (put clk k v L).map (·.2.2) = if k ∈ L.map (·.1) then L.map (·.2.2) else L.map (·.2.2) ++ [clk]
  | [] => by simp [put]
  | x :: L => by
    simp only [put]
    split
    · rename_i hx; simp [hx]
    · rename_i hx
      rw [List.map_cons, put_map_borns clk k v L, List.map_cons, List.map_cons]
      by_cases h : k ∈ L.map (·.1)
      · rw [if_pos h, if_pos (List.mem_cons_of_mem _ h)]
      · rw [if_neg h, if_neg (fun e => by rcases List.mem_cons.1 e with e | e; exact hx e.symm; exact h e)]
        simp
theorem MapAt.of_heap {α : Type} {w w' : World} {b : Nat} {vf : α → Value} {L : List (Ent α)} {clk : Nat} (h : MapAt w b vf L clk) (hh : w'.heap[b]? = w.heap[b]?) : MapAt w' b vf L clk :=
  ⟨hh.trans h.heap, h.keys, h.borns, h.lt⟩
theorem MapAt.blk_lt {α : Type} {w : World} {b : Nat} {vf : α → Value} {L : List (Ent α)} {clk : Nat} (h : MapAt w b vf L clk) : b < w.heap.size := (Array.getElem?_eq_some_iff.1 h.heap).1
theorem heap_putMap_ne (w : World) (b : Nat) (o : Obj) {k : Nat} (h : k ≠ b) : (World.putMap w b o).heap[k]? = w.heap[k]? := by
  simp only [World.putMap, Array.getElem?_setIfInBounds]
  rw [if_neg (by omega)]
theorem BlkAt.putMap {w : World} {b m : Nat} {T : TypeId} {n : Nat} {f : Nat → Value} (h : BlkAt w b T n f) (hne : b ≠ m) (o : Obj) : BlkAt (World.putMap w m o) b T n f := h.of_heap (heap_putMap_ne w m o hne)
theorem MapAt.put {α : Type} {w : World} {b : Nat} {vf : α → Value} {L : List (Ent α)} {clk : Nat} (h : MapAt w b vf L clk) (k : Int) (v : α) :
    MapAt (World.putMap w b (.map ((put clk k v L).map (entOf vf)).toArray (clkOf L clk k))) b vf (put clk k v L) (clkOf L clk k) where
  heap := by
    have := (Array.getElem?_eq_some_iff.1 h.heap).1
    simp [World.putMap, this]
  keys := by
    rw [put_map_keys]
    split
    · exact h.keys
    · rename_i hn
      rw [List.nodup_append]
      refine ⟨h.keys, by simp, fun a ha c hc => ?_⟩
      simp at hc; subst hc; exact fun e => hn (e ▸ ha)
  borns := by
    rw [put_map_borns]
    split
    · exact h.borns
    · rw [List.nodup_append]
      refine ⟨h.borns, by simp, fun a ha c hc => ?_⟩
      simp at hc; subst hc
      obtain ⟨e, he, rfl⟩ := List.mem_map.1 ha
      have := h.lt e he; omega
  lt := fun e he => by
    have hm : e.2.2 ∈ (Go.Proofs.Ytjfpijoeddjgmaa.put clk k v L).map (·.2.2) := List.mem_map_of_mem he
    rw [put_map_borns] at hm
    unfold clkOf
    by_cases hk : k ∈ L.map (·.1)
    · rw [if_pos ((lk_isSome k L).2 hk)]
      rw [if_pos hk] at hm
      obtain ⟨x, hx, e2⟩ := List.mem_map.1 hm
      have := h.lt x hx; omega
    · rw [if_neg (fun e => hk ((lk_isSome k L).1 e))]
      rw [if_neg hk] at hm
      rcases List.mem_append.1 hm with h1 | h1
      · obtain ⟨x, hx, e2⟩ := List.mem_map.1 h1
        have := h.lt x hx; omega
      · simp at h1; omega

theorem findNow_ents {α : Type} (vf : α → Value) (k : Int) : ∀ (L : List (Ent α)) (i : Nat),
    Instr.findNow (.int .i64) (.int .i64 k) (L.map (entOf vf)) i = some ((ix k L i).map fun p => (p.1, vf p.2))
  | [], i => rfl
  | x :: L, i => by
    simp only [List.map_cons, Instr.findNow, entOf, Instr.sameNow, if_true, ix]
    by_cases hx : x.1 = k
    · rw [if_pos hx, show (k == x.1) = true by simp [hx]]; rfl
    · rw [if_neg hx, show (k == x.1) = false by simp; omega]
      exact findNow_ents vf k L (i + 1)
theorem put_of_ix {α : Type} (clk : Nat) (k : Int) (v : α) : ∀ (L : List (Ent α)), put clk k v L = match ix k L 0 with
    | some p => L.modify p.1 (fun e => (e.1, v, e.2.2))
    | none => L ++ [(k, v, clk)]
  | [] => rfl
  | x :: L => by
    simp only [put, ix]
    split
    · simp [List.modify]
    · rw [put_of_ix clk k v L, ix_shift k L (0 + 1)]
      cases ix k L 0 with
      | none => simp
      | some p => simp [List.modify_succ_cons]
theorem ix_get {α : Type} (k : Int) : ∀ (L : List (Ent α)) (p : Nat × α), ix k L 0 = some p → ∃ e, L[p.1]? = some e ∧ e.1 = k ∧ e.2.1 = p.2
  | [], p, h => by cases h
  | x :: L, p, h => by
    simp only [ix] at h
    split at h
    · rename_i hx
      obtain rfl := Option.some.inj h
      exact ⟨x, rfl, hx, rfl⟩
    · rw [ix_shift] at h
      obtain ⟨q, hq, rfl⟩ := Option.map_eq_some_iff.1 h
      obtain ⟨e, h1, h2⟩ := ix_get k L q hq
      exact ⟨e, by simpa using h1, h2⟩

section
variable {α : Type} {P : Program} {vf : α → Value} {L : List (Ent α)} {clk : Nat}
theorem run_checkKey_int {w : World} {kt : TypeId} (hk : P.underlying kt = some (.int .i64)) (b : Bool) (k : Int) (n : Nat) : (Instr.checkKey b (n + 1) kt (.int .i64 k)).run P w = .ok () w := by
  simp [Instr.checkKey, run_underlying hk]
theorem run_findKey_int {w : World} {kt : TypeId} (hk : P.underlying kt = some (.int .i64)) (k : Int) : (Instr.findKey kt (.int .i64 k) (L.map (entOf vf))).run P w = .ok ((ix k L 0).map fun p => (p.1, vf p.2)) w := by
  simp [Instr.findKey, run_underlying hk, findNow_ents]
theorem run_getMap {w : World} {b : Nat} {es : Array MapEntry} {c : Nat} (h : w.heap[b]? = some (.map es c)) : (getObj b).run P w = .ok (.map es c) w := by
  simp [getObj, Sem.run, h]
theorem run_lookup_at {w : World} {b : Nat} {T kt et : TypeId} {z : Value} (hT : P.underlying T = some (.map kt et)) (hk : P.underlying kt = some (.int .i64)) (hz : (zeroValue et).run P w = .ok z w) (h : MapAt w b vf L clk) (k : Int) :
    (Instr.lookup T (.map (some b)) (.int .i64 k) false).run P w = .ok (((lk L k).map vf).getD z) w := by
  have hf := run_findKey_int (P := P) (vf := vf) (L := L) (w := w) hk k
  have hg := run_getMap (P := P) h.heap
  have hc := fun b => run_checkKey_int (P := P) (w := w) hk b k 9999
  simp only [Nat.reduceAdd] at hc
  simp [Instr.lookup, run_underlying hT, hg, hc, hf, lk]
  cases ix k L 0 with
  | none => simp [hz]
  | some p => simp
theorem run_lookup_ok_at {w : World} {b : Nat} {T kt et : TypeId} {z : Value} (hT : P.underlying T = some (.map kt et)) (hk : P.underlying kt = some (.int .i64)) (hz : (zeroValue et).run P w = .ok z w) (h : MapAt w b vf L clk) (k : Int) :
    (Instr.lookup T (.map (some b)) (.int .i64 k) true).run P w = .ok (.tuple #[((lk L k).map vf).getD z, .bool (lk L k).isSome]) w := by
  have hf := run_findKey_int (P := P) (vf := vf) (L := L) (w := w) hk k
  have hg := run_getMap (P := P) h.heap
  have hc := fun b => run_checkKey_int (P := P) (w := w) hk b k 9999
  simp only [Nat.reduceAdd] at hc
  simp [Instr.lookup, run_underlying hT, hg, hc, hf, lk]
  cases ix k L 0 with
  | none => simp [hz]
  | some p => simp
theorem same_key (k : Int) : Instr.sameBits 10000 (.int .i64 k) (.int .i64 k) = true := by simp [Instr.sameBits]
theorem ents_modify (j : Nat) (v : α) (L : List (Ent α)) : (L.map (entOf vf)).toArray.modify j (fun e => { e with val := vf v }) = ((L.modify j (fun e => (e.1, v, e.2.2))).map (entOf vf)).toArray := by
  apply Array.ext'
  simp only [Array.toList_modify]
  induction L generalizing j with
  | nil => simp
  | cons x L ih =>
    cases j with
    | zero => simp [List.modify, entOf]
    | succ j => simp only [List.map_cons, List.modify_succ_cons]; rw [ih j]
theorem run_setMap {w : World} {b : Nat} {es : Array MapEntry} {c : Nat} {o : Obj} (h : w.heap[b]? = some (.map es c)) : (setObj b o).run P w = .ok () (World.putMap w b o) := by
  simp [setObj, Sem.run, h, World.putMap]
theorem run_update_at {w : World} {b : Nat} {T kt et : TypeId} (hT : P.underlying T = some (.map kt et)) (hk : P.underlying kt = some (.int .i64)) (h : MapAt w b vf L clk) (k : Int) (v : α) :
    (Instr.mapUpdate T (.map (some b)) (.int .i64 k) (vf v)).run P w = .ok () (World.putMap w b (.map ((put clk k v L).map (entOf vf)).toArray (clkOf L clk k))) := by
  have hf := run_findKey_int (P := P) (vf := vf) (L := L) (w := w) hk k
  have hg := run_getMap (P := P) h.heap
  have hc := fun b => run_checkKey_int (P := P) (w := w) hk b k 9999
  simp only [Nat.reduceAdd] at hc
  have hp := put_of_ix clk k v L
  have hcl : clkOf L clk k = match ix k L 0 with | some _ => clk | none => clk + 1 := by
    unfold clkOf lk; cases ix k L 0 <;> simp
  simp [Instr.mapUpdate, run_underlying hT, hg, hc, hf]
  cases hi : ix k L 0 with
  | none =>
    rw [hi] at hp hcl
    simp only [] at hp hcl
    simp [run_setMap h.heap, hp, hcl, entOf]
  | some p =>
    rw [hi] at hp hcl
    simp only [] at hp hcl
    obtain ⟨e, h1, h2, h3⟩ := ix_get k L p hi
    have hm := ents_modify (vf := vf) p.1 v L
    have hkey : (Option.map (fun x => x.key) (List.map (entOf vf) L)[p.1]?).getD (.int .i64 k) = .int .i64 k := by
      simp [h1, entOf, h2]
    simp [Instr.keyThatStays, h1, entOf, h2, same_key, run_setMap h.heap]
    rw [hp, hcl, ← hm]
    congr 2
    apply Array.ext'
    simp only [Array.toList_modify]
    apply List.ext_getElem?
    intro i
    simp only [List.getElem?_modify]
    by_cases hi2 : p.1 = i
    · subst hi2; simp [h1, entOf, h2]
    · simp [hi2]
/-- 'm[k] = v' among other assignments: the entry is made (or found) first, its value stored behind. -/
def made (z : α) (L : List (Ent α)) (clk : Nat) (k : Int) : List (Ent α) := match ix k L 0 with | some _ => L | none => L ++ [(k, z, clk)]
def stampOf (L : List (Ent α)) (clk : Nat) (k : Int) : Nat := match ix k L 0 with | some p => ((L[p.1]?).map (·.2.2)).getD 0 | none => clk
theorem run_entry_at {w : World} {b : Nat} {T kt et : TypeId} {z : α} (hT : P.underlying T = some (.map kt et)) (hk : P.underlying kt = some (.int .i64)) (hz : (zeroValue et).run P w = .ok (vf z) w) (h : MapAt w b vf L clk) (k : Int) :
    (Instr.mapEntry T (.map (some b)) (.int .i64 k)).run P w = .ok (.tuple #[vf ((lk L k).getD z), .int .i64 (stampOf L clk k)]) (World.putMap w b (.map ((made z L clk k).map (entOf vf)).toArray (clkOf L clk k))) := by
  have hf := run_findKey_int (P := P) (vf := vf) (L := L) (w := w) hk k
  have hg := run_getMap (P := P) h.heap
  have hc := fun b => run_checkKey_int (P := P) (w := w) hk b k 9999
  simp only [Nat.reduceAdd] at hc
  have hcl : clkOf L clk k = match ix k L 0 with | some _ => clk | none => clk + 1 := by
    unfold clkOf lk; cases ix k L 0 <;> simp
  unfold made stampOf
  rw [hcl]
  simp [Instr.mapEntry, run_underlying hT, hg, hc, hf]
  cases hi : ix k L 0 with
  | none => simp [run_setMap h.heap, hz, entOf, lk, hi, goInt]
  | some p =>
    obtain ⟨e, h1, h2, h3⟩ := ix_get k L p hi
    have hkey : (Option.map (fun x => x.key) (List.map (entOf vf) L)[p.1]?).getD (.int .i64 k) = .int .i64 k := by
      simp [h1, entOf, h2]
    simp [Instr.keyThatStays, h1, entOf, h2, same_key, run_setMap h.heap, lk, hi, goInt]
    congr 2
    apply Array.ext'
    apply List.ext_getElem?
    intro i
    simp only [List.getElem?_modify]
    by_cases hi2 : p.1 = i
    · subst hi2; simp [h1, entOf, h2]
    · simp [hi2]
theorem nodup_inj {l : List Nat} (hn : l.Nodup) {i j x : Nat} (h1 : l[i]? = some x) (h2 : l[j]? = some x) : i = j := by
  induction l generalizing i j with
  | nil => simp at h1
  | cons y l ih =>
    rw [List.nodup_cons] at hn
    cases i with
    | zero =>
      cases j with
      | zero => rfl
      | succ j =>
        simp at h1 h2; subst h1
        exact absurd (List.mem_of_getElem? h2) hn.1
    | succ i =>
      cases j with
      | zero =>
        simp at h1 h2; subst h2
        exact absurd (List.mem_of_getElem? h1) hn.1
      | succ j =>
        simp at h1 h2
        rw [ih hn.2 h1 h2]
theorem findIdx_born {L : List (Ent α)} {j : Nat} {e : Ent α} (hn : (L.map (·.2.2)).Nodup) (hj : L[j]? = some e) : (L.map (entOf vf)).findIdx? (fun x => (x.born : Int) == (e.2.2 : Int)) = some j := by
  rw [List.findIdx?_eq_some_iff_getElem]
  have hl : j < L.length := (List.getElem?_eq_some_iff.1 hj).1
  have he : L[j] = e := (List.getElem?_eq_some_iff.1 hj).2
  refine ⟨by simpa using hl, by simp [entOf, he], fun i hi => ?_⟩
  simp only [List.getElem_map, entOf, beq_iff_eq, Int.natCast_inj]
  intro hc
  have := nodup_inj hn (i := i) (j := j) (x := e.2.2) (by simp [List.getElem?_eq_getElem (show i < L.length by omega), hc]) (by simp [hj])
  omega
theorem run_entryStore_core {w : World} {b : Nat} {T : TypeId} {c' st j : Nat} {M : List (Ent α)} (v : α) (hb : w.heap[b]? = some (.map (M.map (entOf vf)).toArray c')) (hfi : (M.map (entOf vf)).findIdx? (fun x => (x.born : Int) == (st : Int)) = some j) :
    (Instr.entryStore T (.map (some b)) (.int .i64 st) (vf v)).run P w = .ok () (World.putMap w b (.map ((M.modify j (fun e => (e.1, v, e.2.2))).map (entOf vf)).toArray c')) := by
  have hg := run_getMap (P := P) hb
  have hs := fun o => run_setMap (P := P) (o := o) hb
  have hm := ents_modify (vf := vf) j v M
  have hfi' : (M.map (entOf vf)).toArray.findIdx? (fun x => (x.born : Int) == (st : Int)) = some j := by simpa using hfi
  rw [← hm]
  generalize (M.map (entOf vf)).toArray = es at *
  simp [Instr.entryStore, asInt, asIntOf, hg, hfi', hs]
theorem modify_last (f : Ent α → Ent α) : ∀ (L : List (Ent α)) (x : Ent α), (L ++ [x]).modify L.length f = L ++ [f x]
  | [], x => by simp [List.modify]
  | y :: L, x => by simp only [List.cons_append, List.length_cons, List.modify_succ_cons, modify_last f L x]
theorem run_entryStore_at {w : World} {b : Nat} {T : TypeId} {z : α} {c' : Nat} (k : Int) (v : α) (hb : w.heap[b]? = some (.map ((made z L clk k).map (entOf vf)).toArray c')) (hn : (L.map (·.2.2)).Nodup) (hlt : ∀ e ∈ L, e.2.2 < clk) :
    (Instr.entryStore T (.map (some b)) (.int .i64 (stampOf L clk k)) (vf v)).run P w = .ok () (World.putMap w b (.map ((put clk k v L).map (entOf vf)).toArray c')) := by
  have hp := put_of_ix clk k v L
  cases hi : ix k L 0 with
  | none =>
    rw [hi] at hp
    simp only [] at hp
    have hmade : made z L clk k = L ++ [(k, z, clk)] := by unfold made; rw [hi]
    have hst : stampOf L clk k = clk := by unfold stampOf; rw [hi]
    rw [hmade] at hb
    have hn' : ((L ++ [(k, z, clk)]).map (·.2.2)).Nodup := by
      rw [List.map_append, List.nodup_append]
      refine ⟨hn, by simp, fun a ha c hc => ?_⟩
      simp at hc; subst hc
      obtain ⟨e, he, rfl⟩ := List.mem_map.1 ha
      have := hlt e he; omega
    have hfi := findIdx_born (vf := vf) (j := L.length) (e := (k, z, clk)) hn' (by simp)
    have := run_entryStore_core (P := P) (T := T) v hb hfi
    rw [hst, this, hp]
    congr 4
    rw [modify_last]
  | some p =>
    rw [hi] at hp
    simp only [] at hp
    have hmade : made z L clk k = L := by unfold made; rw [hi]
    obtain ⟨e, h1, h2, h3⟩ := ix_get k L p hi
    have hst : stampOf L clk k = e.2.2 := by unfold stampOf; rw [hi]; simp [h1]
    rw [hmade] at hb
    have hfi := findIdx_born (vf := vf) hn h1
    rw [hst, run_entryStore_core (P := P) (T := T) v hb hfi, hp]
end

/-! ### What a call may have turned -/
structure Fr (S : Nat → Prop) (w w' : World) : Prop where
  os : w'.os = w.os
  tape : w'.tape = w.tape
  output : w'.output = w.output
  size : w.heap.size ≤ w'.heap.size
  block : ∀ k, k < w.heap.size → ¬ S k → w'.heap[k]? = w.heap[k]?
theorem Fr.refl (S : Nat → Prop) (w : World) : Fr S w w := ⟨rfl, rfl, rfl, Nat.le_refl _, fun _ _ _ => rfl⟩
theorem Fr.trans {S : Nat → Prop} {a b c : World} (h : Fr S a b) (k : Fr S b c) : Fr S a c :=
  ⟨k.os.trans h.os, k.tape.trans h.tape, k.output.trans h.output, Nat.le_trans h.size k.size, fun i hi hs => (k.block i (Nat.lt_of_lt_of_le hi h.size) hs).trans (h.block i hi hs)⟩
theorem Fr.mono {S T : Nat → Prop} {a b : World} (h : Fr S a b) (hst : ∀ k, S k → T k) : Fr T a b :=
  ⟨h.os, h.tape, h.output, h.size, fun i hi hs => h.block i hi fun e => hs (hst i e)⟩
theorem Fr.setCell {S : Nat → Prop} {a w : World} (h : Fr S a w) {x : Addr} (hx : S x.block) (v : Value) : Fr S a (w.setCell x v) :=
  h.trans ⟨rfl, rfl, rfl, by simp, fun k _ hk => heap_setCell_ne w x v fun e => hk (e ▸ hx)⟩
theorem Fr.putMap {S : Nat → Prop} {a w : World} (h : Fr S a w) {b : Nat} (hb : S b) (o : Obj) : Fr S a (World.putMap w b o) :=
  h.trans ⟨rfl, rfl, rfl, by simp [World.putMap], fun k _ hk => heap_putMap_ne w b o fun e => hk (e ▸ hb)⟩
theorem Fr.drew {S : Nat → Prop} {a w : World} (h : Fr S a w) : Fr S a w.drew := ⟨h.os, h.tape, h.output, h.size, h.block⟩
theorem Fr.drewN {S : Nat → Prop} {a w : World} (h : Fr S a w) (n : Nat) : Fr S a (w.drewN n) := ⟨h.os, h.tape, h.output, h.size, h.block⟩
theorem Fr.alloc {S : Nat → Prop} {a w : World} (h : Fr S a w) (o : Obj) : Fr S a (w.alloc o) :=
  h.trans ⟨rfl, rfl, rfl, by simp, fun k hk _ => Below.heap_alloc w o k hk⟩
theorem Fr.below {S : Nat → Prop} {a w : World} (h : Fr S a w) {B : Nat} (hB : B ≤ a.heap.size) (hS : ∀ k, S k → B ≤ k) : Below B a w :=
  ⟨h.os, h.tape, h.output, h.size, fun k hk => h.block k (by omega) fun e => by have := hS k e; omega⟩
theorem Fr.of_below {S : Nat → Prop} {a w : World} (h : Below a.heap.size a w) : Fr S a w := ⟨h.os, h.tape, h.output, h.size, fun k hk _ => h.block k hk⟩
theorem Fr.of_grown {S : Nat → Prop} {a w : World} {r : Option Nat} (h : a.grownBy w r) (hr : ∀ k, r = some k → S k) : Fr S a w :=
  ⟨h.os, h.tape, h.output, h.size, fun k hk hs => h.block k hk fun e => hs (hr k e.symm)⟩
/-- An owned row outside lives on. -/
theorem Fr.owns {S : Nat → Prop} {a w : World} (h : Fr S a w) {base : Nat} {e : TypeId} {size n : Nat} {v : Value} {xs : List Value} (ho : a.ownsRow base e size v n xs) (hn : ∀ k, v.ownBlock = some k → ¬ S k) : w.ownsRow base e size v n xs := by
  obtain ⟨h1, h2⟩ := ho
  refine ⟨h1, ?_⟩
  rcases h2 with h2 | ⟨g, cap, cur, hv, hg, hh, r⟩
  · exact .inl h2
  · refine .inr ⟨g, cap, cur, hv, hg, ?_, r⟩
    rw [h.block g (Array.getElem?_eq_some_iff.1 hh).1 (hn g (by rw [hv]; rfl))]
    exact hh
theorem BlkAt.fr {S : Nat → Prop} {w w' : World} {b : Nat} {T : TypeId} {n : Nat} {f : Nat → Value} (h : BlkAt w b T n f) (hf : Fr S w w') (hb : ¬ S b) : BlkAt w' b T n f := h.of_heap (hf.block b h.lt hb)
theorem MapAt.fr {α : Type} {S : Nat → Prop} {w w' : World} {b : Nat} {vf : α → Value} {L : List (Ent α)} {clk : Nat} (h : MapAt w b vf L clk) (hf : Fr S w w') (hb : ¬ S b) : MapAt w' b vf L clk := h.of_heap (hf.block b h.blk_lt hb)

/-! ### The heap's memory -/
/-- Where a heap's struct, its four rows and its map lie. -/
structure HP where
  h : Nat
  wb : Nat
  kb : Nat
  cb : Nat
  ub : Nat
  mb : Nat
def HP.mine (p : HP) (k : Nat) : Prop := k = p.h ∨ k = p.wb ∨ k = p.kb ∨ k = p.cb ∨ k = p.ub ∨ k = p.mb
structure HP.Ok (p : HP) : Prop where
  h1 : p.h ≠ p.wb
  h2 : p.h ≠ p.kb
  h3 : p.h ≠ p.cb
  h4 : p.h ≠ p.ub
  h5 : p.h ≠ p.mb
  w1 : p.wb ≠ p.kb
  w2 : p.wb ≠ p.cb
  w3 : p.wb ≠ p.ub
  w4 : p.wb ≠ p.mb
  k1 : p.kb ≠ p.cb
  k2 : p.kb ≠ p.ub
  k3 : p.kb ≠ p.mb
  c1 : p.cb ≠ p.ub
  c2 : p.cb ≠ p.mb
  u1 : p.ub ≠ p.mb
def hcells (p : HP) (n : Nat) (cl : Int) : Nat → Value
  | 0 => .slice (some ⟨p.wb, 0, none⟩) (1 + 32 * n) (1 + 32 * n)
  | 1 => .slice (some ⟨p.kb, 0, none⟩) n n
  | 2 => .slice (some ⟨p.cb, 0, none⟩) n n
  | 3 => .slice (some ⟨p.ub, 0, none⟩) (1 + 32 * n) (1 + 32 * n)
  | 4 => .map (some p.mb)
  | _ => .int .i64 cl
structure Raw (w : World) (p : HP) (n : Nat) (wd kd cn : Nat → Int) (us : Nat → Bool) (L : List (Ent Int)) (clk : Nat) (cl : Int) : Prop where
  ok : p.Ok
  st : BlkAt w p.h 125 6 (hcells p n cl)
  wd : BlkAt w p.wb 33 (1 + 32 * n) (fun i => .int .u64 (wd i))
  kd : BlkAt w p.kb 3 n (fun i => .int .i64 (kd i))
  cn : BlkAt w p.cb 3 n (fun i => .int .i64 (cn i))
  us : BlkAt w p.ub 4 (1 + 32 * n) (fun i => .bool (us i))
  mp : MapAt w p.mb (Value.int .i64) L clk
section
variable {w : World} {p : HP} {n : Nat} {wd kd cn : Nat → Int} {us : Nat → Bool} {L : List (Ent Int)} {clk : Nat} {cl : Int}
theorem Raw.fr (h : Raw w p n wd kd cn us L clk cl) {S : Nat → Prop} {w' : World} (hf : Fr S w w') (hn : ∀ k, p.mine k → ¬ S k) : Raw w' p n wd kd cn us L clk cl :=
  ⟨h.ok, h.st.fr hf (hn _ (by simp [HP.mine])), h.wd.fr hf (hn _ (by simp [HP.mine])), h.kd.fr hf (hn _ (by simp [HP.mine])), h.cn.fr hf (hn _ (by simp [HP.mine])), h.us.fr hf (hn _ (by simp [HP.mine])), h.mp.fr hf (hn _ (by simp [HP.mine]))⟩
theorem Raw.drew (h : Raw w p n wd kd cn us L clk cl) : Raw w.drew p n wd kd cn us L clk cl := h.fr (S := fun _ => False) (Fr.refl _ w).drew (fun _ _ => id)
theorem Raw.drewN (h : Raw w p n wd kd cn us L clk cl) (m : Nat) : Raw (w.drewN m) p n wd kd cn us L clk cl := h.fr (S := fun _ => False) ((Fr.refl _ w).drewN m) (fun _ _ => id)
theorem Raw.setUsed (h : Raw w p n wd kd cn us L clk cl) (a : Nat) (x : Bool) : Raw (w.setCell ⟨p.ub, a, none⟩ (.bool x)) p n wd kd cn (upd us a x) L clk cl := by
  have o := h.ok
  refine ⟨o, h.st.store_ne o.h4 _, h.wd.store_ne o.w3 _, h.kd.store_ne o.k2 _, h.cn.store_ne o.c1 _, (h.us.store a (.bool x)).congr fun i _ => ?_, h.mp.of_heap (heap_setCell_ne _ _ _ o.u1.symm)⟩
  unfold upd; split <;> rfl
theorem Raw.setKind (h : Raw w p n wd kd cn us L clk cl) (a : Nat) (x : Int) : Raw (w.setCell ⟨p.kb, a, none⟩ (.int .i64 x)) p n wd (upd kd a x) cn us L clk cl := by
  have o := h.ok
  refine ⟨o, h.st.store_ne o.h2 _, h.wd.store_ne o.w1 _, (h.kd.store a (.int .i64 x)).congr fun i _ => ?_, h.cn.store_ne o.k1.symm _, h.us.store_ne o.k2.symm _, h.mp.of_heap (heap_setCell_ne _ _ _ o.k3.symm)⟩
  unfold upd; split <;> rfl
theorem Raw.setCnt (h : Raw w p n wd kd cn us L clk cl) (a : Nat) (x : Int) : Raw (w.setCell ⟨p.cb, a, none⟩ (.int .i64 x)) p n wd kd (upd cn a x) us L clk cl := by
  have o := h.ok
  refine ⟨o, h.st.store_ne o.h3 _, h.wd.store_ne o.w2 _, h.kd.store_ne o.k1 _, (h.cn.store a (.int .i64 x)).congr fun i _ => ?_, h.us.store_ne o.c1.symm _, h.mp.of_heap (heap_setCell_ne _ _ _ o.c2.symm)⟩
  unfold upd; split <;> rfl
theorem Raw.setWord (h : Raw w p n wd kd cn us L clk cl) (a : Nat) (x : Int) : Raw (w.setCell ⟨p.wb, a, none⟩ (.int .u64 x)) p n (upd wd a x) kd cn us L clk cl := by
  have o := h.ok
  refine ⟨o, h.st.store_ne o.h1 _, (h.wd.store a (.int .u64 x)).congr fun i _ => ?_, h.kd.store_ne o.w1.symm _, h.cn.store_ne o.w2.symm _, h.us.store_ne o.w3.symm _, h.mp.of_heap (heap_setCell_ne _ _ _ o.w4.symm)⟩
  unfold upd; split <;> rfl
theorem Raw.setClear (h : Raw w p n wd kd cn us L clk cl) (x : Int) : Raw (w.setCell ⟨p.h, 5, none⟩ (.int .i64 x)) p n wd kd cn us L clk x := by
  have o := h.ok
  refine ⟨o, (h.st.store 5 (.int .i64 x)).congr fun i hi => ?_, h.wd.store_ne o.h1.symm _, h.kd.store_ne o.h2.symm _, h.cn.store_ne o.h3.symm _, h.us.store_ne o.h4.symm _, h.mp.of_heap (heap_setCell_ne _ _ _ o.h5.symm)⟩
  unfold upd
  match i, hi with
  | 0, _ => rfl
  | 1, _ => rfl
  | 2, _ => rfl
  | 3, _ => rfl
  | 4, _ => rfl
  | 5, _ => rfl
theorem Raw.putMap (h : Raw w p n wd kd cn us L clk cl) (k v : Int) : Raw (World.putMap w p.mb (.map ((put clk k v L).map (entOf (Value.int .i64))).toArray (clkOf L clk k))) p n wd kd cn us (put clk k v L) (clkOf L clk k) cl := by
  have o := h.ok
  exact ⟨o, h.st.putMap o.h5 _, h.wd.putMap o.w4 _, h.kd.putMap o.k3 _, h.cn.putMap o.c2 _, h.us.putMap o.u1 _, h.mp.put k v⟩
end

/-- A heap at a place: its blocks read as the plain model says. -/
def HeapAt (w : World) (p : HP) (s : HS) : Prop :=
  ∃ L clk cl, Raw w p s.n s.word s.kind (fun b => (s.cnt b : Int)) s.used L clk cl ∧ s.WF ∧ s.HintF (fun c => (lk L c).getD 0) ∧ s.HintC cl ∧ 1 ≤ s.n ∧ s.n ≤ 2048
theorem HeapAt.fr {w w' : World} {p : HP} {s : HS} (h : HeapAt w p s) {S : Nat → Prop} (hf : Fr S w w') (hn : ∀ k, p.mine k → ¬ S k) : HeapAt w' p s := by
  obtain ⟨L, clk, cl, h1, h2⟩ := h
  exact ⟨L, clk, cl, h1.fr hf hn, h2⟩
end Go.Proofs.Ytjfpijoeddjgmaa
