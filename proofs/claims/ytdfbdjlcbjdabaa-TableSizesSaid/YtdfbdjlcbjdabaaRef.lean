/- The reference's sorts: only, Right, Fits: what they answer. No condition. -/
import Derived.Test.YtdfbdjlcbjdabaaTab
namespace Go.Proofs.Ytdfbdjlcbjdabaa
open Go.RowKit
set_option linter.unusedVariables false
/-- A sort's numbers, by their places. -/
def Inf.at (i : Inf) : Nat → Int
  | 0 => i.kind
  | 1 => i.ptrs
  | 2 => i.nons
  | 3 => i.ar
  | 4 => i.tag
  | 5 => i.code
  | 6 => i.of
  | _ => i.pick
def Inf.obj (i : Inf) : Obj := .cells #[.int .i64 i.kind, .int .i64 i.ptrs, .int .i64 i.nons, .int .i64 i.ar, .int .i64 i.tag, .int .i64 i.code, .int .i64 i.of, .int .i64 i.pick] 35
theorem obj_at (i : Inf) (w : World) {j : Nat} (hj : j < 8) : (w.alloc i.obj).cell? ⟨w.heap.size, j, none⟩ = some (.int .i64 (i.at j)) := by
  unfold Inf.obj
  match j, hj with
  | 0, _ => simp [World.cell?_alloc_new, Inf.at]
  | 1, _ => simp [World.cell?_alloc_new, Inf.at]
  | 2, _ => simp [World.cell?_alloc_new, Inf.at]
  | 3, _ => simp [World.cell?_alloc_new, Inf.at]
  | 4, _ => simp [World.cell?_alloc_new, Inf.at]
  | 5, _ => simp [World.cell?_alloc_new, Inf.at]
  | 6, _ => simp [World.cell?_alloc_new, Inf.at]
  | 7, _ => simp [World.cell?_alloc_new, Inf.at]
/-- Are all but the kind and some 0? -/
def Inf.ok1 (i : Inf) (l : List Int) (j : Nat) : Bool := decide (i.at j = 0) || decide ((j : Int) ∈ l)
def Inf.only (i : Inf) (l : List Int) : Bool := (List.range 7).all fun j => i.ok1 l (j + 1)
theorem only_iff (i : Inf) (l : List Int) : i.only l = true ↔ ∀ j, j < 7 → i.ok1 l (j + 1) = true := by
  unfold Inf.only; simp
/-- Some places, in a slice. -/
def Places (w : World) (v : Value) (l : List Int) : Prop := ∃ ao cap, v = .slice ao l.length cap ∧ (l.length = 0 ∨ ∃ g, ao = some ⟨g, 0, none⟩ ∧ g < w.heap.size ∧ ∀ k, k < l.length → w.cell? ⟨g, k, none⟩ = some (.int .i64 (l.getD k 0)))
theorem mem_take {l : List Int} {k : Nat} (hk : k < l.length) (x : Int) : x ∈ l.take (k + 1) ↔ x ∈ l.take k ∨ x = l.getD k 0 := by
  rw [List.take_add_one, List.mem_append, List.getElem?_eq_getElem hk, List.getD_eq_getElem?_getD, List.getElem?_eq_getElem hk]
  simp
set_option maxRecDepth 100000 in
set_option maxHeartbeats 4000000 in
theorem only_any (i : Inf) (v : Value) (l : List Int) (w : World) (hv : Places w v l) (hl8 : l.length ≤ 8) : Calls Try.prog 16 #[i.arr, v] w fun e w' => e = .returned (.bool (i.only l)) ∧ Below w.heap.size w w' := by
  obtain ⟨ao, cap, rfl, hcells⟩ := hv
  have HOB := Lib.hid (fun (j : Nat) (hj : j < 8) => obj_at i w hj)
  have HC : Hid (∀ k, k < l.length → ∃ g, ao = some ⟨g, 0, none⟩ ∧ (w.alloc i.obj).cell? ⟨g, k, none⟩ = some (.int .i64 (l.getD k 0))) := by
    intro k hk
    rcases hcells with h | ⟨g, h1, h2, h3⟩
    · omega
    · refine ⟨g, h1, ?_⟩
      rw [World.cell?_alloc_old _ _ _ (by exact Nat.ne_of_lt h2)]
      exact h3 k hk
  obtain ⟨n, hn⟩ : ∃ n, n = l.length := ⟨_, rfl⟩
  rw [← hn] at hl8 ⊢
  have HN := Lib.hid hn
  have HBW : Hid (Below w.heap.size w (w.alloc i.obj)) := (Below.refl _ w).alloc (Nat.le_refl _) _
  obtain ⟨R, hR⟩ : ∃ R, R = i.only l := ⟨_, rfl⟩
  rw [← hR]
  have HR : Hid (R = true ↔ ∀ j, j < 7 → i.ok1 l (j + 1) = true) := by show _ ↔ _; rw [hR]; exact only_iff i l
  have HOK : Hid (∀ j, i.ok1 l j = true ↔ i.at j = 0 ∨ (j : Int) ∈ l) := fun j => by unfold Inf.ok1; simp
  unfold Inf.obj at HOB HC HBW
  unfold Inf.arr
  clear hcells hn hR
  go_enter Try.func16, Try.ntmps16
  go_wp2
  go_loop [5] (fun v5 => ∃ j : Nat, j ≤ 8 ∧ 1 ≤ j ∧ v5 = .int .i64 j ∧ Hid (∀ j', j' + 1 < j → i.ok1 l (j' + 1) = true)) (fun v5 => 8 - (intOf v5).toNat)
  case atStart => exact ⟨1, by omega, by omega, rfl, fun j' hj' => by omega⟩
  case round =>
    obtain ⟨j, hj8, hj1, rfl, hlow⟩ := hrel
    by_cases hj : j < 8
    · have hcell := HOB.out j hj
      obtain ⟨A, hA⟩ : ∃ A, A = i.at j := ⟨_, rfl⟩
      rw [← hA] at hcell
      have HA := Lib.hid hA
      have hj01 : (0 : Int) ≤ (j : Int) ∧ (j : Int) < 8 := by omega
      clear hA
      obtain ⟨b0, hb0⟩ : ∃ b0 : Bool, (A == 0) = b0 := ⟨_, rfl⟩
      have HB0 := Lib.hid hb0
      go_wp2
      clear hcell hb0
      go_loop [6, 7] (fun v6 v7 => ∃ (b : Bool) (k : Nat), k ≤ n ∧ v6 = .bool b ∧ v7 = .int .i64 k ∧ Hid (b = true ↔ A = 0 ∨ (j : Int) ∈ l.take k)) (fun _ v7 => n - (intOf v7).toNat)
      case atStart =>
        refine ⟨b0, 0, by omega, rfl, rfl, ?_⟩
        show _ ↔ _
        rw [← HB0.out]; simp
      case round =>
        obtain ⟨b, k, hkn, rfl, rfl, hb⟩ := hrel
        by_cases hk : k < n
        · obtain ⟨g, rfl, hc⟩ := HC.out k (by rw [← HN.out]; exact hk)
          obtain ⟨X, hX⟩ : ∃ X, X = l.getD k 0 := ⟨_, rfl⟩
          rw [← hX] at hc
          have HX := Lib.hid hX
          have HM : Hid ((j : Int) ∈ l.take (k + 1) ↔ (j : Int) ∈ l.take k ∨ (j : Int) = X) := by
            show _ ↔ _
            rw [HX.out]; exact mem_take (by rw [← HN.out]; exact hk) _
          clear hX
          by_cases hxj : X = (j : Int)
          · have hxj' : (X == (j : Int)) = true := by simpa using hxj
            clear hxj
            go_wp2
            go_round
            case rel =>
              refine ⟨true, k + 1, by omega, rfl, by go_num, ?_⟩
              show _ ↔ _
              rw [HM.out]
              have : X = (j : Int) := by simpa using hxj'
              simp [this]
            case measure => simp [intOf]; omega
          · have hxj' : (X == (j : Int)) = false := by simpa using hxj
            clear hxj
            go_wp2
            go_round
            case rel =>
              refine ⟨b, k + 1, by omega, rfl, by go_num, ?_⟩
              show _ ↔ _
              rw [HM.out, show (b = true ↔ A = 0 ∨ (j : Int) ∈ l.take k) from hb.out]
              have : ¬ (j : Int) = X := fun e => by rw [e] at hxj'; simp at hxj'
              simp [this]
            case measure => simp [intOf]; omega
        · have hkn2 : k = n := by omega
          have HFIN : Hid (b = i.ok1 l j) := by
            show _ = _
            rw [Bool.eq_iff_iff, HOK.out, ← HA.out, show (b = true ↔ A = 0 ∨ (j : Int) ∈ l.take k) from hb.out, hkn2, HN.out, List.take_length]
          clear hb
          cases b with
          | true =>
            go_wp2
            go_round
            case rel =>
              refine ⟨j + 1, by omega, by omega, by go_num, fun j' hj' => ?_⟩
              by_cases e : j' + 1 = j
              · rw [e]; exact HFIN.out.symm
              · exact hlow.out j' (by omega)
            case measure => simp [intOf]; omega
          | false =>
            go_wp2
            go_ret
            refine ⟨?_, HBW.out⟩
            cases R with
            | false => rfl
            | true =>
              have := HR.out.1 rfl (j - 1) (by omega)
              rw [show j - 1 + 1 = j by omega, ← HFIN.out] at this
              cases this
    · have hj8' : j = 8 := by omega
      subst hj8'
      go_wp2
      go_ret
      refine ⟨?_, HBW.out⟩
      cases R with
      | true => rfl
      | false =>
        have := HR.out.2 fun j' hj' => hlow.out j' (by omega)
        cases this

theorem Places.lit (w : World) (cs : Array Value) (l : List Int) (h : cs.toList = l.map (Value.int .i64)) : Places (w.alloc (.cells cs 3)) (.slice (some ⟨w.heap.size, 0, none⟩) l.length l.length) l := by
  refine ⟨_, _, rfl, .inr ⟨_, rfl, by simp, fun k hk => ?_⟩⟩
  rw [World.cell?_alloc_new]
  have h2 : cs[k]? = some (.int .i64 (l.getD k 0)) := by
    rw [← Array.getElem?_toList, h, List.getElem?_map, List.getElem?_eq_getElem hk, List.getD_eq_getElem?_getD, List.getElem?_eq_getElem hk]; rfl
  simp [h2]
theorem Places.lit' {w : World} {cs : Array Value} {l : List Int} {b n : Nat} (hb : w.heap.size = b) (hn : l.length = n) (h : cs.toList = l.map (Value.int .i64)) : Places (w.alloc (.cells cs 3)) (.slice (some ⟨b, 0, none⟩) n n) l := by
  subst hb hn; exact Places.lit w cs l h
theorem Places.none (w : World) : Places w (.slice none 0 0) [] := ⟨_, _, rfl, .inl rfl⟩
end Go.Proofs.Ytdfbdjlcbjdabaa
