/- A law's slice of nodes, read. No condition. -/
import Derived.Test.YtjfpijoeddjgmaaArgs
import Derived.Deep.Slices
namespace Go.Proofs.Ytjfpijoeddjgmaa
open Go.ChangeShapes Go.WideShapes Go.ChangeAt Go.RowKit
set_option linter.unusedVariables false
/-- A node: its sort, its number, its pointers, raw. -/
structure Nd where
  sort : Int
  num : Int
  l0 : Int
  l1 : Int
  l2 : Int
structure Nd.Ok (x : Nd) : Prop where
  s : 0 ≤ x.sort ∧ x.sort ≤ 255
  n : 0 ≤ x.num ∧ x.num < 18446744073709551616
  a : 0 ≤ x.l0 ∧ x.l0 ≤ 255
  b : 0 ≤ x.l1 ∧ x.l1 ≤ 255
  c : 0 ≤ x.l2 ∧ x.l2 ≤ 255
def Nd.cell (x : Nd) : Nat → Value
  | 0 => .int .u8 x.sort
  | 1 => .int .u64 x.num
  | 2 => .int .u8 x.l0
  | 3 => .int .u8 x.l1
  | _ => .int .u8 x.l2
def ndz : Nd := ⟨0, 0, 0, 0, 0⟩
instance : Inhabited Nd := ⟨ndz⟩
def NodesAt (w : World) (v : Value) (nds : List Nd) : Prop :=
  ∃ ao cap, v = .slice ao nds.length cap ∧ (nds.length = 0 ∨ ∃ b off, ao = some ⟨b, off, none⟩ ∧ b < w.heap.size ∧ ∀ i, i < nds.length → ∀ c, c < 5 → w.cell? ⟨b, off + i * 5 + c, none⟩ = some ((nds.getD i ndz).cell c)) ∧ ∀ x ∈ nds, x.Ok
theorem u64_wf' {z : Int} (h : (Lit.int .u64 z).wf = true) : 0 ≤ z ∧ z < 18446744073709551616 := by
  simp [Lit.wf, IntKind.min, IntKind.max] at h
  have h1 : 0 ≤ z := of_decide_eq_true h.1
  have h2 : z ≤ 18446744073709551615 := of_decide_eq_true h.2
  omega
theorem u8_wf' {z : Int} (h : (Lit.int .u8 z).wf = true) : 0 ≤ z ∧ z ≤ 255 := by
  simp [Lit.wf, IntKind.min, IntKind.max] at h
  exact ⟨of_decide_eq_true h.1, of_decide_eq_true h.2⟩
section
variable {H : Type} {enc : TypeId × Value → H} {W : World}
set_option maxRecDepth 100000 in
/-- One node. -/
theorem open_node {t : TypeId} (ht : Try.prog.underlying t = Try.prog.underlying 64) (hc : Try.prog.cellsOf t = 5) {fuel : Nat} {cs : List Value} {x : DataW H × List MemPlace} (h : DataW.trod enc Try.prog W 0 (fun _ => true) true fuel t cs = some x) :
    ∃ nd : Nd, nd.Ok ∧ cs = [nd.cell 0, nd.cell 1, nd.cell 2, nd.cell 3, nd.cell 4] := by
  rw [Try.underlying64] at ht
  obtain ⟨xs, n, rfl, rfl, hl, hxs, hf⟩ := DataW.trod_struct ht h
  rw [hc] at hl
  match cs, hl with
  | [c0, c1, c2, c3, c4], _ =>
    have hxl : xs.length = 3 := hxs
    have f0 := hf 0 _ rfl
    have f1 := hf 1 _ rfl
    have f2 := hf 2 _ rfl
    match xs, hxl with
    | [y0, y1, y2], _ =>
      have c5 : Try.prog.cellsOf 5 = 1 := by kernel_rfl
      have c33 : Try.prog.cellsOf 33 = 1 := by kernel_rfl
      have c63 : Try.prog.cellsOf 63 = 3 := by kernel_rfl
      have g0 : DataW.trod enc Try.prog W 0 (fun _ => true) true n 5 [c0] = some y0 := by
        have : DataW.trod enc Try.prog W 0 (fun _ => true) true n 5 (([c0, c1, c2, c3, c4].drop 0).take (Try.prog.cellsOf 5)) = some y0 := f0
        rwa [c5] at this
      have g1 : DataW.trod enc Try.prog W 0 (fun _ => true) true n 33 [c1] = some y1 := by
        have : DataW.trod enc Try.prog W 0 (fun _ => true) true n 33 (([c0, c1, c2, c3, c4].drop 1).take (Try.prog.cellsOf 33)) = some y1 := f1
        rwa [c33] at this
      have g2 : DataW.trod enc Try.prog W 0 (fun _ => true) true n 63 [c2, c3, c4] = some y2 := by
        have : DataW.trod enc Try.prog W 0 (fun _ => true) true n 63 (([c0, c1, c2, c3, c4].drop 2).take (Try.prog.cellsOf 63)) = some y2 := f2
        rwa [c63] at this
      obtain ⟨z0, e0, _, w0⟩ := DataW.trod_int Try.underlying5 g0
      obtain ⟨z1, e1, _, w1⟩ := DataW.trod_int Try.underlying33 g1
      obtain ⟨zs, k, rfl, _, _, hzl, ha⟩ := DataW.trod_array Try.underlying63 g2
      have hget : ∀ i, i < 3 → ∃ z, ([c2, c3, c4].drop (i * 1)).take 1 = [.int .u8 z] ∧ (Lit.int .u8 z).wf = true := fun i hi => by
        have h1 := ha i hi
        rw [c5, List.getElem?_eq_getElem (by omega)] at h1
        obtain ⟨z, e, _, hw⟩ := DataW.trod_int Try.underlying5 h1
        exact ⟨z, e, hw⟩
      obtain ⟨a2, e2, w2⟩ := hget 0 (by omega)
      obtain ⟨a3, e3, w3⟩ := hget 1 (by omega)
      obtain ⟨a4, e4, w4⟩ := hget 2 (by omega)
      simp at e0 e1 e2 e3 e4
      subst e0 e1 e2 e3 e4
      exact ⟨⟨z0, z1, a2, a3, a4⟩, ⟨u8_wf' w0, u64_wf' w1, u8_wf' w2, u8_wf' w3, u8_wf' w4⟩, rfl⟩
set_option maxRecDepth 100000 in
theorem open_nodesT {T t : TypeId} (hT : Try.prog.underlying T = some (.slice t)) (ht : Try.prog.underlying t = Try.prog.underlying 64) (hc : Try.prog.cellsOf t = 5) {v : Value} {d : DataW H} {p : List MemPlace} {base : Nat}
    (hval : Value.okWide Try.prog W .any base T v) (h : DataW.Trod enc Try.prog W 0 (fun _ => true) true T v d p) : ∃ nds, NodesAt W v nds := by
  obtain ⟨a1, len, cap, rfl⟩ := okWide_slice hT hval
  obtain ⟨fuel, hf⟩ := h
  rcases Deep.open_slice hT hf with ⟨hcs, hx⟩ | ⟨a, len', cap', m, n, D, Pl, hcs, _, hl, hm, hmm, hx, hel⟩
  · simp [Value.cells] at hcs
    obtain ⟨rfl, rfl, rfl⟩ := hcs
    exact ⟨[], _, _, rfl, .inl rfl, fun z hz => by cases hz⟩
  · simp [Value.cells] at hcs
    obtain ⟨rfl, rfl, rfl⟩ := hcs
    simp only [if_true] at hmm
    have hnode : ∀ i, i < len → ∃ nd : Nd, nd.Ok ∧ ∀ c, c < 5 → W.cell? (a.add (i * 5 + c)) = some (nd.cell c) := fun i hi => by
      obtain ⟨cs', h1, h2⟩ := hel i (by omega)
      rw [hc] at h1
      obtain ⟨nd, hok, rfl⟩ := open_node ht hc h2
      obtain ⟨_, _, h3⟩ := World.cells?_some h1
      refine ⟨nd, hok, fun c hc5 => ?_⟩
      have h4 := h3 c hc5
      rw [Deep.add_add] at h4
      rw [h4]
      match c, hc5 with
      | 0, _ => rfl
      | 1, _ => rfl
      | 2, _ => rfl
      | 3, _ => rfl
      | 4, _ => rfl
    obtain ⟨N, hN⟩ := Deep.choose_lt (α := Nd) (p := fun i nd => nd.Ok ∧ ∀ c, c < 5 → W.cell? (a.add (i * 5 + c)) = some (nd.cell c)) hnode
    refine ⟨(List.range len).map N, some a, cap, by simp, ?_, fun x hx => ?_⟩
    · by_cases h0 : len = 0
      · exact .inl (by simp [h0])
      · right
        obtain ⟨b, off, spot⟩ := a
        have hspot : spot = none := by simpa [Addr.add] using World.cell?_spot ((hN 0 (by omega)).2 0 (by omega))
        subst hspot
        have hb : b < W.heap.size := World.block_lt_of_cell? W _ ((hN 0 (by omega)).2 0 (by omega))
        refine ⟨b, off, rfl, hb, fun i hi c hc5 => ?_⟩
        simp only [List.length_map, List.length_range] at hi
        have := (hN i hi).2 c hc5
        rw [add_plain] at this
        rw [Nat.add_assoc, this, List.getD_eq_getElem?_getD, List.getElem?_map, List.getElem?_range hi]
        rfl
    · obtain ⟨i, hi, rfl⟩ := List.mem_map.1 hx
      exact (hN i (List.mem_range.1 hi)).1
set_option maxRecDepth 100000 in
theorem open_nodes20 {v : Value} {d : DataW H} {p : List MemPlace} {base : Nat} (hval : Value.okWide Try.prog W .any base 40 v) (h : DataW.Trod enc Try.prog W 0 (fun _ => true) true 40 v d p) : ∃ nds, NodesAt W v nds :=
  open_nodesT Try.underlying40 (by rw [Try.underlying65, Try.underlying64]) (by kernel_rfl) hval h
set_option maxRecDepth 100000 in
theorem open_nodes19 {v : Value} {d : DataW H} {p : List MemPlace} {base : Nat} (hval : Value.okWide Try.prog W .any base 101 v) (h : DataW.Trod enc Try.prog W 0 (fun _ => true) true 101 v d p) : ∃ nds, NodesAt W v nds :=
  open_nodesT Try.underlying101 (by rw [Try.underlying100, Try.underlying64]) (by kernel_rfl) hval h
end
end Go.Proofs.Ytjfpijoeddjgmaa
