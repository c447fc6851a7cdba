/- A law's sort, read. No condition. -/
import Derived.Test.YtdfbdjlcbjdabaaChecked
import Derived.WalkKit
import Derived.ProofKit
import Derived.OpenShut
import Derived.SizedLaws
namespace Go.Proofs.Ytdfbdjlcbjdabaa
open Go.ChangeShapes Go.WideShapes Go.ChangeAt Go.RowKit
set_option linter.unusedVariables false
theorem laid : laidOutB Try.prog = true := by kernel_rfl
set_option maxRecDepth 100000 in
theorem open_info {H : Type} {enc : TypeId × Value → H} {W : World} {v : Value} {d : DataW H} {pl : List MemPlace} {base : Nat}
    (hval : Value.okWide Try.prog W .any base 31 v) (h : DataW.Trod enc Try.prog W 0 (fun _ => true) true 31 v d pl) :
    ∃ (k p n a t c o pk : Int) (nm : ByteArray), v = .agg #[.int .i64 k, .int .i64 p, .int .i64 n, .int .i64 a, .int .i64 t, .int .i64 c, .int .i64 o, .int .i64 pk, .string nm] := by
  have hu : Try.prog.underlying 31 = Try.prog.underlying 30 := by rw [Try.underlying31, Try.underlying30]
  obtain ⟨cs, rfl, hsz⟩ := okWide_struct Try.underlying31 hval
  have c31 : Try.prog.cellsOf 31 = 9 := by kernel_rfl
  have c3 : Try.prog.cellsOf 3 = 1 := by kernel_rfl
  have c9 : Try.prog.cellsOf 9 = 1 := by kernel_rfl
  obtain ⟨fuel, hf⟩ := h
  obtain ⟨xs, n, e1, e2, hl, hxs, hfd⟩ := DataW.trod_struct Try.underlying31 hf
  rw [c31] at hl hsz
  have hcl : (Value.agg cs).cells.toList = cs.toList := by simp [Value.cells]
  obtain ⟨l⟩ := cs
  simp only [Value.cells] at *
  match l, hsz with
  | [v0, v1, v2, v3, v4, v5, v6, v7, v8], _ =>
    have hx : xs.length = 9 := hxs
    have hint : ∀ (j : Nat) (v : Value), j < 8 → [v0, v1, v2, v3, v4, v5, v6, v7, v8][j]? = some v → ∃ z, v = .int .i64 z := fun j v hj hv => by
      have hj9 : j < xs.length := by omega
      have key : DataW.trod enc Try.prog W 0 (fun _ => true) true n 3 [v] = some xs[j] := by
        rw [← List.getElem?_eq_getElem hj9]
        match j, hj, hv with
        | 0, _, hv => cases hv; exact (by rw [← c3]; exact hfd 0 _ rfl : DataW.trod enc Try.prog W 0 (fun _ => true) true n 3 (List.take 1 (List.drop 0 [v0, v1, v2, v3, v4, v5, v6, v7, v8])) = xs[0]?)
        | 1, _, hv => cases hv; exact (by rw [← c3]; exact hfd 1 _ rfl : DataW.trod enc Try.prog W 0 (fun _ => true) true n 3 (List.take 1 (List.drop 1 [v0, v1, v2, v3, v4, v5, v6, v7, v8])) = xs[1]?)
        | 2, _, hv => cases hv; exact (by rw [← c3]; exact hfd 2 _ rfl : DataW.trod enc Try.prog W 0 (fun _ => true) true n 3 (List.take 1 (List.drop 2 [v0, v1, v2, v3, v4, v5, v6, v7, v8])) = xs[2]?)
        | 3, _, hv => cases hv; exact (by rw [← c3]; exact hfd 3 _ rfl : DataW.trod enc Try.prog W 0 (fun _ => true) true n 3 (List.take 1 (List.drop 3 [v0, v1, v2, v3, v4, v5, v6, v7, v8])) = xs[3]?)
        | 4, _, hv => cases hv; exact (by rw [← c3]; exact hfd 4 _ rfl : DataW.trod enc Try.prog W 0 (fun _ => true) true n 3 (List.take 1 (List.drop 4 [v0, v1, v2, v3, v4, v5, v6, v7, v8])) = xs[4]?)
        | 5, _, hv => cases hv; exact (by rw [← c3]; exact hfd 5 _ rfl : DataW.trod enc Try.prog W 0 (fun _ => true) true n 3 (List.take 1 (List.drop 5 [v0, v1, v2, v3, v4, v5, v6, v7, v8])) = xs[5]?)
        | 6, _, hv => cases hv; exact (by rw [← c3]; exact hfd 6 _ rfl : DataW.trod enc Try.prog W 0 (fun _ => true) true n 3 (List.take 1 (List.drop 6 [v0, v1, v2, v3, v4, v5, v6, v7, v8])) = xs[6]?)
        | 7, _, hv => cases hv; exact (by rw [← c3]; exact hfd 7 _ rfl : DataW.trod enc Try.prog W 0 (fun _ => true) true n 3 (List.take 1 (List.drop 7 [v0, v1, v2, v3, v4, v5, v6, v7, v8])) = xs[7]?)
      obtain ⟨z, e, _⟩ := DataW.trod_int Try.underlying3 key
      simp at e
      exact ⟨z, e⟩
    have key8 : DataW.trod enc Try.prog W 0 (fun _ => true) true n 9 [v8] = some (xs[8]'(by omega)) := by
      rw [← List.getElem?_eq_getElem]
      exact (by rw [← c9]; exact hfd 8 _ rfl : DataW.trod enc Try.prog W 0 (fun _ => true) true n 9 (List.take 1 (List.drop 8 [v0, v1, v2, v3, v4, v5, v6, v7, v8])) = xs[8]?)
    obtain ⟨z0, rfl⟩ := hint 0 v0 (by omega) rfl
    obtain ⟨z1, rfl⟩ := hint 1 v1 (by omega) rfl
    obtain ⟨z2, rfl⟩ := hint 2 v2 (by omega) rfl
    obtain ⟨z3, rfl⟩ := hint 3 v3 (by omega) rfl
    obtain ⟨z4, rfl⟩ := hint 4 v4 (by omega) rfl
    obtain ⟨z5, rfl⟩ := hint 5 v5 (by omega) rfl
    obtain ⟨z6, rfl⟩ := hint 6 v6 (by omega) rfl
    obtain ⟨z7, rfl⟩ := hint 7 v7 (by omega) rfl
    obtain ⟨nm, e, _⟩ := DataW.trod_string Try.underlying9 key8
    simp at e
    exact ⟨z0, z1, z2, z3, z4, z5, z6, z7, nm, by rw [e]⟩
end Go.Proofs.Ytdfbdjlcbjdabaa
