/- Law 17, ObjectTurns, its plain part: what the heap holds. No condition. -/
import Derived.Test.YtjfpijoeddjgmaaPtrs
namespace Go.Proofs.Ytjfpijoeddjgmaa
open Go.RowKit Hm
set_option linter.unusedVariables false

theorem sort_of {k n : Int} (hk : 0 ≤ k ∧ k < 4294967296) : wordSort (headOf k n) = k := by unfold wordSort headOf; omega
theorem size_of {k n : Int} (hk : 0 ≤ k ∧ k < 4294967296) : wordSize (headOf k n) = n := by unfold wordSize headOf; omega
/-- A closure whose head stands. -/
theorem look_of {srt : List Inf} {s : HS} {a k n : Nat} (hk : k < srt.length) (hl : srt.length ≤ 100) (hf : (srt.getD k noInf).fits n = true) (h1 : 1 ≤ n) (h60 : n ≤ 60) (hw : s.word a = headOf k n) (hc : 1 + n ≤ s.cap a) : lookM srt s (a : Int) = ((k : Int), (n : Int), 0) := by
  unfold lookM
  have hh : HS.has s (a : Int) 0 := by unfold HS.has; rw [Int.toNat_natCast]; omega
  have hs : wordSort (headOf k n) = k := sort_of (by omega)
  have hz : wordSize (headOf k n) = n := size_of (by omega)
  rw [if_pos hh, Int.toNat_natCast, hw]
  have hi : headIn srt (headOf k n) (s.cap a) = true := by
    unfold headIn headOk
    rw [hs, hz, Int.toNat_natCast, hf]
    simp
    omega
  rw [if_pos hi, hs, hz]
theorem count_of {srt : List Inf} {s : HS} {a : Int} {k n : Nat} (h : lookM srt s a = ((k : Int), (n : Int), 0)) : countM srt s a = ((srt.getD k noInf).pointers n, (srt.getD k noInf).nons, 0) := by
  unfold countM; rw [h, if_pos rfl, Int.toNat_natCast]
theorem wr_of {s : HS} {a i : Nat} {v : Int} (h : i < s.cap a) : wrM s (a : Int) (i : Int) v = (0, s.write a i v) := by
  unfold wrM
  rw [if_pos (by unfold HS.has; rw [Int.toNat_natCast]; omega), Int.toNat_natCast, Int.toNat_natCast]
theorem rd_of {s : HS} {a i : Nat} (h : i < s.cap a) : rdM s (a : Int) (i : Int) = s.word (a + i) := by
  unfold rdM
  rw [if_pos (by unfold HS.has; rw [Int.toNat_natCast]; omega), Int.toNat_natCast, Int.toNat_natCast]
theorem write_cap (s : HS) (a i : Nat) (v : Int) (x : Nat) : (s.write a i v).cap x = s.cap x := rfl

namespace Turn
def a0 : HS := { n := 128, kind := upd (fun _ => 0) 0 4, used := upd (fun _ => false) 1 true, word := upd (fun _ => 0) 1 (headOf 2 3) }
def a1 : HS := { n := 128, kind := upd (fun _ => 0) 0 4, used := upd (upd (fun _ => false) 1 true) 5 true, word := upd (upd (fun _ => 0) 1 (headOf 2 3)) 5 (headOf 1 2) }
def a2 : HS := a1.write 1 1 5
def a3 : HS := a2.write 1 2 5
def a4 : HS := a3.write 1 3 6
set_option maxRecDepth 100000 in
theorem e0 : newM sorts17 (HS.empty 128) 2 3 = (1, 0, a0) := by kernel_rfl
set_option maxRecDepth 100000 in
theorem e1 : newM sorts17 a0 1 2 = (5, 0, a1) := by kernel_rfl
set_option maxRecDepth 100000 in
theorem e2 : pointM sorts17 a1 1 0 5 = (0, a2) := by kernel_rfl
set_option maxRecDepth 100000 in
theorem e3 : pointM sorts17 a2 1 1 5 = (0, a3) := by kernel_rfl
set_option maxRecDepth 100000 in
theorem e4 : pointM sorts17 a3 1 2 6 = (0, a4) := by kernel_rfl
theorem w4 : a4.WF := by
  have h0 : a0.WF := ((HS.empty_wf 128).alloc 4).write (a := 1) (i := 0) (v := headOf 2 3) (by decide) (by decide)
  have h1 : a1.WF := (h0.alloc 3).write (a := 5) (i := 0) (v := headOf 1 2) (by decide) (by decide)
  exact ((h1.write (a := 1) (i := 1) (v := 5) (by decide) (by decide)).write (a := 1) (i := 2) (v := 5) (by decide) (by decide)).write (a := 1) (i := 3) (v := 6) (by decide) (by decide)

/-- The heap behind i closures more. -/
def st (zs : List Int) : Nat → HS
  | 0 => a4
  | i + 1 => (setM sorts17 (newM sorts17 (st zs i) 0 1).2.2 (newM sorts17 (st zs i) 0 1).1 (zs.getD i 0)).2

structure I (zs : List Int) (i : Nat) (s : HS) : Prop where
  wf : s.WF
  n : s.n = 128
  free : ∀ b, i + 1 ≤ b → s.kind b = 0
  k0 : s.kind 0 = 4
  used : ∀ y, y < 33 → s.used y = a4.used y
  word : ∀ y, y < 33 → s.word y = a4.word y
  cnt : (cellsTo s.used (1 + 32 * 128)).length = i + 2

theorem cells_up {u : Nat → Bool} {a m : Nat} (h : u a = false) (hm : a < m) : (cellsTo (upd u a true) m).length = (cellsTo u m).length + 1 := by
  have h1 := countP_turn u (upd u a true) a h (upd_same _ _ _) (fun j hj => (upd_other _ _ hj).symm) m
  rw [if_pos hm] at h1
  unfold cellsTo
  rw [List.length_map, List.length_map, ← List.countP_eq_length_filter, ← List.countP_eq_length_filter, h1]

theorem new2 {zs : List Int} {i : Nat} {s : HS} (h : I zs i s) (hi : i < 100) : ∃ (a : Nat) (t : HS), s.alloc 2 = (a, 0, t) ∧ t.WF ∧ 33 ≤ a ∧ t.cap a = 2 ∧ t.n = 128 ∧ (∀ b, i + 2 ≤ b → t.kind b = 0) ∧ t.kind 0 = 4 ∧ s.used a = false ∧ t.used = upd s.used a true ∧ t.word = s.word := by
  have hcls : cls (2 : Int).toNat = 2 := rfl
  have hwf := h.wf.alloc 2
  rcases HS.alloc_cases h.wf 2 with ⟨h1, _, _⟩ | ⟨h1, _, _, h4, h5⟩
  · exfalso
    apply h1
    unfold HS.alloc
    rw [if_neg (by decide), if_neg (by decide), hcls]
    cases hb : s.blk 2 with
    | some b => rfl
    | none =>
      cases hr : s.run 1 with
      | some b => rfl
      | none =>
        obtain ⟨j, hj, hne⟩ := HS.run_none hr (i + 1) (by rw [h.n]; omega)
        exact absurd (h.free _ (by omega)) hne
  · refine ⟨(s.alloc 2).1, (s.alloc 2).2.2, by rw [← h1], hwf, ?_⟩
    have hcap : (s.alloc 2).2.2.cap (s.alloc 2).1 = 2 := h5.trans (by rw [if_neg (by decide)]; rfl)
    have hkind : 33 ≤ (s.alloc 2).1 ∧ (∀ b, i + 2 ≤ b → (s.alloc 2).2.2.kind b = 0) ∧ (s.alloc 2).2.2.kind 0 = 4 := by
      unfold HS.alloc
      rw [if_neg (by decide), if_neg (by decide), hcls]
      cases hb : s.blk 2 with
      | some b =>
        obtain ⟨_, hk, _⟩ := HS.blk_some hb
        have hb0 : b ≠ 0 := by rintro rfl; rw [h.k0] at hk; cases hk
        exact ⟨by show 33 ≤ 1 + 32 * b + _; omega, fun b hb => h.free b (by omega), h.k0⟩
      | none =>
        cases hr : s.run 1 with
        | none =>
          obtain ⟨j, hj, hne⟩ := HS.run_none hr (i + 1) (by rw [h.n]; omega)
          exact absurd (h.free _ (by omega)) hne
        | some b =>
          have hf := HS.run_free hr 0 (by omega)
          have hb0 : b ≠ 0 := by rintro rfl; rw [Nat.add_zero, h.k0] at hf; cases hf
          have hle : b ≤ i + 1 := by
            refine Nat.le_of_not_lt fun hlt => ?_
            obtain ⟨j, hj, hne⟩ := HS.run_first hr (i + 1) hlt
            exact hne (h.free _ (by omega))
          refine ⟨by show 33 ≤ 1 + 32 * b; omega, fun b' hb' => ?_, ?_⟩
          · show upd s.kind b _ b' = 0
            rw [upd_other _ _ (by omega)]; exact h.free b' (by omega)
          · show upd s.kind b _ 0 = 4
            rw [upd_other _ _ (by omega)]; exact h.k0
    exact ⟨hkind.1, hcap, h4.n.trans h.n, hkind.2.1, hkind.2.2, h4.fresh, h4.used, h4.word⟩

theorem step {zs : List Int} {i : Nat} {s : HS} (h : I zs i s) (hi : i < 100) (z : Int) (hz : 0 ≤ z ∧ z < 65536) : ∃ (a : Nat) (t t' : HS), newM sorts17 s 0 1 = (a, 0, t) ∧ setM sorts17 t a z = (0, t') ∧ I zs (i + 1) t' := by
  obtain ⟨a, t, he, hwf, ha, hcap, hn, hfree, hk0, hfr, hused, hword⟩ := new2 h hi
  have hnew : newM sorts17 s 0 1 = (a, 0, t.write a 0 (headOf 0 1)) := by
    unfold newM
    rw [if_pos (by decide), if_pos (by decide), show (1 : Int) + 1 = 2 by rfl, he, if_pos rfl]
  have hlook : lookM sorts17 (t.write a 0 (headOf 0 1)) (a : Int) = (((0 : Nat) : Int), ((1 : Nat) : Int), 0) :=
    look_of (by decide) (by decide) (by decide) (by decide) (by decide) (by show upd t.word (a + 0) _ a = _; rw [Nat.add_zero, upd_same]; rfl) (by rw [write_cap, hcap]; decide)
  have hcount := count_of hlook
  have hset : setM sorts17 (t.write a 0 (headOf 0 1)) a z = (0, (t.write a 0 (headOf 0 1)).write a 1 z) := by
    unfold setM
    rw [hcount]
    exact wr_of (i := 1) (by rw [write_cap, hcap]; decide)
  refine ⟨a, _, _, hnew, hset, ?_⟩
  have w1 := hwf.write (a := a) (i := 0) (v := headOf 0 1) (by rw [hcap]; decide) (by decide)
  refine ⟨w1.write (by rw [write_cap, hcap]; decide) (by omega), hn, hfree, hk0, fun y hy => ?_, fun y hy => ?_, ?_⟩
  · show t.used y = _
    rw [hused, upd_other _ _ (by omega)]; exact h.used y hy
  · show upd (upd t.word (a + 0) _) (a + 1) _ y = _
    rw [upd_other _ _ (by omega), upd_other _ _ (by omega), hword]; exact h.word y hy
  · show (cellsTo t.used _).length = _
    have hin : a < 1 + 32 * 128 := by
      have := hwf.in_ (a := a) (by rw [hused, upd_same])
      rw [hn] at this; omega
    rw [hused, cells_up hfr hin, h.cnt]

theorem start (zs : List Int) : I zs 0 a4 := by
  refine ⟨w4, rfl, fun b hb => ?_, rfl, fun y _ => rfl, fun y _ => rfl, by decide +kernel⟩
  show upd (fun _ => 0) 0 4 b = (0 : Int)
  rw [upd_other _ _ (by omega)]

theorem inv (zs : List Int) (hz : ∀ i, 0 ≤ zs.getD i 0 ∧ zs.getD i 0 < 65536) : ∀ i, i ≤ 100 → I zs i (st zs i)
  | 0, _ => start zs
  | i + 1, hi => by
    obtain ⟨a, t, t', h1, h2, h3⟩ := step (inv zs hz i (by omega)) (by omega) (zs.getD i 0) (hz i)
    show I zs (i + 1) (setM sorts17 (newM sorts17 (st zs i) 0 1).2.2 (newM sorts17 (st zs i) 0 1).1 (zs.getD i 0)).2
    rw [h1]
    rw [h2]
    exact h3

/-- Behind the loop: the closure becomes a hole, then another one. -/
def hole (s : HS) : HS := s.write 1 0 (headOf 4 3)
def ind (s : HS) (x : Int) : HS := (((hole s).write 1 0 (headOf 5 3))).write 1 1 x
theorem turned {zs : List Int} {m : Nat} {s : HS} (h : I zs m s) (x : Int) (hx : 0 ≤ x ∧ x < 256) :
    becomeM sorts17 s 1 7 = (0, hole s) ∧ ptrsM sorts17 (hole s) 1 = ([], 0) ∧ indM sorts17 (hole s) 1 x = (0, ind s x) ∧ lookM sorts17 (ind s x) 1 = (5, 3, 0) ∧
    ptrsM sorts17 (ind s x) 1 = ([x], 0) ∧ ptrsM sorts17 (ind s x) 5 = ([0, 0], 0) ∧ (ind s x).cap 1 = 4 ∧ (ind s x).word 3 = 5 ∧ (ind s x).word 4 = 6 := by
  have c1 : s.cap 1 = 4 := by
    unfold HS.cap; rw [h.used 1 (by omega), show (1 - 1) / 32 = 0 by omega, h.k0]; rfl
  have c5 : s.cap 5 = 4 := by
    unfold HS.cap; rw [h.used 5 (by omega), show (5 - 1) / 32 = 0 by omega, h.k0]; rfl
  have l0 : lookM sorts17 s ((1 : Nat) : Int) = (((2 : Nat) : Int), ((3 : Nat) : Int), 0) := look_of (by decide) (by decide) (by decide) (by decide) (by decide) (by rw [h.word 1 (by omega)]; rfl) (by rw [c1]; decide)
  have l1 : lookM sorts17 (hole s) ((1 : Nat) : Int) = (((4 : Nat) : Int), ((3 : Nat) : Int), 0) := look_of (by decide) (by decide) (by decide) (by decide) (by decide) rfl (by show 1 + 3 ≤ s.cap 1; rw [c1]; decide)
  have b0 : becomeM sorts17 s 1 7 = (0, hole s) := by
    unfold becomeM
    rw [show (1 : Int) = ((1 : Nat) : Int) by rfl, l0, if_pos rfl, show kindAt sorts17 7 = some 4 by decide]
    rfl
  have b1 : becomeM sorts17 (hole s) 1 6 = (0, (hole s).write 1 0 (headOf 5 3)) := by
    unfold becomeM
    rw [show (1 : Int) = ((1 : Nat) : Int) by rfl, l1, if_pos rfl, show kindAt sorts17 6 = some 5 by decide]
    rfl
  have l2 : lookM sorts17 (ind s x) ((1 : Nat) : Int) = (((5 : Nat) : Int), ((3 : Nat) : Int), 0) := look_of (by decide) (by decide) (by decide) (by decide) (by decide) rfl (by show 1 + 3 ≤ s.cap 1; rw [c1]; decide)
  have hw5 : (ind s x).word 5 = headOf 1 2 := by
    show upd (upd (upd s.word (1 + 0) (headOf 4 3)) (1 + 0) (headOf 5 3)) (1 + 1) x 5 = _
    rw [upd_other _ _ (by decide), upd_other _ _ (by decide), upd_other _ _ (by decide), h.word 5 (by omega)]; rfl
  have l5 : lookM sorts17 (ind s x) ((5 : Nat) : Int) = (((1 : Nat) : Int), ((2 : Nat) : Int), 0) := look_of (by decide) (by decide) (by decide) (by decide) (by decide) hw5 (by show 1 + 2 ≤ s.cap 5; rw [c5]; decide)
  have hwd : ∀ y, 3 ≤ y → y < 33 → (ind s x).word y = a4.word y := fun y h1 h2 => by
    show upd (upd (upd s.word (1 + 0) (headOf 4 3)) (1 + 0) (headOf 5 3)) (1 + 1) x y = _
    rw [upd_other _ _ (by omega), upd_other _ _ (by omega), upd_other _ _ (by omega), h.word y h2]
  refine ⟨b0, ?_, ?_, l2, ?_, ?_, c1, hwd 3 (by omega) (by omega), hwd 4 (by omega) (by omega)⟩
  · unfold ptrsM
    rw [show (1 : Int) = ((1 : Nat) : Int) by rfl, count_of l1, if_pos rfl]
    rfl
  · unfold indM
    rw [if_neg (by omega), b1, if_pos rfl]
    exact wr_of (a := 1) (i := 1) (by show 1 < s.cap 1; rw [c1]; decide)
  · unfold ptrsM
    rw [show (1 : Int) = ((1 : Nat) : Int) by rfl, count_of l2, if_pos rfl]
    show (ptrL (ind s x) ((1 : Nat) : Int) 1, (0 : Int)) = _
    unfold ptrL
    rw [show List.range 1 = [0] by rfl]
    simp only [List.map]
    rw [show (1 : Int) + ((0 : Nat) : Int) = ((1 : Nat) : Int) by rfl, rd_of (by show 1 < s.cap 1; rw [c1]; decide), show (ind s x).word (1 + 1) = x from upd_same ((hole s).write 1 0 (headOf 5 3)).word (1 + 1) x, wrap_fit (by omega) (by omega)]
  · unfold ptrsM
    rw [show (5 : Int) = ((5 : Nat) : Int) by rfl, count_of l5, if_pos rfl]
    show (ptrL (ind s x) ((5 : Nat) : Int) 2, (0 : Int)) = _
    unfold ptrL
    rw [show List.range 2 = [0, 1] by rfl]
    simp only [List.map]
    rw [show (1 : Int) + ((0 : Nat) : Int) = ((1 : Nat) : Int) by rfl, show (1 : Int) + ((1 : Nat) : Int) = ((2 : Nat) : Int) by rfl, rd_of (by show 1 < s.cap 5; rw [c5]; decide), rd_of (by show 2 < s.cap 5; rw [c5]; decide), hwd (5 + 1) (by omega) (by omega), hwd (5 + 2) (by omega) (by omega), show a4.word (5 + 1) = 0 by decide, show a4.word (5 + 2) = 0 by decide, wrap_fit (x := 0) (by decide) (by decide)]
end Turn
end Go.Proofs.Ytjfpijoeddjgmaa
