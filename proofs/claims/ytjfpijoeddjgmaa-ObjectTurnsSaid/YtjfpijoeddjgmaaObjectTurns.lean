/- Law 17, ObjectTurns: a closure that becomes a hole, and then another one. No condition. -/
import Derived.Test.YtjfpijoeddjgmaaTurns
import Derived.Test.YtjfpijoeddjgmaaStoEq
namespace Go.Proofs.Ytjfpijoeddjgmaa
open Go.RowKit Hm
set_option linter.unusedVariables false
theorem u16_wf {z : Int} (h : (Lit.int .u16 z).wf = true) : 0 ≤ z ∧ z < 65536 := by
  simp [Lit.wf, IntKind.min, IntKind.max] at h
  have h1 : 0 ≤ z := of_decide_eq_true h.1
  have h2 : z ≤ 65535 := of_decide_eq_true h.2
  omega
theorem getD_u16 {zs : List Int} (h : ∀ z ∈ zs, (Lit.int .u16 z).wf = true) (i : Nat) : 0 ≤ zs.getD i 0 ∧ zs.getD i 0 < 65536 := by
  by_cases hi : i < zs.length
  · exact u16_wf (h _ (getD_mem hi))
  · rw [List.getD_eq_getElem?_getD, List.getElem?_eq_none (by omega)]
    exact ⟨by decide, by decide⟩
namespace objectTurns
set_option maxRecDepth 100000 in
set_option maxHeartbeats 4000000 in
theorem walk (v : Value) (zs : List Int) (x : Int) (w : World) (hv : IntArg .u16 w v zs) (hx : 0 ≤ x ∧ x ≤ 255) : Calls Try.prog 11 #[v, .int .u8 x] w fun e w' => e = .returned (.bool true) ∧ Below w.heap.size w w' := by
  obtain ⟨ao, cap, rfl, hcells, hwf⟩ := hv
  obtain ⟨B, hB⟩ : ∃ B, B = w.heap.size := ⟨_, rfl⟩
  rw [← hB] at hcells ⊢
  have HL : Hid (∀ W, Below B w W → Calls Try.prog 40 #[] W fun e w' => e = .returned (.bool true) ∧ Hid (Below B w w' ∧ B ≤ w'.heap.size)) := by
    intro W hW
    refine (lives17 W).mono ?_
    rintro e w' ⟨rfl, h⟩
    have hs : B ≤ W.heap.size := by rw [hB]; exact hW.size
    exact ⟨rfl, hW.trans (h.mono hs), Nat.le_trans hs h.size⟩
  have HW := Lib.hid (Below.refl B w)
  clear hB
  have HC := Lib.hid hcells
  have hz16 := getD_u16 hwf
  have HZ := Lib.hid hz16
  have HINV := Lib.hid (Turn.inv zs hz16)
  clear hcells hwf hz16
  obtain ⟨m, hm⟩ : ∃ m, m = zs.length := ⟨_, rfl⟩
  rw [← hm]
  have HM := Lib.hid hm
  clear hm
  have hconv : wrap64 x = x := wrap_fit (by omega) (by omega)
  by_cases hlong : 40 < m
  · go_enter Try.func11, Try.ntmps11
    go_wp2_with fail
    refine (HL.out _ HW.out).mono ?_
    rintro e w1 ⟨rfl, hb1⟩
    go_wp2_with fail
    refine (HL.out _ hb1.out.1).mono ?_
    rintro e w2 ⟨rfl, hb2⟩
    go_wp2
    go_ret
    exact ⟨rfl, hb2.out.1⟩
  · have HNEW : Hid (∀ W, Below B w W ∧ B ≤ W.heap.size → Calls Try.prog 20 #[.int .i64 4096] W fun e w' => ∃ p : HP, e = .returned (.tuple #[.pointer (some ⟨p.h, 0, none⟩), .int .i64 0]) ∧ Hid (Own B w w' p (HS.empty 128))) := by
      intro W hW
      refine (new_any 4096 128 W (by decide) (by decide) (by decide) B w hW.1 hW.2).mono ?_
      rintro e w' ⟨p, rfl, h1, h2, h3, h4⟩
      exact ⟨p, rfl, h1, h2, h3, h4⟩
    have E0 := Lib.hid Turn.e0
    have E1 := Lib.hid Turn.e1
    have E2 := Lib.hid Turn.e2
    have E3 := Lib.hid Turn.e3
    have E4 := Lib.hid Turn.e4
    go_enter Try.func11, Try.ntmps11
    go_wp2_with fail
    refine (HL.out _ HW.out).mono ?_
    rintro e w1 ⟨rfl, hb1⟩
    go_wp2_with fail
    refine (HNEW.out _ hb1.out).mono ?_
    rintro e w2 ⟨p, rfl, hO⟩
    go_wp2_with fail
    refine (sorts17_any w2).mono ?_
    rintro e w3 ⟨sb, rfl, hsb, hso, hbl⟩
    have hS : Hid (Sto B w (w3.alloc (.cells #[.pointer (some ⟨p.h, 0, none⟩), .slice (some ⟨sb, 0, none⟩) 9 9] 47)) ⟨w3.heap.size, sb⟩ p sorts17 (HS.empty 128)) :=
      Sto.make (hO.out.quiet (Fr.of_below hbl)) hso sorts17_ok (by decide) (fun k hk => by have := hO.out.at'.lt k hk; omega) (by have := hO.out.size; omega)
    obtain ⟨W, hW⟩ : ∃ W, W = w3.alloc (.cells #[.pointer (some ⟨p.h, 0, none⟩), .slice (some ⟨sb, 0, none⟩) 9 9] 47) := ⟨_, rfl⟩
    obtain ⟨sp, hsp⟩ : ∃ sp, sp = w3.heap.size := ⟨_, rfl⟩
    rw [← hW, ← hsp] at hS
    clear hsb hso hbl hO hb1
    have HC1 := Lib.hid (hS.out.new' 2 3 E0.out)
    clear hS
    have HW2 := Lib.hid (And.intro hW hsp)
    clear hW hsp
    go_wp2_with fail
    obtain ⟨hW, hsp⟩ := HW2.out
    rw [← hW, ← hsp]
    clear hW hsp HW2
    refine HC1.out.mono ?_
    rintro e w4 ⟨rfl, hS4⟩
    clear HC1
    have HC2 := Lib.hid (hS4.out.1.new' 1 2 E1.out)
    clear hS4
    go_wp2_with fail
    refine HC2.out.mono ?_
    rintro e w5 ⟨rfl, hS5⟩
    clear HC2
    have HC3 := Lib.hid (hS5.out.1.point 1 0 5 (by decide) E2.out)
    clear hS5
    go_wp2_with fail
    refine HC3.out.mono ?_
    rintro e w6 ⟨rfl, hS6⟩
    clear HC3
    have HC4 := Lib.hid (hS6.out.1.point 1 1 5 (by decide) E3.out)
    clear hS6
    go_wp2_with fail
    refine HC4.out.mono ?_
    rintro e w7 ⟨rfl, hS7⟩
    clear HC4
    have HC5 := Lib.hid (hS7.out.1.point 1 2 6 (by decide) E4.out)
    clear hS7
    go_wp2_with fail
    refine HC5.out.mono ?_
    rintro e w8 ⟨rfl, hS8⟩
    clear HC5
    have HS8 : Hid (Sto B w w8 ⟨sp, sb⟩ p sorts17 (Turn.st zs 0)) := hS8.out.1
    clear hS8
    go_wp2
    go_loopw [82] (fun v82 wr => ∃ i : Nat, v82 = .int .i64 i ∧ i ≤ m ∧ Hid (Sto B w wr ⟨sp, sb⟩ p sorts17 (Turn.st zs i))) (fun i _ => m - (intOf i).toNat)
    case atStart => exact ⟨0, rfl, by omega, HS8.out⟩
    case round =>
      obtain ⟨i, rfl, hi, hI⟩ := hrel
      clear HS8
      by_cases hilt : i < m
      · obtain ⟨b, off, rfl, hb, hcell0⟩ : ∃ b off, ao = some ⟨b, off, none⟩ ∧ b < B ∧ ∀ j, j < zs.length → w.cell? ⟨b, off + j, none⟩ = some (.int .u16 (zs.getD j 0)) := HC.out.resolve_left (by rw [← HM.out]; omega)
        have hcell := hI.out.world.cell (hcell0 i (by rw [← HM.out]; exact hilt)) (by show ¬ B ≤ b; omega)
        obtain ⟨a, t, t', hn1, hn2, hn3⟩ := Turn.step (HINV.out i (by omega)) (by omega) (zs.getD i 0) (HZ.out i)
        have hst : Turn.st zs (i + 1) = t' := by
          show (setM sorts17 (newM sorts17 (Turn.st zs i) 0 1).2.2 (newM sorts17 (Turn.st zs i) 0 1).1 (zs.getD i 0)).2 = t'
          rw [hn1]
          exact congrArg Prod.snd hn2
        have HST := Lib.hid hst
        have hz := HZ.out i
        obtain ⟨z, hze⟩ : ∃ z, z = zs.getD i 0 := ⟨_, rfl⟩
        rw [← hze] at hcell hn2 hz
        have hu : IntKind.u64.wrap z = z := uwrap_fit (by omega)
        have HN1 := Lib.hid (hI.out.new' 0 1 hn1)
        have HN2 := Lib.hid hn2
        clear hn1 hn2 hn3 hst hze hcell0 hI
        go_wp2_with fail
        refine HN1.out.mono ?_
        rintro e w9 ⟨rfl, hS9⟩
        have HN3 := Lib.hid (hS9.out.1.set' a z (by omega) HN2.out)
        clear hS9 HN1
        go_wp2_with fail
        refine HN3.out.mono ?_
        rintro e w10 ⟨rfl, hS10⟩
        have HS10 : Hid (Sto B w w10 ⟨sp, sb⟩ p sorts17 (Turn.st zs (i + 1))) := by rw [HST.out]; exact hS10.out.1
        clear HN3 hS10
        go_wp2
        go_roundw
        case rel => exact ⟨i + 1, by go_num, by omega, HS10⟩
        case measure => simp [intOf]; omega
      · have him : i = m := by omega
        subst him
        obtain ⟨t1, t2, t3, t4, t5, t6, t7, t8, t9⟩ := Turn.turned (HINV.out i (by omega)) x (by omega)
        have hused : (cellsTo (Turn.ind (Turn.st zs i) x).used (1 + 32 * (Turn.ind (Turn.st zs i) x).n)).length = i + 2 := by
          have h := HINV.out i (by omega)
          have hn : (Turn.ind (Turn.st zs i) x).n = 128 := h.n
          rw [hn]; exact h.cnt
        have T2 := Lib.hid t2
        have T3 := Lib.hid t3
        have T4 := Lib.hid t4
        have T5 := Lib.hid t5
        have T6 := Lib.hid t6
        have T7 := Lib.hid t7
        have T8 := Lib.hid t8
        have T9 := Lib.hid t9
        have HU := Lib.hid hused
        have HD1 := Lib.hid (hI.out.hole 1 t1)
        clear t1 t2 t3 t4 t5 t6 t7 t8 t9 hI hused HINV
        go_wp2_with fail
        refine HD1.out.mono ?_
        rintro e w9 ⟨rfl, hS9⟩
        have HD2 := Lib.hid (hS9.out.1.ptrs 1 T2.out)
        clear HD1 hS9
        go_wp2_with fail
        refine HD2.out.mono ?_
        rintro e w10 ⟨ao1, cap1, rfl, hS10⟩
        have HD3 := Lib.hid (hS10.out.1.ind 1 x (by omega) T3.out)
        clear HD2 hS10
        go_wp2_with fail
        refine HD3.out.mono ?_
        rintro e w11 ⟨rfl, hS11⟩
        have HD4 := Lib.hid (hS11.out.1.look 1 T4.out)
        clear HD3 hS11
        go_wp2_with fail
        refine HD4.out.mono ?_
        rintro e w12 ⟨rfl, hS12⟩
        have HD5 := Lib.hid (hS12.out.1.ptrs 1 T5.out)
        clear HD4 hS12
        go_wp2_with fail
        refine HD5.out.mono ?_
        rintro e w13 ⟨ao2, cap2, rfl, hS13⟩
        have HD6 := Lib.hid (hS13.out.1.ptrs 5 T6.out)
        obtain ⟨g2, rfl, hg2, hc2⟩ := hS13.out.2.2.elem (j := 0) (by simp)
        have hlt2 : g2 < w13.heap.size := World.block_lt_of_cell? w13 _ hc2
        clear HD5 hS13
        go_wp2_with fail
        refine HD6.out.mono ?_
        rintro e w14 ⟨ao3, cap3, rfl, hS14⟩
        obtain ⟨g3, rfl, hg3, hc3⟩ := hS14.out.2.2.elem (j := 0) (by decide)
        have hc2' := hS14.out.2.1.cell hc2 id
        have HD7 : Hid (Calls Try.prog 23 #[.pointer (some ⟨p.h, 0, none⟩), .int .i64 1, .int .i64 2] w14 fun e w' => e = .returned (.tuple #[.int .u64 5, .int .i64 0]) ∧ w14 = w') := by
          have h := read_in (a := 1) (i := 2) hS14.out.1.own.at' (by rw [T7.out]; decide)
          rw [show 1 + 2 = 3 by rfl, T8.out] at h
          exact h
        have HD8 : Hid (Calls Try.prog 23 #[.pointer (some ⟨p.h, 0, none⟩), .int .i64 1, .int .i64 3] w14 fun e w' => e = .returned (.tuple #[.int .u64 6, .int .i64 0]) ∧ w14 = w') := by
          have h := read_in (a := 1) (i := 3) hS14.out.1.own.at' (by rw [T7.out]; decide)
          rw [show 1 + 3 = 4 by rfl, T9.out] at h
          exact h
        have HD9 : Hid (Calls Try.prog 26 #[.pointer (some ⟨p.h, 0, none⟩)] w14 fun x w' => ∃ ao cap, x = .returned (.slice ao (i + 2) cap) ∧ Hid (Below B w w')) := by
          refine (cells_any w14 hS14.out.1.own.at').mono ?_
          rintro x w' ⟨v, rfl, h1, h2⟩
          obtain ⟨ao, cap, rfl, _⟩ := h1.shape
          rw [HU.out]
          exact ⟨ao, cap, rfl, hS14.out.1.own.below.trans (h2.mono hS14.out.1.own.size)⟩
        clear HD6 hS14 hc2 hg2 hg3 hlt2
        go_wp2_with fail
        refine HD7.out.mono ?_
        rintro e w15 ⟨rfl, rfl⟩
        go_wp2_with fail
        refine HD8.out.mono ?_
        rintro e w15 ⟨rfl, rfl⟩
        go_wp2_with fail
        refine HD9.out.mono ?_
        rintro e w15 ⟨ao4, cap4, rfl, hbel⟩
        go_wp2
        go_ret
        exact ⟨rfl, hbel.out⟩
end objectTurns
end Go.Proofs.Ytjfpijoeddjgmaa
