/- A store of closures: Ptrs. Conditions: the store's memory reads as the plain model says. -/
import Derived.Test.YtjfpijoeddjgmaaLives17
namespace Go.Proofs.Ytjfpijoeddjgmaa
open Go.RowKit Hm
set_option linter.unusedVariables false
/-- A word of a cell; 0: there is none. -/
def rdM (s : HS) (a i : Int) : Int := if HS.has s a i then s.word (a.toNat + i.toNat) else 0
def ptrL (s : HS) (a : Int) (n : Nat) : List Int := (List.range n).map fun (i : Nat) => wrap64 (rdM s a (1 + (i : Int)))
theorem ptrL_len (s : HS) (a : Int) (n : Nat) : (ptrL s a n).length = n := by simp [ptrL]
theorem ptrL_succ (s : HS) (a : Int) (n : Nat) : ptrL s a (n + 1) = ptrL s a n ++ [wrap64 (rdM s a (1 + (n : Int)))] := by simp [ptrL, List.range_succ]
/-- Ptrs: the pointers, the error. -/
def ptrsM (srt : List Inf) (s : HS) (a : Int) : List Int × Int :=
  if (countM srt s a).2.2 = 0 then (ptrL s a (countM srt s a).1.toNat, 0) else ([], (countM srt s a).2.2)

set_option maxRecDepth 100000 in
set_option maxHeartbeats 1000000 in
theorem ptrs_any {q : SPl} {p : HP} {srt : List Inf} {s : HS} (a : Int) (w : World) (hA : HeapAt w p s) (hS : StoreAt w q p srt) :
    Calls Try.prog 34 #[.pointer (some ⟨q.sp, 0, none⟩), .int .i64 a] w fun e w' => ∃ v, e = .returned (.tuple #[v, .int .i64 (ptrsM srt s a).2]) ∧ IntsAt w' w.heap.size v (ptrsM srt s a).1 ∧ Below w.heap.size w w' := by
  obtain ⟨i3, hi3, hz0, hz1, hz2⟩ := info_parts info3
  have hcnt := count_any a w hA hS
  obtain ⟨B, hB⟩ : ∃ B, B = w.heap.size := ⟨_, rfl⟩
  rw [← hB]
  have h0 := hS.h0
  have HSP : Hid (q.sp < B) := by show _ < _; rw [hB]; exact hS.st.lt
  have HLT : Hid (∀ k, p.mine k → k < B) := by rw [hB]; exact hA.lt
  have HA := Lib.hid hA
  have HBW : Hid (∀ W, Fr (fun _ => False) w W → Below B w W ∧ B ≤ W.heap.size) := fun W hW => ⟨hW.below (by rw [hB]; exact Nat.le_refl _) (fun _ h => h.elim), by rw [hB]; exact hW.size⟩
  clear hB
  obtain ⟨R, hR⟩ : ∃ R, R = ptrsM srt s a := ⟨_, rfl⟩
  rw [← hR]
  unfold ptrsM at hR
  by_cases he : (countM srt s a).2.2 = 0
  · rw [if_pos he] at hR
    obtain ⟨n, k, e, hn, hk⟩ := count_in hS.ok he
    rw [e] at hR hcnt
    simp only [Int.toNat_natCast] at hR hcnt
    subst hR
    have HCNT := Lib.hid hcnt
    clear hcnt he e hS hA
    go_enter Try.func34, Try.ntmps34
    go_wp2_with fail
    refine HCNT.out.mono ?_
    rintro e w1 ⟨rfl, hF1⟩
    have HB1 := Lib.hid (HBW.out _ hF1)
    have h01 := hF1.cell h0 id
    clear HCNT hF1
    go_wp2
    go_loopw [9, 24] (fun v9 v24 wr => ∃ ao cap, ∃ i : Nat, v9 = .slice ao i cap ∧ v24 = .int .i64 i ∧ i ≤ n ∧ Hid (IntsAt wr B (.slice ao i cap) (ptrL s a i) ∧ Below B w wr ∧ B ≤ wr.heap.size)) (fun _ v24 _ => n - (intOf v24).toNat)
    case atStart => exact ⟨_, _, 0, rfl, rfl, by omega, IntsAt.nil _ _, HB1.out⟩
    case round =>
      obtain ⟨ao, cap, i, rfl, rfl, hi, hI⟩ := hrel
      clear h01 HB1
      by_cases hin : i < n
      · have hfr := Below.fr' hI.out.2.1
        have h0r := hfr.cell h0 (by have := HSP.out; show ¬ B ≤ q.sp; omega)
        have hread : Hid (Calls Try.prog 23 #[.pointer (some ⟨p.h, 0, none⟩), .int .i64 a, .int .i64 (1 + (i : Int))] wr fun x w' => ∃ er, x = .returned (.tuple #[.int .u64 (rdM s a (1 + (i : Int))), .int .i64 er]) ∧ wr = w') := by
          refine (read_any a (1 + (i : Int)) wr (HA.out.fr hfr fun k hk => by have := HLT.out k hk; omega)).mono ?_
          unfold rdM
          split
          · rintro x w' ⟨rfl, rfl⟩; exact ⟨_, rfl, rfl⟩
          · rintro x w' ⟨rfl, rfl⟩; exact ⟨_, rfl, rfl⟩
        obtain ⟨x, hx⟩ : ∃ x, x = rdM s a (1 + (i : Int)) := ⟨_, rfl⟩
        rw [← hx] at hread
        obtain ⟨y, hy⟩ : ∃ y, wrap64 x = y := ⟨_, rfl⟩
        have HX := Lib.hid hx
        have HY := Lib.hid hy
        clear hx hfr
        go_wp2_with fail
        refine hread.out.mono ?_
        rintro e w2 ⟨er, rfl, rfl⟩
        go_wp2_with (first
          | (at_builtin; refine wpList_append_own _ rfl _ _ 29 rfl B 3 i3 (.int .i64 0) 1 8 Try.underlying29 hi3 hz0 hz1 hz2 rfl (by decide) _ _ _ rfl (hI.out.1.alloc _) ⟨wr.heap.size, 0, none⟩ 1 1 [.int .i64 y] rfl rfl (cell_one_new _ _ _) (fun u hu => by simp at hu; subst hu; rfl) (by rw [ptrL_len]; unfold maxLen; omega) (by rw [ptrL_len]; omega) (by have := hI.out.2.2; simp; omega) ?_))
        intro v' w4 hown' hgrow _
        have HN : Hid (IntsAt w4 B v' (ptrL s a (i + 1)) ∧ Below B w w4 ∧ B ≤ w4.heap.size) := by
          have hown2 : w4.ownsRow B 3 1 v' ((ptrL s a i).length + 1) ((ptrL s a i).map (Value.int .i64) ++ [.int .i64 y]) := by first | exact hown' | (rw [ptrL_len]; exact hown')
          refine ⟨?_, below_append hI.out.2.1 hI.out.2.2 hI.out.1 hgrow, ?_⟩
          · rw [ptrL_succ, ← HX.out, HY.out]; exact IntsAt.one hown2
          · have h1 := hgrow.size; have h2 := hI.out.2.2; simp at h1; omega
        clear hown' hgrow hI
        obtain ⟨ao4, cap4, rfl, _⟩ := HN.out.1.shape
        rw [ptrL_len] at HN ⊢
        go_wp2
        go_roundw
        case rel => exact ⟨_, _, i + 1, rfl, by go_num, by omega, HN⟩
        case measure => simp [intOf]; omega
      · have hin2 : i = n := by omega
        subst hin2
        go_wp2
        go_ret2
        exact ⟨_, rfl, hI.out.1, hI.out.2.1⟩
  · rw [if_neg he] at hR
    obtain ⟨e, he0, e2, h1, h2⟩ := count_err he
    rw [e2] at hR hcnt
    subst hR
    have HCNT := Lib.hid hcnt
    have hen : (e != 0) = true := by simpa using he0
    clear hcnt he e2 hS hA
    go_enter Try.func34, Try.ntmps34
    go_wp2_with (first | (go_at_call 74; refine HCNT.out.mono ?_; rintro e w1 ⟨rfl, hF⟩))
    go_ret2
    exact ⟨_, rfl, IntsAt.nil _ _, (HBW.out _ hF).1⟩
end Go.Proofs.Ytjfpijoeddjgmaa
