/- Law 20, CollectTwice: of closures with Inds that don't go round, once more nothing is given back, and the roots stay. No condition. -/
import Derived.Test.YtjfpijoeddjgmaaTwice
import Derived.Test.YtjfpijoeddjgmaaCollectRoom
namespace Go.Proofs.Ytjfpijoeddjgmaa
open Go.RowKit Hm
set_option linter.unusedVariables false
set_option maxRecDepth 100000 in
set_option maxHeartbeats 4000000 in
theorem ring_any {w : World} {v : Value} {nds : List Nd} (hv : NodesAt w v nds) (hl : nds.length ≤ 100) {i : Nat} (hi : i < nds.length) :
    Calls Try.prog 60 #[v, .int .i64 i] w fun e w' => e = .returned (.bool (ringM nds (nds.length + 1) i)) ∧ w = w' := by
  obtain ⟨vo, vcap, rfl, hcells, hok⟩ := hv
  have HC := Lib.hid hcells
  have HOK := Lib.hid hok
  obtain ⟨n, hn⟩ : ∃ n, n = nds.length := ⟨_, rfl⟩
  obtain ⟨R, hR⟩ : ∃ R, R = ringM nds (n + 1) i := ⟨_, rfl⟩
  rw [← hn] at hl hi ⊢
  rw [← hR]
  have HN := Lib.hid hn
  have HR := Lib.hid hR
  clear hcells hok hn hR
  go_enter Try.func60, Try.ntmps60
  go_wp2
  go_loop [1, 9] (fun v1 v9 => ∃ i' k : Nat, v1 = .int .i64 i' ∧ v9 = .int .i64 k ∧ i' < n ∧ k ≤ n + 1 ∧ Hid (R = ringM nds (n + 1 - k) i')) (fun _ v9 => n + 1 - (intOf v9).toNat)
  case atStart => exact ⟨i, 0, rfl, rfl, hi, by omega, HR.out⟩
  case round =>
    obtain ⟨i', k, rfl, rfl, hi', hk, hI⟩ := hrel
    by_cases hkn : k < n + 1
    · obtain ⟨b, off, rfl, hb, hcell0⟩ := HC.out.resolve_left (by rw [← HN.out]; omega)
      have hil : i' < nds.length := by rw [← HN.out]; exact hi'
      have hcc := fun c hc => hcell0 i' hil c hc
      obtain ⟨x, hx⟩ : ∃ x, x = nds.getD i' ndz := ⟨_, rfl⟩
      rw [← hx] at hcc
      have k0 := hcc 0 (by omega)
      have k2 := hcc 2 (by omega)
      simp only [Nd.cell, Nat.add_zero] at k0 k2
      have hxok : x.Ok := by rw [hx]; exact HOK.out _ (by rw [List.getD_eq_getElem?_getD, List.getElem?_eq_getElem hil]; exact List.getElem_mem _)
      have hndx : nd nds i' = x := by rw [hx]; rfl
      obtain ⟨sk, hsk⟩ : ∃ sk, sk = kOf 6 nds i' := ⟨_, rfl⟩
      obtain ⟨to', hto⟩ : ∃ to', to' = tgt nds i' 0 := ⟨_, rfl⟩
      have HMOD : Hid (x.sort.tmod 6 = (sk : Int)) := by
        show _ = _
        rw [Int.tmod_eq_emod_of_nonneg hxok.s.1, hsk]
        unfold kOf
        rw [hndx]
        have := Int.emod_nonneg x.sort (show (6 : Int) ≠ 0 by omega)
        omega
      have HMOD2 : Hid (x.l0.tmod ((n : Int) + 1) = (to' : Int)) := by
        show _ = _
        rw [Int.tmod_eq_emod_of_nonneg hxok.a.1, hto]
        have e : tgt nds i' 0 = (x.l0 % ((n : Int) + 1)).toNat := by unfold tgt; rw [hndx, ← HN.out]; rfl
        rw [e]
        have := Int.emod_nonneg x.l0 (show (n : Int) + 1 ≠ 0 by omega)
        omega
      have hton : to' ≤ n := by rw [hto, HN.out]; exact tgt_le nds i' 0
      have hsk6 : sk < 6 := by
        have h1 := Int.emod_lt_of_pos (nd nds i').sort (show (0 : Int) < ((6 : Nat) : Int) by omega)
        rw [hsk]; unfold kOf; omega
      have HWS : Hid (wrap64 x.sort = x.sort) := wrap_fit (by have := hxok.s; omega) (by have := hxok.s; omega)
      have HWK : Hid (wrap64 (sk : Int) = sk) := wrap_fit (by omega) (by omega)
      have HWL : Hid (wrap64 x.l0 = x.l0) := wrap_fit (by have := hxok.a; omega) (by have := hxok.a; omega)
      have HWT : Hid (wrap64 (to' : Int) = to') := wrap_fit (by omega) (by omega)
      have HN0 : Hid ((((n : Int) + 1) == 0) = false) := by show _ = _; simp; omega
      have HNX : Hid (R = if sk = 5 then (if to' = 0 then false else ringM nds (n + 1 - (k + 1)) (to' - 1)) else false) := by
        show _ = _
        rw [hI.out, show n + 1 - k = (n + 1 - (k + 1)) + 1 by omega]
        show (if kOf 6 nds i' = 5 then _ else _) = _
        rw [← hsk, ← hto]
      have HT := Lib.hid (And.intro hton hsk6)
      clear hcc hcell0 hI hx hxok hndx hsk hto hton
      by_cases h5 : sk = 5
      · subst h5
        by_cases h0 : to' = 0
        · subst h0
          have HRF : Hid (R = false) := by show _ = _; rw [HNX.out, if_pos rfl, if_pos rfl]
          clear HNX
          have hmod' : x.sort.tmod 6 = 5 := by have := HMOD.out; simpa using this
          have hws := HWS.out
          have hwl := HWL.out
          have hn0 := HN0.out
          have hmod2' : x.l0.tmod ((n : Int) + 1) = 0 := by have := HMOD2.out; simpa using this
          go_wp2
          clear hmod' hws hwl hn0 hmod2'
          go_ret
          exact ⟨by rw [HRF.out]; rfl, rfl⟩
        · obtain ⟨t1, rfl⟩ : ∃ t1, to' = t1 + 1 := ⟨to' - 1, by omega⟩
          have ht0 : (((t1 : Int) + 1) == 0) = false := by simp; omega
          have HR2 : Hid (R = ringM nds (n + 1 - (k + 1)) t1) := by
            show _ = _
            rw [HNX.out, if_pos rfl, if_neg h0, show t1 + 1 - 1 = t1 by omega]
          clear HNX h0
          have ht1n : t1 + 1 ≤ n := HT.out.1
          have hwt2 : IntKind.i64.wrap ((t1 : Int) + 1 - 1) = t1 := by rw [IntKind.wrap_i64]; omega
          have hwt3 : wrap64 (t1 : Int) = t1 := wrap_fit (by omega) (by omega)
          have HT1 := Lib.hid ht1n
          clear ht1n
          have hmod' : x.sort.tmod 6 = 5 := by have := HMOD.out; simpa using this
          have hws := HWS.out
          have hwl := HWL.out
          have hn0 := HN0.out
          have hmod2 := HMOD2.out
          have hwt := HWT.out
          go_wp2
          clear hmod' hws hwl hn0 hmod2 hwt hwt2
          have ht1n := HT1.out
          go_round
          case rel => exact ⟨t1, k + 1, by go_num, by go_num, by have := HT.out; omega, by omega, HR2⟩
          case measure => simp [intOf]; omega
      · have h5' : ((sk : Int) == 5) = false := by simp; omega
        have h5n : ((sk : Int) != 5) = true := by simp; omega
        have h5p : ¬ ((sk : Int) = 5) := by omega
        have h5q : ¬ (sk = 5) := h5
        have HRF : Hid (R = false) := by show _ = _; rw [HNX.out, if_neg h5]
        clear HNX h5
        have hmod := HMOD.out
        have hws := HWS.out
        have hwk := HWK.out
        go_wp2
        clear hmod hws hwk
        go_ret
        exact ⟨by rw [HRF.out]; rfl, rfl⟩
    · have hk2 : k = n + 1 := by omega
      subst hk2
      have HRT : Hid (R = true) := by show _ = _; rw [hI.out, Nat.sub_self]; rfl
      clear hI
      go_wp2
      go_ret
      exact ⟨by rw [HRT.out]; rfl, rfl⟩
end Go.Proofs.Ytjfpijoeddjgmaa
