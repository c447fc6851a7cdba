/- The heap: the first run of free blocks; Cap. Conditions: the heap's memory reads as the plain model says. -/
import Derived.Test.YtjfpijoeddjgmaaHeapW1
namespace Go.Proofs.Ytjfpijoeddjgmaa
open Go.RowKit Hm

/-- What the search for a run knows at block b, the last m of which are free. -/
def RunInv (s : HS) (k b m : Nat) : Prop :=
  (∀ b', b' + k ≤ b → ∃ i, i < k ∧ s.kind (b' + i) ≠ 0) ∧ (∀ i, i < m → s.kind (b - 1 - i) = 0) ∧ m ≤ b ∧ (m < b → s.kind (b - m - 1) ≠ 0) ∧ m < k
theorem RunInv.start {s : HS} {k b : Nat} (hk : 0 < k) (h : ∀ b', b' < b → s.kind b' ≠ 0) : RunInv s k b 0 :=
  ⟨fun b' hb => ⟨0, hk, h _ (by omega)⟩, fun _ h => by omega, by omega, fun hb => h _ (by omega), hk⟩
theorem RunInv.used {s : HS} {k b m : Nat} (h : RunInv s k b m) (hb : s.kind b ≠ 0) : RunInv s k (b + 1) 0 := by
  obtain ⟨h1, h2, h3, h4, h5⟩ := h
  refine ⟨fun b' hb' => ?_, fun _ h => by omega, by omega, fun _ => hb, by omega⟩
  by_cases he : b' + k ≤ b
  · exact h1 b' he
  · exact ⟨k - 1, by omega, by rw [show b' + (k - 1) = b by omega]; exact hb⟩
theorem RunInv.free {s : HS} {k b m : Nat} (h : RunInv s k b m) (hb : s.kind b = 0) (hm : m + 1 < k) : RunInv s k (b + 1) (m + 1) := by
  obtain ⟨h1, h2, h3, h4, h5⟩ := h
  refine ⟨fun b' hb' => ?_, fun i hi => ?_, by omega, fun hlt => ?_, hm⟩
  · by_cases he : b' + k ≤ b
    · exact h1 b' he
    · have := h4 (by omega)
      refine ⟨b - m - 1 - b', by omega, ?_⟩
      rw [show b' + (b - m - 1 - b') = b - m - 1 by omega]; exact this
  · by_cases h0 : i = 0
    · subst h0; simpa using hb
    · have := h2 (i - 1) (by omega)
      rw [show b + 1 - 1 - i = b - 1 - (i - 1) by omega]; exact this
  · have := h4 (by omega)
    rw [show b + 1 - (m + 1) - 1 = b - m - 1 by omega]; exact this
theorem RunInv.found {s : HS} {k b m : Nat} (h : RunInv s k b m) (hb : s.kind b = 0) (hbn : b < s.n) (hm : m + 1 = k) : s.run k = some (b + 1 - k) := by
  obtain ⟨h1, h2, h3, h4, h5⟩ := h
  refine HS.run_of (by omega) (fun i hi => ?_) (fun b' hb' => h1 b' (by omega))
  by_cases h0 : i = k - 1
  · rw [show b + 1 - k + i = b by omega]; exact hb
  · have := h2 (m - 1 - i) (by omega)
    rw [show b - 1 - (m - 1 - i) = b + 1 - k + i by omega] at this; exact this
theorem RunInv.none {s : HS} {k m : Nat} (h : RunInv s k s.n m) : s.run k = none := HS.run_no h.1

def runInt (s : HS) (k : Nat) : Int := match s.run k with | some b => (b : Int) | none => -1

set_option maxHeartbeats 400000 in
theorem run_any {p : HP} {s : HS} {wd cn : Nat → Int} {us : Nat → Bool} {L : List (Ent Int)} {clk : Nat} {cl : Int} (k : Nat) (w : World)
    (hR : Raw w p s.n wd s.kind cn us L clk cl) (hC : s.HintC cl) (hn : s.n ≤ 2048) (hk : 1 ≤ k) (hk2 : k ≤ 2) :
    Calls Try.prog 64 #[.pointer (some ⟨p.h, 0, none⟩), .int .i64 k] w fun e w' => e = .returned (.int .i64 (runInt s k)) ∧ w = w' := by
  have h5 : w.cell? ⟨p.h, 5, none⟩ = some (.int .i64 cl) := hR.st.cell (by omega)
  have h1 : w.cell? ⟨p.h, 1, none⟩ = some (.slice (some ⟨p.kb, 0, none⟩) s.n s.n) := hR.st.cell (by omega)
  have HK := Lib.hid hR.kd
  clear hR
  obtain ⟨c0, c1, c2⟩ := hC
  obtain ⟨C, rfl⟩ := Int.eq_ofNat_of_zero_le c0
  have HI : Hid (RunInv s k C 0) := RunInv.start (by omega) (fun b' hb => c2 b' (by omega))
  clear c2
  go_enter Try.func64, Try.ntmps64
  go_wp2
  go_loop [5, 6] (fun v5 v6 => ∃ m b : Nat, v5 = .int .i64 m ∧ v6 = .int .i64 b ∧ Hid (RunInv s k b m) ∧ b ≤ s.n ∧ m < k) (fun _ i => s.n - (intOf i).toNat)
  case atStart => exact ⟨0, C, rfl, rfl, HI, by omega, by omega⟩
  case round =>
    obtain ⟨m, b, rfl, rfl, hI, hb, hmk⟩ := hrel
    clear HI
    by_cases hlt : b < s.n
    · have hcell := HK.out.cell hlt
      by_cases hz : s.kind b = 0
      · have hz' := Lib.hid hz
        rw [hz] at hcell
        clear hz
        by_cases hm : m + 1 = k
        · have hm1 : ((m : Int) + 1 == (k : Int)) = true := by simp; omega
          go_wp2
          go_ret
          refine ⟨?_, rfl⟩
          have hf := hI.out.found hz'.out hlt hm
          have e : runInt s k = ((b + 1 - k : Nat) : Int) := by unfold runInt; rw [hf]
          have := hI.out.2.2.1
          rw [e]
          show Ending.returned (.int .i64 _) = _
          congr 2
          omega
        · have hm1 : ((m : Int) + 1 == (k : Int)) = false := by simp; omega
          go_wp2
          go_round
          case rel => exact ⟨m + 1, b + 1, by go_num, by go_num, hI.out.free hz'.out (by omega), by omega, by omega⟩
          case measure => simp [intOf]; omega
      · obtain ⟨K, hK⟩ : ∃ K, K = s.kind b := ⟨_, rfl⟩
        rw [← hK] at hcell
        have hne : (K == 0) = false := by rw [hK]; simpa using hz
        have hz' := Lib.hid hz
        clear hz hK
        go_wp2
        go_round
        case rel => exact ⟨0, b + 1, rfl, by go_num, hI.out.used hz'.out, by omega, by omega⟩
        case measure => simp [intOf]; omega
    · go_wp2
      go_ret
      refine ⟨?_, rfl⟩
      have : b = s.n := by omega
      subst this
      unfold runInt
      rw [hI.out.none]
      rfl

theorem WF_used_range {s : HS} (h : s.WF) {a : Int} (hu : s.used a.toNat = true) : 1 ≤ a ∧ a ≤ 32 * s.n := by
  have := h.in_ hu
  have := h.cap_pos hu
  omega
theorem cap_small {s : HS} {a : Nat} (hu : s.used a = true) (hk : s.kind ((a - 1) / 32) ≠ -1) : s.cap a = (s.kind ((a - 1) / 32)).toNat := by
  unfold HS.cap; rw [if_pos hu, if_neg hk]
theorem cap_large {s : HS} {a : Nat} (hu : s.used a = true) (hk : s.kind ((a - 1) / 32) = -1) : s.cap a = 64 := by
  unfold HS.cap; rw [if_pos hu, if_pos hk]

set_option maxHeartbeats 1000000 in
theorem cap_any {p : HP} {s : HS} {wd cn : Nat → Int} {L : List (Ent Int)} {clk : Nat} {cl : Int} (a : Int) (w : World)
    (hR : Raw w p s.n wd s.kind cn s.used L clk cl) (hwf : s.WF) (hn : s.n ≤ 2048) :
    Calls Try.prog 22 #[.pointer (some ⟨p.h, 0, none⟩), .int .i64 a] w fun e w' => e = .returned (.int .i64 (s.cap a.toNat)) ∧ w = w' := by
  have h1 : w.cell? ⟨p.h, 1, none⟩ = some (.slice (some ⟨p.kb, 0, none⟩) s.n s.n) := hR.st.cell (by omega)
  have h3 : w.cell? ⟨p.h, 3, none⟩ = some (.slice (some ⟨p.ub, 0, none⟩) (1 + 32 * s.n) (1 + 32 * s.n)) := hR.st.cell (by omega)
  have HK := Lib.hid hR.kd
  have HU := Lib.hid hR.us
  clear hR
  by_cases ha1 : a < 1
  · have hz : Hid (s.cap a.toNat = 0) := by
      apply HS.cap_none
      cases hu : s.used a.toNat with
      | false => rfl
      | true => have := WF_used_range hwf hu; omega
    go_enter Try.func22, Try.ntmps22
    go_wp2
    go_ret
    exact ⟨by rw [hz.out]; rfl, rfl⟩
  replace ha1 : 1 ≤ a := by omega
  obtain ⟨x, rfl⟩ := Int.eq_ofNat_of_zero_le (show 0 ≤ a by omega)
  simp only [Int.toNat_natCast]
  by_cases ha2 : (1 + 32 * s.n : Int) ≤ x
  · have hz : Hid (s.cap x = 0) := by
      apply HS.cap_none
      cases hu : s.used x with
      | false => rfl
      | true => have := WF_used_range hwf (a := (x : Int)) (by simpa using hu); omega
    go_enter Try.func22, Try.ntmps22
    go_wp2
    go_ret
    exact ⟨by rw [hz.out]; rfl, rfl⟩
  replace ha2 : x < 1 + 32 * s.n := by omega
  have hcu := HU.out.cell ha2
  cases hu : s.used x with
  | false =>
    have hz : Hid (s.cap x = 0) := HS.cap_none hu
    rw [hu] at hcu
    clear hu
    go_enter Try.func22, Try.ntmps22
    go_wp2
    go_ret
    exact ⟨by rw [hz.out]; rfl, rfl⟩
  | true =>
    rw [hu] at hcu
    obtain ⟨b, hb⟩ : ∃ b, b = (x - 1) / 32 := ⟨_, rfl⟩
    have hbn : b < s.n := by omega
    have hcb := HK.out.cell hbn
    have hdiv : (((x : Int) - 1) / 32) = (b : Int) := by omega
    have HD := Lib.hid hdiv
    clear hdiv
    by_cases hk : s.kind b = -1
    · have hz : Hid (s.cap x = 64) := cap_large hu (by rw [← hb]; exact hk)
      have hk1 := hwf.head b hk
      have hb1 : b + 1 < s.n := hwf.lt (by rw [hk1]; decide)
      have hcb1 := HK.out.cell hb1
      rw [hk] at hcb
      rw [hk1] at hcb1
      have h2 : Hid (∀ h : b + 2 < s.n, s.kind (b + 2) ≠ -2) := fun h he => by
        obtain ⟨b', e1, e2⟩ := hwf.tail _ he
        have : b' = b + 1 := by omega
        subst this; rw [hk1] at e2; cases e2
      clear hu hk hk1 hb HU
      go_enter Try.func22, Try.ntmps22
      go_wp2_with (first | (go_at_call 65; refine (of_any _ _ (by omega) (by omega)).mono ?_; rw [HD.out]; rintro e w' ⟨rfl, rfl⟩))
      go_loop [6] (fun v => v = .int .i64 1 ∨ v = .int .i64 2) (fun v => 2 - (intOf v).toNat)
      case atStart => exact .inl rfl
      case round =>
        rcases hrel with rfl | rfl
        · have h12 : (b : Int) + 1 < s.n := by omega
          go_wp2
          go_round
          case rel => exact .inr rfl
          case measure => simp [intOf]
        · by_cases hb2 : b + 2 < s.n
          · have hcb2 := HK.out.cell hb2
            have hk2 := h2.out hb2
            obtain ⟨K, hK⟩ : ∃ K, K = s.kind (b + 2) := ⟨_, rfl⟩
            rw [← hK] at hcb2 hk2
            have hne : (K == -2) = false := by simpa using hk2
            clear hK hk2
            go_wp2
            go_ret
            exact ⟨by rw [hz.out]; rfl, rfl⟩
          · go_wp2
            go_ret
            exact ⟨by rw [hz.out]; rfl, rfl⟩
    · obtain ⟨K, hK⟩ : ∃ K, K = s.kind b := ⟨_, rfl⟩
      have hz : Hid ((s.cap x : Int) = K) := by
        have e1 := cap_small hu (by rw [← hb]; exact hk)
        rw [← hb, ← hK] at e1
        have hp := hwf.cap_pos hu
        show (s.cap x : Int) = K
        omega
      rw [← hK] at hcb
      have hne : (K == -1) = false := by rw [hK]; simpa using hk
      have hne2 : (K != -1) = true := by rw [hK]; simpa using hk
      clear hu hk hb hK HU
      go_enter Try.func22, Try.ntmps22
      go_wp2_with (first | (go_at_call 65; refine (of_any _ _ (by omega) (by omega)).mono ?_; rw [HD.out]; rintro e w' ⟨rfl, rfl⟩))
      go_ret
      exact ⟨by rw [hz.out]; rfl, rfl⟩
end Go.Proofs.Ytjfpijoeddjgmaa
