/- HeapW1, HeapW2, HeapW3 in one text. Conditions: as each says. -/
import Derived.Test.YtjfpijoeddjgmaaProg
import Derived.Test.YtjfpijoeddjgmaaRep
import Derived.WalkSpells
import Derived.WalkLawsBesides
import Derived.Lib.Hide
import Derived.BigQuiet
import Derived.Deep.QuietTactic
import Derived.BigRegion
import Derived.StillTailTactics
/- The heap's small functions: where a block begins, which block an address lies in, the classes, taking a cell, a run of free blocks. Conditions: bounds on the numbers, as stated at each. -/
namespace Go.Proofs.Ytjfpijoeddjgmaa
open Go.RowKit Hm

theorem at_any (b : Int) (w : World) (h0 : 0 ≤ b) (h1 : b ≤ 100000) :
    Calls Try.prog 90 #[.int .i64 b] w fun e w' => e = .returned (.int .i64 (1 + b * 32)) ∧ w = w' := by
  go_enter Try.func90, Try.ntmps90
  go_wp2
  go_ret
  exact ⟨rfl, rfl⟩
theorem of_any (a : Int) (w : World) (h0 : 1 ≤ a) (h1 : a ≤ 10000000) :
    Calls Try.prog 65 #[.int .i64 a] w fun e w' => e = .returned (.int .i64 ((a - 1) / 32)) ∧ w = w' := by
  go_enter Try.func65, Try.ntmps65
  go_wp2
  go_ret
  exact ⟨rfl, rfl⟩
theorem classes_any (w : World) :
    Calls Try.prog 91 #[] w fun e w' => e = .returned (.slice (some ⟨w.heap.size, 0, none⟩) 5 5) ∧ w.alloc (.cells #[.int .i64 2, .int .i64 4, .int .i64 8, .int .i64 16, .int .i64 32] 3) = w' := by
  go_enter Try.func91, Try.ntmps91
  go_wp2
  go_ret
  exact ⟨rfl, rfl⟩

def clsAt (k : Nat) : Nat := 2 ^ (k + 1)
theorem cls_at {n k : Nat} (hk : k < 5) (h1 : n ≤ clsAt k) (h2 : ∀ j, j < k → clsAt j < n) : cls n = clsAt k := by
  unfold clsAt at *
  unfold cls
  match k, hk with
  | 0, _ => rw [if_pos (by omega)]
  | 1, _ => have := h2 0 (by omega); rw [if_neg (by omega), if_pos (by omega)]
  | 2, _ => have := h2 1 (by omega); rw [if_neg (by omega), if_neg (by omega), if_pos (by omega)]
  | 3, _ => have := h2 2 (by omega); rw [if_neg (by omega), if_neg (by omega), if_neg (by omega), if_pos (by omega)]
  | 4, _ => have := h2 3 (by omega); rw [if_neg (by omega), if_neg (by omega), if_neg (by omega), if_neg (by omega)]

set_option maxHeartbeats 400000 in
theorem class_any (n : Nat) (w : World) (h1 : 1 ≤ n) (h2 : n ≤ 32) :
    Calls Try.prog 62 #[.int .i64 n] w fun e w' => e = .returned (.int .i64 (cls n)) ∧ Below w.heap.size w w' := by
  go_enter Try.func62, Try.ntmps62
  go_wp2_with (first | (go_at_call 91; refine (classes_any _).mono ?_; rintro e w' ⟨rfl, rfl⟩))
  go_loop [7] (fun i => ∃ k : Nat, k < 5 ∧ i = .int .i64 k ∧ Hid (∀ j, j < k → clsAt j < n)) (fun i => 5 - (intOf i).toNat)
  case atStart => exact ⟨0, by omega, rfl, fun j hj => by omega⟩
  case round =>
    obtain ⟨k, hk, rfl, hlow⟩ := hrel
    obtain ⟨C, hC⟩ : ∃ C, C = clsAt k := ⟨_, rfl⟩
    have hcell : (w.alloc (.cells #[.int .i64 2, .int .i64 4, .int .i64 8, .int .i64 16, .int .i64 32] 3)).cell? ⟨w.heap.size, k, none⟩ = some (.int .i64 C) := by
      subst hC
      match k, hk with
      | 0, _ => simp [World.cell?_alloc_new, clsAt]
      | 1, _ => simp [World.cell?_alloc_new, clsAt]
      | 2, _ => simp [World.cell?_alloc_new, clsAt]
      | 3, _ => simp [World.cell?_alloc_new, clsAt]
      | 4, _ => simp [World.cell?_alloc_new, clsAt]
    have HC := Lib.hid hC
    clear hC
    by_cases hn : n ≤ C
    · go_wp2
      go_ret
      exact ⟨by rw [cls_at hk (by rw [← HC.out]; exact hn) hlow.out, ← HC.out]; rfl, (Below.refl _ _).alloc (Nat.le_refl _) _⟩
    · have hk4 : k < 4 := by
        rcases Nat.lt_or_ge k 4 with h | h
        · exact h
        · have : k = 4 := by omega
          subst this
          have := HC.out
          simp [clsAt] at this
          omega
      go_wp2
      go_round
      case rel =>
        refine ⟨k + 1, by omega, by go_num, ?_⟩
        intro j hj
        rcases Nat.lt_or_ge j k with h | h
        · exact hlow.out j h
        · have : j = k := by omega
          subst this
          rw [← HC.out]; omega
      case measure => simp [intOf]; omega

set_option maxHeartbeats 400000 in
theorem take_raw {p : HP} {nb : Nat} {wd kd cn : Nat → Int} {us : Nat → Bool} {L : List (Ent Int)} {clk : Nat} {cl : Int} (b c j0 : Nat) (w : World)
    (hR : Raw w p nb wd kd cn us L clk cl) (hb : b < nb) (hnb : nb ≤ 2048) (hc : isCls c) (hj : c * j0 < 32) (hcnt : 0 ≤ cn b) (hcnt2 : cn b ≤ 32)
    (hne : ∀ j, j < j0 → us (1 + 32 * b + c * j) = true) (hfree : us (1 + 32 * b + c * j0) = false) :
    Calls Try.prog 63 #[.pointer (some ⟨p.h, 0, none⟩), .int .i64 b, .int .i64 c] w fun e w' =>
      e = .returned (.int .i64 ((1 + 32 * b + c * j0 : Nat) : Int)) ∧ Raw w' p nb wd kd (upd cn b (cn b + 1)) (upd us (1 + 32 * b + c * j0) true) L clk cl ∧ Fr p.mine w w' := by
  have fin : ∀ e w', (e = Ending.returned (.int .i64 ((1 + b * 32 + c * j0 : Nat) : Int)) ∧ w' = (w.setCell ⟨p.ub, 1 + b * 32 + c * j0, none⟩ (.bool true)).setCell ⟨p.cb, b, none⟩ (.int .i64 (cn b + 1))) →
      e = .returned (.int .i64 ((1 + 32 * b + c * j0 : Nat) : Int)) ∧ Raw w' p nb wd kd (upd cn b (cn b + 1)) (upd us (1 + 32 * b + c * j0) true) L clk cl ∧ Fr p.mine w w' := by
    rintro e w' ⟨rfl, rfl⟩
    rw [show 1 + b * 32 + c * j0 = 1 + 32 * b + c * j0 by omega]
    exact ⟨rfl, (hR.setUsed _ _).setCnt _ _, ((Fr.refl _ w).setCell (by simp [HP.mine]) _).setCell (by simp [HP.mine]) _⟩
  refine Calls.mono ?_ fin
  clear fin
  have hend := hc.end_le hj
  have h2 : w.cell? ⟨p.h, 2, none⟩ = some (.slice (some ⟨p.cb, 0, none⟩) nb nb) := hR.st.cell (by omega)
  have h3 : w.cell? ⟨p.h, 3, none⟩ = some (.slice (some ⟨p.ub, 0, none⟩) (1 + 32 * nb) (1 + 32 * nb)) := hR.st.cell (by omega)
  have hcb : w.cell? ⟨p.cb, b, none⟩ = some (.int .i64 (cn b)) := hR.cn.cell hb
  have hf1 := hR.us.frozen
  have hf2 := hR.cn.frozen b
  have hub : p.ub ≠ p.h := hR.ok.h4.symm
  have huc : p.ub ≠ p.cb := hR.ok.c1.symm
  have HU := Lib.hid hR.us
  have HNE := Lib.hid hne
  have hfree' : us (1 + b * 32 + c * j0) = false := by rw [← hfree]; congr 1; omega
  clear hne hR hfree
  have hcp := hc.pos
  have hcl := hc.le
  clear hc
  go_enter Try.func63, Try.ntmps63
  go_wp2_with (first | (go_at_call 90; refine (at_any _ _ (by omega) (by omega)).mono ?_; rintro e w' ⟨rfl, rfl⟩))
  go_loop [7] (fun a => ∃ j : Nat, j ≤ j0 ∧ a = .int .i64 ((1 + b * 32 + c * j : Nat) : Int)) (fun a => 1 + b * 32 + 32 - (intOf a).toNat)
  case atStart => exact ⟨0, Nat.zero_le _, by go_num⟩
  case round =>
    obtain ⟨j, hjj, rfl⟩ := hrel
    have hjc : c * j ≤ c * j0 := Nat.mul_le_mul_left _ hjj
    have hcell := HU.out.cell (i := 1 + b * 32 + c * j) (by omega)
    by_cases hlast : j = j0
    · subst hlast
      rw [hfree'] at hcell
      go_wp2_with (first | (go_at_call 90; refine (at_any _ _ (by omega) (by omega)).mono ?_; rintro e w' ⟨rfl, rfl⟩))
      go_ret
      exact ⟨by go_num, rfl⟩
    · have hlt : j < j0 := by omega
      rw [show 1 + b * 32 + c * j = 1 + 32 * b + c * j by omega, HNE.out j hlt, show 1 + 32 * b + c * j = 1 + b * 32 + c * j by omega] at hcell
      have hmul : c * j + c ≤ c * j0 := HS.mul_apart hlt
      go_wp2_with (first | (go_at_call 90; refine (at_any _ _ (by omega) (by omega)).mono ?_; rintro e w' ⟨rfl, rfl⟩))
      go_round
      case rel => exact ⟨j + 1, by omega, by rw [Nat.mul_add]; go_num⟩
      case measure => simp [intOf]; omega
end Go.Proofs.Ytjfpijoeddjgmaa

/- The heap: the first run of free blocks; Cap. Conditions: the heap's memory reads as the plain model says. -/
namespace Go.Proofs.Ytjfpijoeddjgmaa
open Go.RowKit Hm

/-- What the search for a run knows at block b, the last m of which are free. -/
def RunInv (s : HS) (k b m : Nat) : Prop :=
  (∀ b', b' + k ≤ b → ∃ i, i < k ∧ s.kind (b' + i) ≠ 0) ∧ (∀ i, i < m → s.kind (b - 1 - i) = 0) ∧ m ≤ b ∧ (m < b → s.kind (b - m - 1) ≠ 0) ∧ m < k
theorem RunInv.start {s : HS} {k b : Nat} (hk : 0 < k) (h : ∀ b', b' < b → s.kind b' ≠ 0) : RunInv s k b 0 :=
  ⟨fun b' hb => ⟨0, hk, h _ (by omega)⟩, fun _ h => by omega, by omega, fun hb => h _ (by omega), hk⟩
theorem RunInv.used {s : HS} {k b m : Nat} (h : RunInv s k b m) (hb : s.kind b ≠ 0) : RunInv s k (b + 1) 0 := by
  obtain ⟨h1, h2, h3, h4, h5⟩ := h
  refine ⟨fun b' hb' => ?_, fun _ h => by omega, by omega, fun _ => hb, by omega⟩
  by_cases he : b' + k ≤ b
  · exact h1 b' he
  · exact ⟨k - 1, by omega, by rw [show b' + (k - 1) = b by omega]; exact hb⟩
theorem RunInv.free {s : HS} {k b m : Nat} (h : RunInv s k b m) (hb : s.kind b = 0) (hm : m + 1 < k) : RunInv s k (b + 1) (m + 1) := by
  obtain ⟨h1, h2, h3, h4, h5⟩ := h
  refine ⟨fun b' hb' => ?_, fun i hi => ?_, by omega, fun hlt => ?_, hm⟩
  · by_cases he : b' + k ≤ b
    · exact h1 b' he
    · have := h4 (by omega)
      refine ⟨b - m - 1 - b', by omega, ?_⟩
      rw [show b' + (b - m - 1 - b') = b - m - 1 by omega]; exact this
  · by_cases h0 : i = 0
    · subst h0; simpa using hb
    · have := h2 (i - 1) (by omega)
      rw [show b + 1 - 1 - i = b - 1 - (i - 1) by omega]; exact this
  · have := h4 (by omega)
    rw [show b + 1 - (m + 1) - 1 = b - m - 1 by omega]; exact this
theorem RunInv.found {s : HS} {k b m : Nat} (h : RunInv s k b m) (hb : s.kind b = 0) (hbn : b < s.n) (hm : m + 1 = k) : s.run k = some (b + 1 - k) := by
  obtain ⟨h1, h2, h3, h4, h5⟩ := h
  refine HS.run_of (by omega) (fun i hi => ?_) (fun b' hb' => h1 b' (by omega))
  by_cases h0 : i = k - 1
  · rw [show b + 1 - k + i = b by omega]; exact hb
  · have := h2 (m - 1 - i) (by omega)
    rw [show b - 1 - (m - 1 - i) = b + 1 - k + i by omega] at this; exact this
theorem RunInv.none {s : HS} {k m : Nat} (h : RunInv s k s.n m) : s.run k = none := HS.run_no h.1

def runInt (s : HS) (k : Nat) : Int := match s.run k with | some b => (b : Int) | none => -1

set_option maxHeartbeats 400000 in
theorem run_any {p : HP} {s : HS} {wd cn : Nat → Int} {us : Nat → Bool} {L : List (Ent Int)} {clk : Nat} {cl : Int} (k : Nat) (w : World)
    (hR : Raw w p s.n wd s.kind cn us L clk cl) (hC : s.HintC cl) (hn : s.n ≤ 2048) (hk : 1 ≤ k) (hk2 : k ≤ 2) :
    Calls Try.prog 64 #[.pointer (some ⟨p.h, 0, none⟩), .int .i64 k] w fun e w' => e = .returned (.int .i64 (runInt s k)) ∧ w = w' := by
  have h5 : w.cell? ⟨p.h, 5, none⟩ = some (.int .i64 cl) := hR.st.cell (by omega)
  have h1 : w.cell? ⟨p.h, 1, none⟩ = some (.slice (some ⟨p.kb, 0, none⟩) s.n s.n) := hR.st.cell (by omega)
  have HK := Lib.hid hR.kd
  clear hR
  obtain ⟨c0, c1, c2⟩ := hC
  obtain ⟨C, rfl⟩ := Int.eq_ofNat_of_zero_le c0
  have HI : Hid (RunInv s k C 0) := RunInv.start (by omega) (fun b' hb => c2 b' (by omega))
  clear c2
  go_enter Try.func64, Try.ntmps64
  go_wp2
  go_loop [5, 6] (fun v5 v6 => ∃ m b : Nat, v5 = .int .i64 m ∧ v6 = .int .i64 b ∧ Hid (RunInv s k b m) ∧ b ≤ s.n ∧ m < k) (fun _ i => s.n - (intOf i).toNat)
  case atStart => exact ⟨0, C, rfl, rfl, HI, by omega, by omega⟩
  case round =>
    obtain ⟨m, b, rfl, rfl, hI, hb, hmk⟩ := hrel
    clear HI
    by_cases hlt : b < s.n
    · have hcell := HK.out.cell hlt
      by_cases hz : s.kind b = 0
      · have hz' := Lib.hid hz
        rw [hz] at hcell
        clear hz
        by_cases hm : m + 1 = k
        · have hm1 : ((m : Int) + 1 == (k : Int)) = true := by simp; omega
          go_wp2
          go_ret
          refine ⟨?_, rfl⟩
          have hf := hI.out.found hz'.out hlt hm
          have e : runInt s k = ((b + 1 - k : Nat) : Int) := by unfold runInt; rw [hf]
          have := hI.out.2.2.1
          rw [e]
          show Ending.returned (.int .i64 _) = _
          congr 2
          omega
        · have hm1 : ((m : Int) + 1 == (k : Int)) = false := by simp; omega
          go_wp2
          go_round
          case rel => exact ⟨m + 1, b + 1, by go_num, by go_num, hI.out.free hz'.out (by omega), by omega, by omega⟩
          case measure => simp [intOf]; omega
      · obtain ⟨K, hK⟩ : ∃ K, K = s.kind b := ⟨_, rfl⟩
        rw [← hK] at hcell
        have hne : (K == 0) = false := by rw [hK]; simpa using hz
        have hz' := Lib.hid hz
        clear hz hK
        go_wp2
        go_round
        case rel => exact ⟨0, b + 1, rfl, by go_num, hI.out.used hz'.out, by omega, by omega⟩
        case measure => simp [intOf]; omega
    · go_wp2
      go_ret
      refine ⟨?_, rfl⟩
      have : b = s.n := by omega
      subst this
      unfold runInt
      rw [hI.out.none]
      rfl

theorem WF_used_range {s : HS} (h : s.WF) {a : Int} (hu : s.used a.toNat = true) : 1 ≤ a ∧ a ≤ 32 * s.n := by
  have := h.in_ hu
  have := h.cap_pos hu
  omega
theorem cap_small {s : HS} {a : Nat} (hu : s.used a = true) (hk : s.kind ((a - 1) / 32) ≠ -1) : s.cap a = (s.kind ((a - 1) / 32)).toNat := by
  unfold HS.cap; rw [if_pos hu, if_neg hk]
theorem cap_large {s : HS} {a : Nat} (hu : s.used a = true) (hk : s.kind ((a - 1) / 32) = -1) : s.cap a = 64 := by
  unfold HS.cap; rw [if_pos hu, if_pos hk]

set_option maxHeartbeats 1000000 in
theorem cap_any {p : HP} {s : HS} {wd cn : Nat → Int} {L : List (Ent Int)} {clk : Nat} {cl : Int} (a : Int) (w : World)
    (hR : Raw w p s.n wd s.kind cn s.used L clk cl) (hwf : s.WF) (hn : s.n ≤ 2048) :
    Calls Try.prog 22 #[.pointer (some ⟨p.h, 0, none⟩), .int .i64 a] w fun e w' => e = .returned (.int .i64 (s.cap a.toNat)) ∧ w = w' := by
  have h1 : w.cell? ⟨p.h, 1, none⟩ = some (.slice (some ⟨p.kb, 0, none⟩) s.n s.n) := hR.st.cell (by omega)
  have h3 : w.cell? ⟨p.h, 3, none⟩ = some (.slice (some ⟨p.ub, 0, none⟩) (1 + 32 * s.n) (1 + 32 * s.n)) := hR.st.cell (by omega)
  have HK := Lib.hid hR.kd
  have HU := Lib.hid hR.us
  clear hR
  by_cases ha1 : a < 1
  · have hz : Hid (s.cap a.toNat = 0) := by
      apply HS.cap_none
      cases hu : s.used a.toNat with
      | false => rfl
      | true => have := WF_used_range hwf hu; omega
    go_enter Try.func22, Try.ntmps22
    go_wp2
    go_ret
    exact ⟨by rw [hz.out]; rfl, rfl⟩
  replace ha1 : 1 ≤ a := by omega
  obtain ⟨x, rfl⟩ := Int.eq_ofNat_of_zero_le (show 0 ≤ a by omega)
  simp only [Int.toNat_natCast]
  by_cases ha2 : (1 + 32 * s.n : Int) ≤ x
  · have hz : Hid (s.cap x = 0) := by
      apply HS.cap_none
      cases hu : s.used x with
      | false => rfl
      | true => have := WF_used_range hwf (a := (x : Int)) (by simpa using hu); omega
    go_enter Try.func22, Try.ntmps22
    go_wp2
    go_ret
    exact ⟨by rw [hz.out]; rfl, rfl⟩
  replace ha2 : x < 1 + 32 * s.n := by omega
  have hcu := HU.out.cell ha2
  cases hu : s.used x with
  | false =>
    have hz : Hid (s.cap x = 0) := HS.cap_none hu
    rw [hu] at hcu
    clear hu
    go_enter Try.func22, Try.ntmps22
    go_wp2
    go_ret
    exact ⟨by rw [hz.out]; rfl, rfl⟩
  | true =>
    rw [hu] at hcu
    obtain ⟨b, hb⟩ : ∃ b, b = (x - 1) / 32 := ⟨_, rfl⟩
    have hbn : b < s.n := by omega
    have hcb := HK.out.cell hbn
    have hdiv : (((x : Int) - 1) / 32) = (b : Int) := by omega
    have HD := Lib.hid hdiv
    clear hdiv
    by_cases hk : s.kind b = -1
    · have hz : Hid (s.cap x = 64) := cap_large hu (by rw [← hb]; exact hk)
      have hk1 := hwf.head b hk
      have hb1 : b + 1 < s.n := hwf.lt (by rw [hk1]; decide)
      have hcb1 := HK.out.cell hb1
      rw [hk] at hcb
      rw [hk1] at hcb1
      have h2 : Hid (∀ h : b + 2 < s.n, s.kind (b + 2) ≠ -2) := fun h he => by
        obtain ⟨b', e1, e2⟩ := hwf.tail _ he
        have : b' = b + 1 := by omega
        subst this; rw [hk1] at e2; cases e2
      clear hu hk hk1 hb HU
      go_enter Try.func22, Try.ntmps22
      go_wp2_with (first | (go_at_call 65; refine (of_any _ _ (by omega) (by omega)).mono ?_; rw [HD.out]; rintro e w' ⟨rfl, rfl⟩))
      go_loop [6] (fun v => v = .int .i64 1 ∨ v = .int .i64 2) (fun v => 2 - (intOf v).toNat)
      case atStart => exact .inl rfl
      case round =>
        rcases hrel with rfl | rfl
        · have h12 : (b : Int) + 1 < s.n := by omega
          go_wp2
          go_round
          case rel => exact .inr rfl
          case measure => simp [intOf]
        · by_cases hb2 : b + 2 < s.n
          · have hcb2 := HK.out.cell hb2
            have hk2 := h2.out hb2
            obtain ⟨K, hK⟩ : ∃ K, K = s.kind (b + 2) := ⟨_, rfl⟩
            rw [← hK] at hcb2 hk2
            have hne : (K == -2) = false := by simpa using hk2
            clear hK hk2
            go_wp2
            go_ret
            exact ⟨by rw [hz.out]; rfl, rfl⟩
          · go_wp2
            go_ret
            exact ⟨by rw [hz.out]; rfl, rfl⟩
    · obtain ⟨K, hK⟩ : ∃ K, K = s.kind b := ⟨_, rfl⟩
      have hz : Hid ((s.cap x : Int) = K) := by
        have e1 := cap_small hu (by rw [← hb]; exact hk)
        rw [← hb, ← hK] at e1
        have hp := hwf.cap_pos hu
        show (s.cap x : Int) = K
        omega
      rw [← hK] at hcb
      have hne : (K == -1) = false := by rw [hK]; simpa using hk
      have hne2 : (K != -1) = true := by rw [hK]; simpa using hk
      clear hu hk hb hK HU
      go_enter Try.func22, Try.ntmps22
      go_wp2_with (first | (go_at_call 65; refine (of_any _ _ (by omega) (by omega)).mono ?_; rw [HD.out]; rintro e w' ⟨rfl, rfl⟩))
      go_ret
      exact ⟨by rw [hz.out]; rfl, rfl⟩
end Go.Proofs.Ytjfpijoeddjgmaa

/- The heap: Read, Write, a large cell. Conditions: the heap's memory reads as the plain model says. -/
namespace Go.Proofs.Ytjfpijoeddjgmaa
open Go.RowKit Hm

/-- There is a word i in the cell at a. -/
def HS.has (s : HS) (a i : Int) : Prop := 0 ≤ i ∧ i < s.cap a.toNat
instance (s : HS) (a i : Int) : Decidable (HS.has s a i) := by unfold HS.has; exact inferInstance
theorem HS.has_pos {s : HS} (h : s.WF) {a i : Int} (hh : HS.has s a i) : 1 ≤ a ∧ a + i < 1 + 32 * s.n := by
  obtain ⟨h0, h1⟩ := hh
  have hu : s.used a.toNat = true := by
    cases hu : s.used a.toNat with
    | true => rfl
    | false => rw [HS.cap_none hu] at h1; omega
  have := h.in_ hu
  have := WF_used_range h hu
  omega

set_option maxHeartbeats 400000 in
theorem read_any {p : HP} {s : HS} (a i : Int) (w : World) (hA : HeapAt w p s) :
    Calls Try.prog 23 #[.pointer (some ⟨p.h, 0, none⟩), .int .i64 a, .int .i64 i] w fun e w' =>
      e = .returned (if HS.has s a i then .tuple #[.int .u64 (s.word (a.toNat + i.toNat)), .int .i64 0] else .tuple #[.int .u64 0, .int .i64 1]) ∧ w = w' := by
  obtain ⟨L, clk, cl, hR, hwf, _, _, hn1, hn2⟩ := hA
  have h0 : w.cell? ⟨p.h, 0, none⟩ = some (.slice (some ⟨p.wb, 0, none⟩) (1 + 32 * s.n) (1 + 32 * s.n)) := hR.st.cell (by omega)
  by_cases hh : HS.has s a i
  · rw [if_pos hh]
    have hp := HS.has_pos hwf hh
    obtain ⟨hi0, hi1⟩ := hh
    obtain ⟨x, rfl⟩ := Int.eq_ofNat_of_zero_le (show 0 ≤ a by omega)
    obtain ⟨k, rfl⟩ := Int.eq_ofNat_of_zero_le hi0
    simp only [Int.toNat_natCast] at hi1 ⊢
    have hc := hR.wd.cell (i := x + k) (by omega)
    obtain ⟨C, hC⟩ : ∃ C, C = s.cap x := ⟨_, rfl⟩
    have hi2 : k < C := by omega
    have hcap := fun w hR => cap_any (p := p) (s := s) (wd := s.word) (cn := fun b => (s.cnt b : Int)) (L := L) (clk := clk) (cl := cl) (x : Int) w hR hwf hn2
    simp only [Int.toNat_natCast, ← hC] at hcap
    have HCAP := Lib.hid hcap
    have HR := Lib.hid hR
    have HC := Lib.hid hC
    clear hcap hC hR hi1
    go_enter Try.func23, Try.ntmps23
    go_wp2_with (first | (go_at_call 22; refine (HCAP.out _ HR.out).mono ?_; rintro e w' ⟨rfl, rfl⟩))
    go_ret2
    exact ⟨rfl, rfl⟩
  · rw [if_neg hh]
    have HH := Lib.hid hh
    clear hh
    by_cases hi0 : i < 0
    · go_enter Try.func23, Try.ntmps23
      go_wp2
      go_ret2
      exact ⟨rfl, rfl⟩
    · obtain ⟨C, hC⟩ : ∃ C, C = s.cap a.toNat := ⟨_, rfl⟩
      have hi2 : (C : Int) ≤ i := by
        have := HH.out
        unfold HS.has at this
        rw [hC]; omega
      have hcap := fun w hR => cap_any (p := p) (s := s) (wd := s.word) (cn := fun b => (s.cnt b : Int)) (L := L) (clk := clk) (cl := cl) a w hR hwf hn2
      simp only [← hC] at hcap
      have HCAP := Lib.hid hcap
      have HR := Lib.hid hR
      have HC := Lib.hid hC
      clear hcap hC hR
      go_enter Try.func23, Try.ntmps23
      go_wp2_with (first | (go_at_call 22; refine (HCAP.out _ HR.out).mono ?_; rintro e w' ⟨rfl, rfl⟩))
      go_ret2
      exact ⟨rfl, rfl⟩

theorem HeapAt.write {w : World} {p : HP} {s : HS} (hA : HeapAt w p s) {a i : Nat} {v : Int} (hi : i < s.cap a) (hv : 0 ≤ v ∧ v < 18446744073709551616) :
    HeapAt (w.setCell ⟨p.wb, a + i, none⟩ (.int .u64 v)) p (s.write a i v) := by
  obtain ⟨L, clk, cl, hR, hwf, hf, hc, hn⟩ := hA
  exact ⟨L, clk, cl, hR.setWord (a + i) v, hwf.write hi hv, hf, hc, hn⟩

set_option maxHeartbeats 400000 in
theorem write_any {p : HP} {s : HS} (a i v : Int) (w : World) (hA : HeapAt w p s) (hv : 0 ≤ v ∧ v < 18446744073709551616) :
    Calls Try.prog 24 #[.pointer (some ⟨p.h, 0, none⟩), .int .i64 a, .int .i64 i, .int .u64 v] w fun e w' =>
      e = .returned (.int .i64 (if HS.has s a i then 0 else 1)) ∧ HeapAt w' p (if HS.has s a i then s.write a.toNat i.toNat v else s) ∧ Fr p.mine w w' := by
  have hA' := hA
  obtain ⟨L, clk, cl, hR, hwf, _, _, hn1, hn2⟩ := hA
  have h0 : w.cell? ⟨p.h, 0, none⟩ = some (.slice (some ⟨p.wb, 0, none⟩) (1 + 32 * s.n) (1 + 32 * s.n)) := hR.st.cell (by omega)
  by_cases hh : HS.has s a i
  · rw [if_pos hh, if_pos hh]
    have hp := HS.has_pos hwf hh
    obtain ⟨hi0, hi1⟩ := hh
    obtain ⟨x, rfl⟩ := Int.eq_ofNat_of_zero_le (show 0 ≤ a by omega)
    obtain ⟨k, rfl⟩ := Int.eq_ofNat_of_zero_le hi0
    simp only [Int.toNat_natCast] at hi1 ⊢
    have HA' := Lib.hid (hA'.write (a := x) (i := k) (v := v) (by omega) hv)
    have hc := hR.wd.cell (i := x + k) (by omega)
    have hfz := hR.wd.frozen (x + k)
    obtain ⟨C, hC⟩ : ∃ C, C = s.cap x := ⟨_, rfl⟩
    have hi2 : k < C := by omega
    have hcap := fun w hR => cap_any (p := p) (s := s) (wd := s.word) (cn := fun b => (s.cnt b : Int)) (L := L) (clk := clk) (cl := cl) (x : Int) w hR hwf hn2
    simp only [Int.toNat_natCast, ← hC] at hcap
    have HCAP := Lib.hid hcap
    have HR := Lib.hid hR
    have HC := Lib.hid hC
    clear hcap hC hR hi1 hA'
    go_enter Try.func24, Try.ntmps24
    go_wp2_with (first | (go_at_call 22; refine (HCAP.out _ HR.out).mono ?_; rintro e w' ⟨rfl, rfl⟩))
    go_ret
    exact ⟨rfl, HA'.out, (Fr.refl _ w).setCell (by simp [HP.mine]) _⟩
  · rw [if_neg hh, if_neg hh]
    have HA' := Lib.hid hA'
    clear hA'
    have HH := Lib.hid hh
    clear hh
    by_cases hi0 : i < 0
    · go_enter Try.func24, Try.ntmps24
      go_wp2
      go_ret
      exact ⟨rfl, HA'.out, Fr.refl _ _⟩
    · obtain ⟨C, hC⟩ : ∃ C, C = s.cap a.toNat := ⟨_, rfl⟩
      have hi2 : (C : Int) ≤ i := by
        have := HH.out
        unfold HS.has at this
        rw [hC]; omega
      have hcap := fun w hR => cap_any (p := p) (s := s) (wd := s.word) (cn := fun b => (s.cnt b : Int)) (L := L) (clk := clk) (cl := cl) a w hR hwf hn2
      simp only [← hC] at hcap
      have HCAP := Lib.hid hcap
      have HR := Lib.hid hR
      have HC := Lib.hid hC
      clear hcap hC hR
      go_enter Try.func24, Try.ntmps24
      go_wp2_with (first | (go_at_call 22; refine (HCAP.out _ HR.out).mono ?_; rintro e w' ⟨rfl, rfl⟩))
      go_ret
      exact ⟨rfl, HA'.out, Fr.refl _ _⟩
end Go.Proofs.Ytjfpijoeddjgmaa
