/- Law 20, CollectArgs: with roots that tell of no closure, or without room, nothing is given back. No condition. -/
import Derived.Test.YtjfpijoeddjgmaaLives20
namespace Go.Proofs.Ytjfpijoeddjgmaa
open Go.RowKit Hm
set_option linter.unusedVariables false
theorem i64_wf {z : Int} (h : (Lit.int .i64 z).wf = true) : -9223372036854775808 ≤ z ∧ z < 9223372036854775808 := by
  simp only [Lit.wf, IntKind.min, IntKind.max, IntKind.signed, IntKind.bits, Bool.and_eq_true, decide_eq_true_eq, if_true] at h
  omega
theorem NodesAt.below {w w' : World} {v : Value} {nds : List Nd} (h : NodesAt w v nds) (hb : Below w.heap.size w w') : NodesAt w' v nds := by
  obtain ⟨ao, cap, rfl, hc, hok⟩ := h
  refine ⟨ao, cap, rfl, hc.imp id ?_, hok⟩
  rintro ⟨b, off, rfl, h1, h2⟩
  exact ⟨b, off, rfl, Nat.lt_of_lt_of_le h1 hb.size, fun i hi c hc => (Fr.of_below (S := fun _ => False) hb).cell (h2 i hi c hc) id⟩
theorem lives_from20 {B : Nat} {w : World} (hB : B = w.heap.size) : ∀ W, Below B w W → Calls Try.prog 27 #[] W fun e w' => e = .returned (.bool true) ∧ Hid (Below B w w' ∧ B ≤ w'.heap.size) := by
  intro W hW
  refine (lives20 W).mono ?_
  rintro e w' ⟨rfl, h⟩
  have hs : B ≤ W.heap.size := by rw [hB]; exact hW.size
  exact ⟨rfl, hW.trans (h.mono hs), Nat.le_trans hs h.size⟩
/-- A store that a law has laid into a world of its own. -/
theorem lay20_from {B : Nat} {w : World} (hB : B = w.heap.size) {v : Value} {nds : List Nd} {kinds : Nat} (hv : NodesAt w v nds) (hl : nds.length ≤ 100) (hk : 0 < kinds ∧ kinds ≤ 6) : ∀ W, Below B w W → Calls Try.prog 28 #[v, .int .i64 kinds] W fun e w' => ∃ q p ao cap, e = .returned (.tuple #[.pointer (some ⟨q.sp, 0, none⟩), .slice ao nds.length cap]) ∧
      Hid (∃ B3 s, LaidAt B w w' q p sorts20 kinds nds (fun j r => tad sorts20 kinds nds j r) ao nds.length cap B3 s) := by
  intro W hW
  have hs : B ≤ W.heap.size := by rw [hB]; exact hW.size
  refine (lay20_any (hv.below (by rw [← hB]; exact hW)) hl hk).mono ?_
  rintro e w' ⟨q, p, ao, cap, rfl, h⟩
  obtain ⟨B3, s, hL⟩ := h.out
  refine ⟨q, p, ao, cap, rfl, B3, s, ⟨⟨⟨fun k hk => Nat.le_trans hs (hL.sto.own.mine k hk), hL.sto.own.at', hW.trans (hL.sto.own.below.mono hs), Nat.le_trans hs hL.sto.own.size⟩, hL.sto.sto, hL.sto.sep, ⟨Nat.le_trans hs hL.sto.low.1, Nat.le_trans hs hL.sto.low.2⟩⟩, hL.net, hL.row, hL.len, ⟨hL.above.1, hL.above.2.1, hL.above.2.2.1, Nat.le_trans hs hL.above.2.2.2⟩⟩⟩

/-- The net is closed. -/
theorem net_closed {kinds : Nat} {nds : List Nd} {s : HS} (h : Net sorts20 kinds nds (fun j r => tad sorts20 kinds nds j r) s) (hk : 0 < kinds ∧ kinds ≤ 6) (hn : ∀ x ∈ nds, x.Ok) : ∀ p, okAt sorts20 s p → ∀ q ∈ ptrAt sorts20 s p, q ≠ 0 → okAt sorts20 s q := by
  intro p hp q hq hq0
  obtain ⟨j, hj, rfl⟩ := h.only hp
  have htl : ∀ r, tgt nds j r ≤ nds.length := fun r => by
    unfold tgt
    have h1 := Int.emod_lt_of_pos (rawOf (nd nds j) r) (show (0 : Int) < (nds.length : Int) + 1 by omega)
    omega
  have hadr : ∀ i, i < nds.length → adr sorts20 kinds nds i < 9000 := fun i hi => by
    have := (h.wf.in_ (h.used i hi)).2
    rw [h.n] at this
    omega
  have htad : ∀ r : Nat, (0 : Int) ≤ (tad sorts20 kinds nds j r : Int) ∧ (tad sorts20 kinds nds j r : Int) < 9223372036854775808 := fun r => by
    have := htl r
    unfold tad
    split
    · have := hadr (tgt nds j r - 1) (by omega); omega
    · omega
  rw [h.ptrs sorts20_lay hk.1 (by rw [len20]; exact hk.2) hn hj (fun r _ => htad r)] at hq
  obtain ⟨r, _, rfl⟩ := List.mem_map.1 hq
  have := htl r
  have hq0' : (tad sorts20 kinds nds j r : Int) ≠ 0 := hq0
  unfold tad at hq0' ⊢
  split at hq0'
  · rename_i ht
    rw [if_pos ht]
    exact h.ok sorts20_lay hk.1 (by rw [len20]; exact hk.2) hn (by omega)
  · exact absurd rfl hq0'

namespace collectArgs
set_option maxRecDepth 100000 in
set_option maxHeartbeats 8000000 in
theorem walk (v : Value) (nds : List Nd) (addr most : Int) (w : World) (hv : NodesAt w v nds) (ha : -9223372036854775808 ≤ addr ∧ addr < 9223372036854775808) (hmo : -9223372036854775808 ≤ most ∧ most < 9223372036854775808) : Calls Try.prog 18 #[v, .int .i64 addr, .int .i64 most] w fun e w' => e = .returned (.bool true) ∧ Below w.heap.size w w' := by
  obtain ⟨B, hB⟩ : ∃ B, B = w.heap.size := ⟨_, rfl⟩
  rw [← hB]
  have HL := Lib.hid (lives_from20 hB)
  have HW := Lib.hid (Below.refl B w)
  have hok := hv
  obtain ⟨vo, vcap, rfl, _, hok⟩ := hok
  have HOK := Lib.hid hok
  have HLAY := fun h => Lib.hid (lay20_from hB hv (kinds := 5) h ⟨by decide, by decide⟩)
  have HLAY' := Lib.hid HLAY
  clear hB hv hok HLAY
  obtain ⟨n, hn⟩ : ∃ n, n = nds.length := ⟨_, rfl⟩
  rw [← hn] at HLAY' ⊢
  have HN := Lib.hid hn
  clear hn
  by_cases hlong : 80 < n
  · go_enter Try.func18, Try.ntmps18
    go_wp2_with fail
    refine (HL.out _ HW.out).mono ?_
    rintro e w1 ⟨rfl, hb1⟩
    go_wp2_with fail
    refine (HL.out _ hb1.out.1).mono ?_
    rintro e w2 ⟨rfl, hb2⟩
    go_wp2
    go_ret
    exact ⟨rfl, hb2.out.1⟩
  · by_cases hnil : n = 0
    · have hnil' : ((n : Int) == 0) = true := by simp [hnil]
      go_enter Try.func18, Try.ntmps18
      go_wp2_with fail
      refine (HL.out _ HW.out).mono ?_
      rintro e w1 ⟨rfl, hb1⟩
      go_wp2_with fail
      refine (HL.out _ hb1.out.1).mono ?_
      rintro e w2 ⟨rfl, hb2⟩
      go_wp2
      go_ret
      exact ⟨rfl, hb2.out.1⟩
    · have hnil' : ((n : Int) == 0) = false := by simp; omega
      have HL2 := HLAY'.out (by omega)
      clear HLAY'
      go_enter Try.func18, Try.ntmps18
      go_wp2_with fail
      refine (HL.out _ HW.out).mono ?_
      rintro e w1 ⟨rfl, hb1⟩
      go_wp2_with fail
      refine (HL2.out _ hb1.out.1).mono ?_
      rintro e w2 ⟨q, p, ao, cap, rfl, hL⟩
      obtain ⟨B3, s, hLd⟩ := hL.out
      have HLD := Lib.hid hLd
      have HAD0 : Hid (((addr != 0) = true) ↔ (addr ≠ 0 ∧ ∀ j, j < 0 → (adr sorts20 5 nds j : Int) ≠ addr)) := by
        show _ ↔ _
        simp
      clear hL hLd hb1 HL2
      go_wp2
      go_loop [9, 45] (fun v9 v45 => ∃ (i : Nat) (bd : Bool), v9 = .bool bd ∧ v45 = .int .i64 i ∧ i ≤ n ∧ Hid (bd = true ↔ (addr ≠ 0 ∧ ∀ j, j < i → (adr sorts20 5 nds j : Int) ≠ addr))) (fun _ v45 => n - (intOf v45).toNat)
      case atStart => exact ⟨0, _, rfl, rfl, by omega, HAD0.out⟩
      case round =>
        obtain ⟨i, bd, rfl, rfl, hi, hI⟩ := hrel
        clear HAD0
        by_cases hin : i < n
        · obtain ⟨g, rfl, hg, hc⟩ := HLD.out.row.elem (j := i) (by rw [adl_len]; exact hin)
          rw [adl_get _ _ _ hin] at hc
          obtain ⟨A, hA⟩ : ∃ A : Int, A = (adr sorts20 5 nds i : Int) := ⟨_, rfl⟩
          rw [← hA] at hc
          have HA := Lib.hid hA
          clear hg hA
          cases bd with
          | true =>
            have HN2 : Hid (((A != addr) = true) ↔ (addr ≠ 0 ∧ ∀ j, j < i + 1 → (adr sorts20 5 nds j : Int) ≠ addr)) := by
              have h := hI.out.1 rfl
              show _ ↔ _
              rw [HA.out]
              simp only [bne_iff_ne]
              refine ⟨fun hne => ⟨h.1, fun j hj => ?_⟩, fun hh => hh.2 i (by omega)⟩
              rcases Nat.lt_succ_iff_lt_or_eq.1 hj with h1 | h1
              · exact h.2 j h1
              · rw [h1]; exact hne
            clear hI
            go_wp2
            go_round
            case rel => exact ⟨i + 1, _, rfl, by go_num, by omega, HN2.out⟩
            case measure => simp [intOf]; omega
          | false =>
            have HN2 : Hid ((false = true) ↔ (addr ≠ 0 ∧ ∀ j, j < i + 1 → (adr sorts20 5 nds j : Int) ≠ addr)) := by
              show _ ↔ _
              refine ⟨fun h => (by cases h), fun hh => hI.out.2 ⟨hh.1, fun j hj => hh.2 j (by omega)⟩⟩
            clear hI
            go_wp2
            go_round
            case rel => exact ⟨i + 1, _, rfl, by go_num, by omega, HN2.out⟩
            case measure => simp [intOf]; omega
        · have hin2 : i = n := by omega
          have HBAD : Hid (bd = true ↔ (addr ≠ 0 ∧ ¬ okAt sorts20 s addr)) := by
            show _ ↔ _
            rw [show (bd = true ↔ (addr ≠ 0 ∧ ∀ j, j < i → (adr sorts20 5 nds j : Int) ≠ addr)) from hI.out]
            refine and_congr_right fun h0 => ⟨fun h ho => ?_, fun h j hj e => h ?_⟩
            · obtain ⟨j, hj, e⟩ := HLD.out.net.only ho
              exact h j (by rw [hin2, HN.out]; exact hj) e.symm
            · rw [← e]
              exact HLD.out.net.ok sorts20_lay (by decide) (by decide) HOK.out (by rw [← HN.out]; omega)
          clear hI hin2
          have HCO : Hid (Calls Try.prog 30 #[.pointer (some ⟨q.sp, 0, none⟩), .slice (some ⟨w2.heap.size, 0, none⟩) 1 1, .int .i64 most] (w2.alloc (.cells #[.int .i64 addr] 3)) fun e w' => ∃ (a2 : Option Addr) (l2 c2 : Nat) (k f pa pb pc e0 : Int), e = .returned (.tuple #[.slice a2 l2 c2, .agg #[.int .i64 k, .int .i64 f, .int .i64 pa, .int .i64 pb, .int .i64 pc], .int .i64 e0]) ∧
              Hid (Fr p.mine w2 w' ∧ ((most < 1 ∧ e0 = 1 ∧ HeapAt w' p s) ∨ (1 ≤ most ∧ bd = true ∧ e0 = 12 ∧ HeapAt w' p s) ∨ (1 ≤ most ∧ bd = false ∧ e0 = 0)))) := by
            have hf3 : Fr (fun _ => False) w2 (w2.alloc (.cells #[.int .i64 addr] 3)) := (Fr.refl _ w2).alloc _
            have hA := HLD.out.sto.own.at'.fr hf3 fun _ _ => id
            have hS := HLD.out.sto.sto.fr hf3 id id
            by_cases hm : most < 1
            · refine (collect_err fun W hW => mark_room (hW.cell hS.h0 id) _ hm).mono ?_
              rintro e w' ⟨rfl, hb⟩
              refine ⟨_, _, _, _, _, _, _, _, _, rfl, (Fr.any hf3).trans (Fr.of_below hb), .inl ⟨hm, rfl, hA.fr (S := fun _ => False) (Fr.of_below hb) fun _ _ => id⟩⟩
            · have hP := net_plain HLD.out.net ⟨by decide, by decide⟩ HOK.out
              have hz : RootsAt (w2.alloc (.cells #[.int .i64 addr] 3)) p (w2.alloc (.cells #[.int .i64 addr] 3)).heap.size (some ⟨w2.heap.size, 0, none⟩) [addr] := by
                refine ⟨.inr ⟨w2.heap.size, 0, rfl, by simp, fun h => by have := HLD.out.sto.own.at'.lt _ h; omega, fun j hj => ?_⟩, fun z hz => ?_, by simp⟩
                · have hj0 : j = 0 := by simp at hj; exact hj
                  subst hj0
                  exact (blk_new w2 3 #[.int .i64 addr] 1 (fun _ => .int .i64 addr) rfl).cell (by omega)
                · rw [List.mem_singleton] at hz; subst hz; exact ha.2
              refine (collect_any (rcap := 1) hA hS HLD.out.sto.sep sorts20_ok (by omega) hz (fun s' => s' = s) (fun _ => 0) rfl (plain_dec hP [addr])).mono ?_
              intro e w' hpost
              obtain ⟨out, m', hrds, hf, hres⟩ := hpost.out
              have hf' : Fr p.mine w2 w' := (Fr.any hf3).trans hf
              cases hbd : bd with
              | true =>
                rw [hbd] at HBAD
                obtain ⟨h0, hno⟩ := HBAD.out.1 rfl
                obtain ⟨h12, hs2⟩ := hrds.bad h0 hno
                rcases hres with ⟨he, hH, rfl⟩ | ⟨he, _⟩
                · rw [h12]
                  rw [hs2] at hH
                  exact ⟨_, _, _, _, _, _, _, _, _, rfl, hf', .inr (.inl ⟨by omega, rfl, rfl, hH⟩)⟩
                · rw [h12] at he; cases he
              | false =>
                have hgood : m'.e = 0 := by
                  refine hrds.good hP (V := fun a => okAt sorts20 s a) (fun _ h => h) (net_closed HLD.out.net ⟨by decide, by decide⟩ HOK.out) (fun r hr hr0 => ?_) ⟨rfl, rfl, (fun x hx => by cases hx), (fun x hx => by cases hx)⟩
                  rw [List.mem_singleton] at hr
                  subst hr
                  refine Classical.byContradiction fun hno => ?_
                  have := HBAD.out.2 ⟨hr0, hno⟩
                  rw [hbd] at this; cases this
                rcases hres with ⟨he, _⟩ | ⟨_, _, a2, c2, pa, pb, pc, rfl, _, _⟩
                · exact absurd hgood he
                · exact ⟨_, _, _, _, _, _, _, _, _, rfl, hf', .inr (.inr ⟨by omega, rfl, rfl⟩)⟩
          have HNIL : Hid (∀ W, Calls Try.prog 30 #[.pointer none, .slice none 0 0, .int .i64 most] W fun e w' => e = badColl ∧ Below W.heap.size W w') := fun W => collect_err fun W2 _ => mark_nil W2 _ _
          unfold badColl at HNIL
          go_wp2_with fail
          refine HCO.out.mono ?_
          rintro e w3 ⟨a2, l2, c2, k, f, pa, pb, pc, e0, rfl, h3⟩
          have HF3 := Lib.hid h3.out.1
          have HR3 := Lib.hid h3.out.2
          clear h3 HCO
          go_wp2_with fail
          refine (HNIL.out _).mono ?_
          rintro e w4 ⟨rfl, hb4⟩
          have HF4 : Hid (Fr (fun _ => False) w3 w4) := ((Fr.refl _ w3).alloc _).trans (Fr.of_below hb4)
          have hsp4 := (HF3.out.trans (Fr.any HF4.out)).cell (HLD.out.sto.sto.h0) (fun h => (HLD.out.sto.sep _ h).1 rfl)
          have hspal : ∀ o, (w4.alloc o).cell? ⟨q.sp, 0, none⟩ = some (.pointer (some ⟨p.h, 0, none⟩)) := fun o => ((Fr.refl (fun _ => False) w4).alloc o).cell hsp4 id
          have HBW4 : Hid (Below B w w4 ∧ B ≤ w4.heap.size) := by
            have h1 : Below B w2 w4 := (HF3.out.trans (Fr.any HF4.out)).below HLD.out.sto.own.size (fun k hk => HLD.out.sto.own.mine k hk)
            exact ⟨HLD.out.sto.own.below.trans h1, Nat.le_trans HLD.out.sto.own.size h1.size⟩
          have HCE : Hid (HeapAt w3 p s → ∀ o, Calls Try.prog 26 #[.pointer (some ⟨p.h, 0, none⟩)] (w4.alloc o) fun e w' => ∃ co cc, e = .returned (.slice co n cc) ∧ Hid (Below B w w')) := by
            intro hH o
            have hH4 := hH.fr HF4.out fun _ _ => id
            refine (cells_any (w4.alloc o) (hH4.fr ((Fr.refl (fun _ => False) w4).alloc o) fun _ _ => id)).mono ?_
            rintro e w' ⟨v, rfl, h1, h2⟩
            obtain ⟨co, cc, rfl, _⟩ := h1.shape
            rw [HLD.out.net.cells, ← HN.out]
            exact ⟨co, cc, rfl, (HBW4.out.1.alloc HBW4.out.2 o).trans (h2.mono (by have := HBW4.out.2; simp; omega))⟩
          clear hb4 HNIL hsp4
          rcases HR3.out with ⟨hm, he, hH⟩ | ⟨hm, hb, he, hH⟩ | ⟨hm, hb, he⟩
          · have HCE2 := Lib.hid (HCE.out hH)
            subst he
            clear HCE HR3 hH
            go_wp2_with fail
            refine (HCE2.out _).mono ?_
            rintro e w5 ⟨co, cc, rfl, h5⟩
            go_wp2
            go_ret
            exact ⟨rfl, h5.out⟩
          · have HCE2 := Lib.hid (HCE.out hH)
            have hm1 : ¬ most < 1 := by omega
            subst he hb
            clear HCE HR3 hH
            go_wp2_with fail
            refine (HCE2.out _).mono ?_
            rintro e w5 ⟨co, cc, rfl, h5⟩
            go_wp2
            go_ret
            exact ⟨rfl, h5.out⟩
          · have hm1 : ¬ most < 1 := by omega
            subst he hb
            clear HCE HR3
            go_wp2
            go_ret
            exact ⟨rfl, HBW4.out.1.alloc HBW4.out.2 _⟩
end collectArgs
end Go.Proofs.Ytjfpijoeddjgmaa
