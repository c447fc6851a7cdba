/- Law 20, CollectRoom: what was given back can be had again. No condition. -/
import Derived.Test.YtjfpijoeddjgmaaRoom
import Derived.Deep.LoopGhost
import Derived.Deep.RegionHeld3
namespace Go.Proofs.Ytjfpijoeddjgmaa
open Go.RowKit Hm
set_option linter.unusedVariables false
theorem rooms_few (s : HS) : rooms s ≤ 16 * s.n := by
  unfold rooms
  have h1 : ∀ m, sumTo (room2 s) m ≤ 16 * m := fun m => by
    induction m with
    | zero => exact Nat.zero_le _
    | succ m ih =>
      show sumTo (room2 s) m + room2 s m ≤ _
      have : room2 s m ≤ 16 := by unfold room2; split <;> (try split) <;> omega
      omega
  exact h1 _
/-- Which place a root tells of; 0: none. -/
def rk (n : Nat) (z : Int) : Nat := (z % ((n : Int) + 1)).toNat
theorem rk_le (n : Nat) (z : Int) : rk n z ≤ n := by
  unfold rk
  have := Int.emod_lt_of_pos z (show (0 : Int) < (n : Int) + 1 by omega)
  omega
/-- The roots of a law that lets those go that tell of none. -/
def rtl (kinds : Nat) (nds : List Nd) (zs : List Int) : Nat → List Int
  | 0 => []
  | i + 1 => if 0 < rk nds.length (zs.getD i 0) then rtl kinds nds zs i ++ [(adr sorts20 kinds nds (rk nds.length (zs.getD i 0) - 1) : Int)] else rtl kinds nds zs i
theorem rtl_len (kinds : Nat) (nds : List Nd) (zs : List Int) : ∀ i, (rtl kinds nds zs i).length ≤ i
  | 0 => Nat.le_refl _
  | i + 1 => by
    have := rtl_len kinds nds zs i
    unfold rtl
    split
    · rw [List.length_append]; simp; omega
    · omega
theorem rtl_mem {kinds : Nat} {nds : List Nd} {zs : List Int} : ∀ {i} {r : Int}, r ∈ rtl kinds nds zs i → ∃ j, j < nds.length ∧ r = adr sorts20 kinds nds j
  | 0, r, h => by cases h
  | i + 1, r, h => by
    unfold rtl at h
    split at h
    · rcases List.mem_append.1 h with h | h
      · exact rtl_mem h
      · rw [List.mem_singleton] at h
        have := rk_le nds.length (zs.getD i 0)
        exact ⟨_, by omega, h⟩
    · exact rtl_mem h
theorem LaidAt.low {B B3 : Nat} {w w' : World} {q : SPl} {p : HP} {srt : List Inf} {kinds : Nat} {nds : List Nd} {V : Nat → Nat → Int} {ao : Option Addr} {n cap : Nat} {s : HS} (h : LaidAt B w w' q p srt kinds nds V ao n cap B3 s) : ∃ B4, LaidAt B w w' q p srt kinds nds V ao n cap B4 s ∧ B4 ≤ w'.heap.size := by
  obtain ⟨h1, h2, h3, h4⟩ := h.above
  have k1 := h.sto.own.at'.lt
  have k2 := h.sto.sto.st.lt
  have k3 := h.sto.sto.so.lt
  have k4 := h.sto.own.size
  refine ⟨min B3 w'.heap.size, ⟨h.sto, h.net, h.row.mono (Nat.min_le_left _ _), h.len, fun k hk => ?_, ?_, ?_, ?_⟩, Nat.min_le_right _ _⟩
  · have := h1 k hk; have := k1 k hk; omega
  · omega
  · omega
  · omega
/-- A law's store and its rows. -/
structure RowsAt (B B3 B4 : Nat) (w wr : World) (q : SPl) (p : HP) (t : HS) (kinds : Nat) (nds : List Nd) (ao : Option Addr) (n cap : Nat) (v : Value) (l : List Int) : Prop where
  sto : Sto B w wr q p sorts20 t
  row : IntsAt wr B3 (.slice ao n cap) (adl sorts20 kinds nds n)
  rowLt : ∀ k, (Value.slice ao n cap).ownBlock = some k → k < B4
  mine : ∀ k, p.mine k → k < B3
  sp : q.sp < B3 ∧ q.sb < B3
  at' : IntsAt wr B4 v l
  sz : B ≤ B3 ∧ B3 ≤ B4 ∧ B4 ≤ wr.heap.size
theorem RowsAt.start {B B3 : Nat} {w wr : World} {q : SPl} {p : HP} {t : HS} {kinds : Nat} {nds : List Nd} {ao : Option Addr} {n cap : Nat} (h : Sto B w wr q p sorts20 t) (hr : IntsAt wr B3 (.slice ao n cap) (adl sorts20 kinds nds n)) (hm : ∀ k, p.mine k → k < B3) (hs : q.sp < B3 ∧ q.sb < B3) (hB : B ≤ B3) (hsz : B3 ≤ wr.heap.size) :
    RowsAt B B3 wr.heap.size w wr q p t kinds nds ao n cap (.slice none 0 0) [] :=
  ⟨h, hr, fun k hk => (hr.lt k hk).2, hm, hs, IntsAt.nil _ _, hB, hsz, Nat.le_refl _⟩
theorem RowsAt.app {B B3 B4 : Nat} {w wr w' : World} {q : SPl} {p : HP} {t : HS} {kinds : Nat} {nds : List Nd} {ao : Option Addr} {n cap : Nat} {v v' : Value} {l : List Int} {x : Int} {o : Obj} (h : RowsAt B B3 B4 w wr q p t kinds nds ao n cap v l)
    (hown : w'.ownsRow B4 3 1 v' (l.length + 1) (l.map (Value.int .i64) ++ [.int .i64 x])) (hg : (wr.alloc o).grownBy w' v.ownBlock) : RowsAt B B3 B4 w w' q p t kinds nds ao n cap v' (l ++ [x]) := by
  obtain ⟨hB, h34, h4⟩ := h.sz
  have hf : Fr (fun k => B4 ≤ k) wr w' := (Fr.refl _ wr).alloc o |>.trans (Fr.of_grown hg fun k hk => (h.at'.lt k hk).1)
  refine ⟨h.sto.other hf (fun k hk => by have := h.mine k hk; omega) (by have := h.sp; omega) (by have := h.sp; omega) (fun k hk => by omega), h.row.fr hf fun k hk hm => by have := h.rowLt k hk; omega, h.rowLt, h.mine, h.sp, IntsAt.one hown, hB, h34, Nat.le_trans h4 hf.size⟩
namespace collectRoom
set_option maxRecDepth 100000 in
set_option maxHeartbeats 8000000 in
theorem walk (v : Value) (nds : List Nd) (rv : Value) (zs : List Int) (most : Int) (w : World) (hv : NodesAt w v nds) (hz : IntArg .u8 w rv zs) : Calls Try.prog 4 #[v, rv, .int .i64 most] w fun e w' => e = .returned (.bool true) ∧ Below w.heap.size w w' := by
  obtain ⟨i3, hi3, hz0, hz1, hz2⟩ := info_parts info3
  obtain ⟨B, hB⟩ : ∃ B, B = w.heap.size := ⟨_, rfl⟩
  obtain ⟨ro, rcap, rfl, hcells, hwf⟩ := hz
  rw [← hB] at hcells ⊢
  have HL := Lib.hid (lives_from20 hB)
  have HW := Lib.hid (Below.refl B w)
  have hok := hv
  obtain ⟨vo, vcap, rfl, _, hok⟩ := hok
  have HOK := Lib.hid hok
  have HC := Lib.hid hcells
  have HWF := Lib.hid hwf
  have HLAY := fun h => Lib.hid (lay20_from hB hv (kinds := 5) h ⟨by decide, by decide⟩)
  have HLAY' := Lib.hid HLAY
  clear hB hv hok HLAY hcells hwf
  obtain ⟨n, hn⟩ : ∃ n, n = nds.length := ⟨_, rfl⟩
  obtain ⟨m, hm⟩ : ∃ m, m = zs.length := ⟨_, rfl⟩
  rw [← hn] at HLAY' ⊢
  rw [← hm]
  have HN := Lib.hid hn
  have HM := Lib.hid hm
  clear hn hm
  by_cases hlong : 80 < n
  · go_enter Try.func4, Try.ntmps4
    go_wp2_with fail
    refine (HL.out _ HW.out).mono ?_
    rintro e w1 ⟨rfl, hb1⟩
    go_wp2_with fail
    refine (HL.out _ hb1.out.1).mono ?_
    rintro e w2 ⟨rfl, hb2⟩
    go_wp2
    go_ret
    exact ⟨rfl, hb2.out.1⟩
  · by_cases hlong2 : 20 < m
    · go_enter Try.func4, Try.ntmps4
      go_wp2_with fail
      refine (HL.out _ HW.out).mono ?_
      rintro e w1 ⟨rfl, hb1⟩
      go_wp2_with fail
      refine (HL.out _ hb1.out.1).mono ?_
      rintro e w2 ⟨rfl, hb2⟩
      go_wp2
      go_ret
      exact ⟨rfl, hb2.out.1⟩
    · have HL2 := HLAY'.out (by omega)
      clear HLAY'
      go_enter Try.func4, Try.ntmps4
      go_wp2_with fail
      refine (HL.out _ HW.out).mono ?_
      rintro e w1 ⟨rfl, hb1⟩
      go_wp2_with fail
      refine (HL2.out _ hb1.out.1).mono ?_
      rintro e w2 ⟨q, p, ao, cap, rfl, hL⟩
      obtain ⟨B3', s, hLd'⟩ := hL.out
      obtain ⟨B3, hLd, hB3⟩ := hLd'.low
      have HB3 := Lib.hid hB3
      have HLD := Lib.hid hLd
      have HF0 : Hid (Sto B w w2 q p sorts20 s ∧ FillI s s 0 ∧ Fr p.mine w2 w2) := ⟨hLd.sto, FillI.refl hLd.net.wf, Fr.refl _ _⟩
      clear hL hLd' hLd hb1 HL2 hB3
      go_wp2
      go_loopg [10] (rooms s) (fun k v10 wr => ∃ (x : Value) (t : HS) (j : Nat), x = v10 ∧ Hid (Sto B w wr q p sorts20 t ∧ FillI s t j ∧ Fr p.mine w2 wr) ∧ Hid (rooms t = k))
      case atStart => exact ⟨_, s, 0, rfl, HF0.out, rfl⟩
      case round =>
        obtain ⟨x, t, j, rfl, hI, hk⟩ := hrel
        clear HF0
        by_cases hg0 : gk = 0
        · obtain ⟨e0, he0, hnew⟩ := (hI.out.2.1.step).2 (by rw [hk.out]; exact hg0)
          have HNEW := Lib.hid (hI.out.1.new' 0 1 hnew)
          have hne : (e0 != 0) = true := by simp [he0]
          clear hnew
          go_wp2_with fail
          refine HNEW.out.mono ?_
          rintro e w3 ⟨rfl, h3⟩
          have HT : Hid (RowsAt B B3 w3.heap.size w w3 q p t 5 nds ao n cap (.slice none 0 0) []) := by
            have hf : Fr p.mine w2 w3 := hI.out.2.2.trans h3.out.2
            refine RowsAt.start h3.out.1 (HLD.out.row.fr hf fun k hk hm => by have := (HLD.out.row.lt k hk).1; have := HLD.out.above.1 k hm; omega) HLD.out.above.1 ⟨HLD.out.above.2.1, HLD.out.above.2.2.1⟩ HLD.out.above.2.2.2 ?_
            exact Nat.le_trans HB3.out hf.size
          have HFR : Hid (FillI s t j ∧ rooms t = 0 ∧ Fr p.mine w2 w3) := ⟨hI.out.2.1, by rw [hk.out]; exact hg0, hI.out.2.2.trans h3.out.2⟩
          obtain ⟨B4, hB4⟩ : ∃ B4, B4 = w3.heap.size := ⟨_, rfl⟩
          rw [← hB4] at HT
          have HT0 : Hid (([] : List Int) = rtl 5 nds zs 0 ∧ ([] : List Int).length = 0 ∧ RowsAt B B3 B4 w w3 q p t 5 nds ao n cap (.slice none 0 0) []) := ⟨rfl, rfl, HT.out⟩
          clear hI HNEW h3 hk hB4 HT
          go_wp2
          go_loopw [11, 54] (fun v11 v54 wr => ∃ ao2 cap2, ∃ c2 i : Nat, ∃ l : List Int, v11 = .slice ao2 c2 cap2 ∧ v54 = .int .i64 i ∧ i ≤ m ∧ Hid (l = rtl 5 nds zs i ∧ l.length = c2 ∧ RowsAt B B3 B4 w wr q p t 5 nds ao n cap (.slice ao2 c2 cap2) l)) (fun _ v54 _ => m - (intOf v54).toNat)
          case atStart => exact ⟨none, 0, 0, 0, [], rfl, rfl, by omega, HT0.out⟩
          case round =>
            obtain ⟨ao2, cap2, c2, i, l, rfl, rfl, hi, hI⟩ := hrel
            clear HT0
            by_cases him : i < m
            · obtain ⟨b, off, rfl, hb, hcell0⟩ := HC.out.resolve_left (by rw [← HM.out]; omega)
              have hcell := hI.out.2.2.sto.world.cell (hcell0 i (by rw [← HM.out]; exact him)) (by show ¬ B ≤ b; omega)
              obtain ⟨z, hz⟩ : ∃ z, z = zs.getD i 0 := ⟨_, rfl⟩
              rw [← hz] at hcell
              have hzr : 0 ≤ z ∧ z ≤ 255 := by rw [hz]; exact u8_wf (HWF.out _ (getD_mem (by rw [← HM.out]; exact him)))
              obtain ⟨k, hk⟩ : ∃ k, k = rk n z := ⟨_, rfl⟩
              have hkn : k ≤ n := by rw [hk]; exact rk_le _ _
              have hmod : z.tmod ((n : Int) + 1) = (k : Int) := by
                rw [Int.tmod_eq_emod_of_nonneg hzr.1, hk]
                unfold rk
                have := Int.emod_nonneg z (show (n : Int) + 1 ≠ 0 by omega)
                omega
              have HMOD := Lib.hid hmod
              have HWZ : Hid (wrap64 z = z) := wrap_fit (by omega) (by omega)
              have HWK : Hid (wrap64 (k : Int) = k) := wrap_fit (by omega) (by omega)
              have HN0 : Hid ((((n : Int) + 1) == 0) = false) := by show _ = _; simp; omega
              have hc2 : c2 ≤ 20 := by
                have h1 := rtl_len 5 nds zs i
                rw [← hI.out.1, hI.out.2.1] at h1
                omega
              have hlen := hI.out.2.1
              by_cases hk0 : 0 < k
              · obtain ⟨k1, rfl⟩ : ∃ k1, k = k1 + 1 := ⟨k - 1, by omega⟩
                obtain ⟨A, hA⟩ : ∃ A, A = adr sorts20 5 nds k1 := ⟨_, rfl⟩
                have hnext : rtl 5 nds zs (i + 1) = l ++ [(A : Int)] := by
                  rw [hI.out.1, hA]
                  show (if 0 < rk nds.length (zs.getD i 0) then _ else _) = _
                  rw [← HN.out, ← hz, ← hk, if_pos (by omega)]
                  rfl
                have HNEXT := Lib.hid hnext
                have hrow := hI.out.2.2.row
                obtain ⟨g, hg1, hg, hc1⟩ := hrow.elem (j := k1) (by rw [adl_len]; omega)
                subst hg1
                rw [adl_get _ _ _ (by omega), ← hA] at hc1
                have hwA : IntKind.i64.wrap (((k1 + 1 : Nat) : Int) - 1) = k1 := by rw [IntKind.wrap_i64]; omega
                have hwB : IntKind.i64.wrap ((k1 : Int) + 1 - 1) = k1 := by rw [IntKind.wrap_i64]; omega
                have hk1 : (0 : Int) ≤ (k1 : Int) ∧ (k1 : Int) < (n : Int) := by omega
                clear hnext hrow hg hA hk hz hmod hcell0
                have hmod := HMOD.out
                have hwz := HWZ.out
                have hwk := HWK.out
                have hn0 := HN0.out
                go_upto_region 14 with fail
                clear hmod hwz hwk hn0
                go_wp2_with (first
                  | (at_builtin; refine wpList_append_own _ rfl _ _ 29 rfl B4 3 i3 (.int .i64 0) 1 8 Try.underlying29 hi3 hz0 hz1 hz2 rfl (by decide) _ _ _ rfl (hI.out.2.2.at'.alloc _) ⟨wr.heap.size, 0, none⟩ 1 1 [.int .i64 A] rfl rfl (cell_one_new _ _ _) (fun u hu => by simp at hu; subst hu; rfl) (by rw [hlen]; unfold maxLen; omega) (by rw [hlen]; omega) (by have := hI.out.2.2.sz; simp; omega) ?_))
                intro v' w4 hown' hgrow _
                have HR4 : Hid (l ++ [(A : Int)] = rtl 5 nds zs (i + 1) ∧ (l ++ [(A : Int)]).length = c2 + 1 ∧ RowsAt B B3 B4 w w4 q p t 5 nds (some ⟨g, 0, none⟩) n cap v' (l ++ [(A : Int)])) := by
                  refine ⟨HNEXT.out.symm, by rw [List.length_append, hlen]; rfl, hI.out.2.2.app ?_ hgrow⟩
                  rw [hlen]; exact hown'
                clear hown' hgrow hI HNEXT hlen hcell hc1
                obtain ⟨ao4, cap4, rfl, _⟩ := HR4.out.2.2.at'.shape
                rw [List.length_append, show ([(A : Int)] : List Int).length = 1 from rfl] at HR4 ⊢
                have hle : l.length = c2 := by have := HR4.out.2.1; omega
                rw [hle] at HR4 ⊢
                go_wp2
                go_roundw
                case rel => exact ⟨_, _, c2 + 1, i + 1, l ++ [(A : Int)], rfl, by go_num, by omega, by have := HR4.out; exact ⟨this.1, by rw [List.length_append, hle]; rfl, this.2.2⟩⟩
                case measure => simp [intOf]; omega
              · have hk00 : k = 0 := by omega
                subst hk00
                have HR4 : Hid (l = rtl 5 nds zs (i + 1) ∧ l.length = c2 ∧ RowsAt B B3 B4 w wr q p t 5 nds ao n cap (.slice ao2 c2 cap2) l) := by
                  refine ⟨?_, hI.out.2⟩
                  rw [hI.out.1]
                  show _ = (if 0 < rk nds.length (zs.getD i 0) then _ else _)
                  rw [← HN.out, ← hz, ← hk, if_neg (by omega)]
                have hmod : z.tmod ((n : Int) + 1) = 0 := by have := HMOD.out; simpa using this
                have hwz := HWZ.out
                have hn0 := HN0.out
                clear hI hlen hcell0 hk hz
                go_upto_region 13 with fail
                clear hmod hwz hn0
                go_wp2
                go_roundw
                case rel => exact ⟨_, _, c2, i + 1, l, rfl, by go_num, by omega, HR4.out⟩
                case measure => simp [intOf]; omega
            · have him2 : i = m := by omega
              obtain ⟨bf, hbf⟩ : ∃ bf, bf = cellsN t := ⟨_, rfl⟩
              have HBF : Hid (bf = n + rooms s ∧ bf ≤ 5000) := by
                have h1 := HFR.out.1.cells
                have h2 := HFR.out.1.room
                have h3 := HFR.out.2.1
                have h4 : cellsN s = n := HLD.out.net.cells.trans HN.out.symm
                have h5 := rooms_few s
                rw [HLD.out.net.n] at h5
                show _ ∧ _
                omega
              have hbf5 : bf ≤ 5000 := HBF.out.2
              have HCE : Hid (∀ wx, HeapAt wx p t → Calls Try.prog 26 #[.pointer (some ⟨p.h, 0, none⟩)] wx fun e w' => ∃ co cc, e = .returned (.slice co bf cc) ∧ Hid (Fr (fun _ => False) wx w')) := by
                intro wx hH
                refine (cells_any wx hH).mono ?_
                rintro e w' ⟨v, rfl, h1, h2⟩
                obtain ⟨co, cc, rfl, _⟩ := h1.shape
                rw [show (cellsTo t.used (1 + 32 * t.n)).length = bf from hbf.symm]
                exact ⟨co, cc, rfl, Fr.of_below h2⟩
              have HCE1 := Lib.hid (HCE.out wr hI.out.2.2.sto.own.at')
              have hsp0 := hI.out.2.2.sto.sto.h0
              obtain ⟨y, hy, hy2⟩ := urem_in most 30 (by decide) (by decide)
              have HY := Lib.hid hy
              have HY1 : Hid (wrap64 (1 + (y : Int)) = 1 + (y : Int)) := wrap_fit (by omega) (by omega)
              have HCO : Hid (∀ wx, Fr (fun _ => False) wr wx → Calls Try.prog 30 #[.pointer (some ⟨q.sp, 0, none⟩), .slice ao2 c2 cap2, .int .i64 (1 + (y : Int))] wx fun e w' => ∃ (a2 : Option Addr) (cc2 kk ff : Nat) (pa pb pc : Int), e = .returned (.tuple #[.slice a2 c2 cc2, .agg #[.int .i64 kk, .int .i64 ff, .int .i64 pa, .int .i64 pb, .int .i64 pc], .int .i64 0]) ∧
                  Hid (kk + ff = bf ∧ ∃ u, Sto B w w' q p sorts20 u ∧ Fr p.mine wx w' ∧ cellsN u = kk ∧ rooms s ≤ rooms u ∧ u.WF ∧ u.n = 256)) := by
                intro wx hf
                have hR := hI.out.2.2
                have hr : ∀ r ∈ l, ∃ j, j < nds.length ∧ r = adr sorts20 5 nds j := fun r hr => by rw [hI.out.1] at hr; exact rtl_mem hr
                have hok : ∀ r, (∃ j, j < nds.length ∧ r = ((adr sorts20 5 nds j : Nat) : Int)) → okAt sorts20 s r ∧ Agr s t r ∧ r < 9223372036854775808 := by
                  rintro r ⟨j, hj, rfl⟩
                  have h1 := (HLD.out.net.wf.in_ (HLD.out.net.used j hj)).2
                  rw [HLD.out.net.n] at h1
                  refine ⟨HLD.out.net.ok sorts20_lay (by decide) (by decide) HOK.out hj, HFR.out.1.agr (by rw [Int.toNat_natCast]; exact HLD.out.net.used j hj), by omega⟩
                have hcl := net_closed HLD.out.net ⟨by decide, by decide⟩ HOK.out
                have hl := hI.out.2.1
                have hl20 : l.length ≤ 20 := by
                  have h1 := rtl_len 5 nds zs i
                  rw [← hI.out.1] at h1
                  omega
                have hcs := coll_simple (V := okAt sorts20 s) (R := okAt sorts20 s) (most := 1 + (y : Int)) (hR.sto.quiet hf) (fill_plain HLD.out.net HOK.out HFR.out.1) (fun a ha => ((hok a (HLD.out.net.only ha)).2.1.ok _).2 ha) (fun a ha b hb hb0 => hcl a ha b (by rw [← (hok a (HLD.out.net.only ha)).2.1.ptrAt]; exact hb) hb0)
                  (fun r hr' _ => (hok r (hr r hr')).1) (fun r hr' _ => (hok r (hr r hr')).1) (fun a ha b hb hb0 => hcl a ha b (by rw [← (hok a (HLD.out.net.only ha)).2.1.ptrAt]; exact hb) hb0)
                  (zs := l) (ro := ao2) (rcap := cap2) (B2 := B4) (by rw [hl]; exact hR.at'.fr hf fun _ _ => id) (fun k hk => by have := hR.mine k hk; have := hR.sz; omega) (fun r hr' => (hok r (hr r hr')).2.2) (by omega) (by omega)
                rw [hl] at hcs
                refine hcs.mono ?_
                rintro e w' ⟨a2, cc2, kk, ff, pa, pb, pc, rfl, h⟩
                obtain ⟨m', u, hC⟩ := h.out
                refine ⟨a2, cc2, kk, ff, pa, pb, pc, rfl, hC.sum.trans hbf.symm, u, hC.sto, hC.fr, hC.cells, ?_, hC.sto.own.at'.wf, ?_⟩
                · refine rooms_le HLD.out.net.wf hC.sto.own.at'.wf (hC.coll.n.trans HFR.out.1.n) fun x hx => ?_
                  have h1 := (hC.used x).1 hx
                  obtain ⟨h2, _⟩ := hC.seen.seen _ h1
                  obtain ⟨j', hj', e⟩ := HLD.out.net.only h2
                  have hxu : s.used x = true := by
                    have : x = adr sorts20 5 nds j' := by omega
                    rw [this]; exact HLD.out.net.used j' hj'
                  exact ⟨hxu, (hC.coll.cap x hx).trans (HFR.out.1.old x hxu).2.1⟩
                · exact (hC.coll.n.trans HFR.out.1.n).trans HLD.out.net.n
              have HSTO := Lib.hid hI.out.2.2
              clear hI hbf HCE hy
              go_wp2_with fail
              refine HCE1.out.mono ?_
              rintro e w5 ⟨co, cc, rfl, h5⟩
              have HCO5 := Lib.hid (HCO.out w5 h5.out)
              have hy := HY.out
              have hy1 := HY1.out
              clear HCE1 HCO hsp0
              go_wp2_with fail
              clear hy hy1
              refine HCO5.out.mono ?_
              rintro e w6 ⟨a2, cc2, kk, ff, pa, pb, pc, rfl, h6⟩
              obtain ⟨hkf, u, hU⟩ := h6.out
              have hkb : kk ≤ bf ∧ ff ≤ bf := by omega
              have HKF : Hid (IntKind.i64.wrap ((kk : Int) + (ff : Int)) = (bf : Int)) := by show _ = _; rw [IntKind.wrap_i64]; omega
              have HWB : Hid (IntKind.i64.wrap ((bf : Int) - (n : Int)) = (bf : Int) - n) := by show _ = _; rw [IntKind.wrap_i64]; omega
              obtain ⟨W7, hW7⟩ : ∃ W7, W7 = w6.alloc (.cells #[.int .i64 kk, .int .i64 ff, .int .i64 pa, .int .i64 pb, .int .i64 pc] 51) := ⟨_, rfl⟩
              have HB7 : Hid (BlkAt W7 w6.heap.size 51 5 (fun c => match c with | 0 => .int .i64 kk | 1 => .int .i64 ff | 2 => .int .i64 pa | 3 => .int .i64 pb | _ => .int .i64 pc)) := by
                rw [hW7]
                exact blk_new w6 51 _ 5 _ rfl
              have HS7 : Hid (Sto B w W7 q p sorts20 u ∧ FillI u u 0 ∧ Fr p.mine W7 W7) := by
                refine ⟨hU.1.quiet ?_, FillI.refl hU.2.2.2.2.1, Fr.refl _ _⟩
                rw [hW7]; exact (Fr.refl _ w6).alloc _
              have HU : Hid (cellsN u = kk ∧ rooms s ≤ rooms u ∧ rooms u ≤ 5000) := by
                have h5 := rooms_few u
                rw [hU.2.2.2.2.2] at h5
                exact ⟨hU.2.2.1, hU.2.2.2.1, by omega⟩
              have HNM : Hid (¬ p.mine w6.heap.size) := fun hm => by
                have h1 := hU.1.own.at'.lt _ hm; omega
              have hkf1 := HKF.out
              have hbb : ((bf : Int) != (bf : Int)) = false := by simp
              clear h6 hU HCO5 hkf HSTO
              go_wp2
              clear hkf1 hbb
              rw [← hW7]
              go_loopg [19] (rooms u) (fun k v19 wr => ∃ (t' : HS) (j : Nat), v19 = .int .i64 j ∧ j + k = rooms u ∧ Hid (Sto B w wr q p sorts20 t' ∧ FillI u t' j ∧ Fr p.mine W7 wr) ∧ Hid (rooms t' = k))
              case atStart => exact ⟨u, 0, rfl, by omega, HS7.out, rfl⟩
              case round =>
                obtain ⟨t', j, rfl, hjk, hI, hk⟩ := hrel
                clear HS7
                by_cases hg0 : gk = 0
                · obtain ⟨e0, he0, hnew⟩ := (hI.out.2.1.step).2 (by rw [hk.out]; exact hg0)
                  have HNEW := Lib.hid (hI.out.1.new' 0 1 hnew)
                  have hne : (e0 != 0) = true := by simp [he0]
                  clear hnew
                  go_wp2_with fail
                  refine HNEW.out.mono ?_
                  rintro e w8 ⟨rfl, h8⟩
                  have hj : j = rooms u := by omega
                  have hsp0 := h8.out.1.sto.h0
                  have HF8 : Hid (Fr p.mine W7 w8) := hI.out.2.2.trans h8.out.2
                  have HCE : Hid (∀ wx, Fr (fun _ => False) w8 wx → Calls Try.prog 26 #[.pointer (some ⟨p.h, 0, none⟩)] wx fun e w' => ∃ co cc, e = .returned (.slice co (kk + j) cc) ∧ Hid (Fr (fun _ => False) w8 w')) := by
                    intro wx hf
                    refine (cells_any wx (h8.out.1.own.at'.fr hf fun _ _ => id)).mono ?_
                    rintro e w' ⟨v, rfl, h1, h2⟩
                    obtain ⟨co, cc, rfl, _⟩ := h1.shape
                    have h3 : (cellsTo t'.used (1 + 32 * t'.n)).length = kk + j := by
                      have h4 := hI.out.2.1.cells
                      rw [HU.out.1] at h4
                      exact h4
                    rw [h3]
                    exact ⟨co, cc, rfl, hf.trans (Fr.of_below h2)⟩
                  have HC8 := Lib.hid (HCE.out w8 (Fr.refl _ _))
                  have hge : decide ((bf : Int) - n ≤ (j : Int)) = true := by
                    have h1 := HBF.out.1
                    have h2 := HU.out.2.1
                    simp; omega
                  have hst : w8.cell? ⟨w6.heap.size, 0, none⟩ = some (.int .i64 kk) := HF8.out.cell (HB7.out.cell (i := 0) (by omega)) HNM.out
                  have HKJ : Hid (IntKind.i64.wrap ((kk : Int) + (j : Int)) = ((kk + j : Nat) : Int)) := by
                    have h1 := HU.out.2.2
                    show _ = _; rw [IntKind.wrap_i64]; omega
                  have hwb := HWB.out
                  have HEND : Hid (Below B w w8) := h8.out.1.own.below
                  have HSZ : Hid (B ≤ w8.heap.size) := h8.out.1.own.size
                  have hge2 : decide (IntKind.i64.wrap ((bf : Int) - (n : Int)) ≤ (j : Int)) = true := by rw [hwb]; exact hge
                  clear hI HNEW h8 hk hj hjk hg0
                  go_wp2_with fail
                  have HCF : Hid (∀ wx, Fr (fun _ => False) w8 wx → wx.cell? ⟨w6.heap.size, 0, none⟩ = some (.int .i64 kk) ∧ wx.cell? ⟨q.sp, 0, none⟩ = some (.pointer (some ⟨p.h, 0, none⟩))) := fun wx hf => ⟨hf.cell hst id, hf.cell hsp0 id⟩
                  have HARM : Hid (∀ wx, Hid (Fr (fun _ => False) w8 wx) → Calls Try.prog 26 #[.pointer (some ⟨p.h, 0, none⟩)] wx fun e w' => ∃ co cc, e = .returned (.slice co (kk + j) cc) ∧ Hid (Fr (fun _ => False) w8 w') ∧ w'.cell? ⟨w6.heap.size, 0, none⟩ = some (.int .i64 kk) ∧ w'.cell? ⟨q.sp, 0, none⟩ = some (.pointer (some ⟨p.h, 0, none⟩))) := by
                    intro wx hf
                    refine (HCE.out wx hf.out).mono ?_
                    rintro e w' ⟨co, cc, rfl, h⟩
                    exact ⟨co, cc, rfl, h, HCF.out w' h.out⟩
                  have HD : Hid (Fr (fun _ => False) w8 w8.drew) := (Fr.refl _ w8).drew
                  have hkj := HKJ.out
                  clear HCE
                  go_region_held3 (fun w' => Hid (Fr (fun _ => False) w8 w') ∧ w'.cell? ⟨w6.heap.size, 0, none⟩ = some (.int .i64 kk) ∧ w'.cell? ⟨q.sp, 0, none⟩ = some (.pointer (some ⟨p.h, 0, none⟩))) (simp [*])
                    (first | (go_at_call 26; refine (HARM.out _ ?_).mono ?_; (simp [*]); rintro e w9 ⟨co9, cc9, rfl, h9, h9b, h9c⟩))
                  go_wp2
                  go_ret
                  exact ⟨rfl, HEND.out.trans (h9.out.below HSZ.out fun k hk => hk.elim)⟩
                · obtain ⟨a, t2, hnew, hF⟩ := (hI.out.2.1.step).1 (by rw [hk.out]; omega)
                  have HNEW := Lib.hid (hI.out.1.new' 0 1 hnew)
                  have HF := Lib.hid hF
                  have HK : Hid (rooms t2 = gk - 1) := by
                    have h1 := hF.room
                    have h2 := hI.out.2.1.room
                    have h3 := hk.out
                    show _ = _
                    omega
                  have hj5 : j ≤ 5000 := by have := HU.out.2.2; omega
                  clear hnew hF
                  go_wp2_with fail
                  refine HNEW.out.mono ?_
                  rintro e w8 ⟨rfl, h8⟩
                  have HNX : Hid (Sto B w w8 q p sorts20 t2 ∧ FillI u t2 (j + 1) ∧ Fr p.mine W7 w8) := ⟨h8.out.1, HF.out, hI.out.2.2.trans h8.out.2⟩
                  clear hI HNEW h8
                  go_wp2
                  go_roundg (gk - 1)
                  case measure => omega
                  case rel => exact ⟨t2, j + 1, by go_num, by omega, HNX, HK⟩
        · obtain ⟨a, t', hnew, hF⟩ := (hI.out.2.1.step).1 (by rw [hk.out]; omega)
          have HNEW := Lib.hid (hI.out.1.new' 0 1 hnew)
          have HF := Lib.hid hF
          have HK : Hid (rooms t' = gk - 1) := by
            have h1 := hF.room
            have h2 := hI.out.2.1.room
            have h3 := hk.out
            show _ = _
            omega
          clear hnew hF
          go_wp2_with fail
          refine HNEW.out.mono ?_
          rintro e w3 ⟨rfl, h3⟩
          have HNX : Hid (Sto B w w3 q p sorts20 t' ∧ FillI s t' (j + 1) ∧ Fr p.mine w2 w3) := ⟨h3.out.1, HF.out, hI.out.2.2.trans h3.out.2⟩
          clear hI HNEW h3
          go_wp2
          go_roundg (gk - 1)
          case measure => omega
          case rel => exact ⟨_, t', j + 1, rfl, HNX, HK⟩
end collectRoom
end Go.Proofs.Ytjfpijoeddjgmaa
