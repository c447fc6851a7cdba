/- Law 20's sorts and lay. No condition. -/
import Derived.Test.YtjfpijoeddjgmaaGraph
import Derived.StillTailTactics
namespace Go.Proofs.Ytjfpijoeddjgmaa
open Go.RowKit Hm
set_option linter.unusedVariables false

def sorts20 : List Inf := [⟨4, 0, 1, 0, 0, 0, 0, 0⟩, ⟨0, 2, 0, 0, 1, 0, 0, 0⟩, ⟨2, 3, 0, 0, 0, 0, 0, 0⟩, ⟨7, 0, 0, 0, 0, 0, 0, 0⟩, ⟨0, 0, 0, 0, 2, 0, 0, 0⟩, ⟨6, 1, 0, 0, 0, 0, 0, 0⟩]
theorem sorts20_lay : LaySorts sorts20 := by
  have h : ∀ i ∈ sorts20, i.Ok ∧ i.kind ≠ 3 ∧ i.fits (szOf i) = true ∧ (1 ≤ szOf i ∧ szOf i ≤ 31) ∧ i.ptrs + i.nons ≤ szOf i ∧ i.nons ≤ 1 := by
    intro i hi
    simp only [sorts20, List.mem_cons, List.not_mem_nil, or_false] at hi
    rcases hi with rfl | rfl | rfl | rfl | rfl | rfl <;> exact ⟨⟨by decide, by decide, by decide, by decide, by decide⟩, by decide, by decide, by decide, by decide, by decide⟩
  exact ⟨fun i hi => (h i hi).1, by decide, fun i hi => (h i hi).2.1, fun i hi => (h i hi).2.2.1, fun i hi => (h i hi).2.2.2.1, fun i hi => (h i hi).2.2.2.2.1, fun i hi => (h i hi).2.2.2.2.2⟩
set_option maxRecDepth 100000 in
theorem sorts20_any (w : World) : Calls Try.prog 66 #[] w fun e w' => ∃ sb, e = .returned (.slice (some ⟨sb, 0, none⟩) 6 6) ∧ w.heap.size ≤ sb ∧ SortsAt w' sb sorts20 ∧ Below w.heap.size w w' := by
  go_enter Try.func66, Try.ntmps66
  go_wp2
  go_ret
  exact ⟨_, rfl, Nat.le_refl _, blk_new w 80 _ 54 (sortCell sorts20) (by kernel_rfl), (Below.refl _ _).alloc (Nat.le_refl _) _⟩
theorem SortsAt.get {w : World} {sb : Nat} {srt : List Inf} (h : SortsAt w sb srt) {i : Nat} (hi : i < srt.length) {c : Nat} (hc : c < 9) : w.cell? ⟨sb, i * 9 + c, none⟩ = some ((srt.getD i noInf).cell c) := by
  have := BlkAt.cell (i := i * 9 + c) h (by omega)
  rw [this]
  unfold sortCell
  rw [show (i * 9 + c) / 9 = i by omega, show (i * 9 + c) % 9 = c by omega]
theorem len20 : sorts20.length = 6 := rfl
def adl (srt : List Inf) (kinds : Nat) (nds : List Nd) (i : Nat) : List Int := (List.range i).map fun j => (adr srt kinds nds j : Int)
theorem adl_len (srt : List Inf) (kinds : Nat) (nds : List Nd) (i : Nat) : (adl srt kinds nds i).length = i := by simp [adl]
theorem adl_get (srt : List Inf) (kinds : Nat) (nds : List Nd) {i j : Nat} (h : j < i) : (adl srt kinds nds i).getD j 0 = adr srt kinds nds j := by simp [adl, List.getD_eq_getElem?_getD, h]
theorem adl_succ (srt : List Inf) (kinds : Nat) (nds : List Nd) (i : Nat) : adl srt kinds nds (i + 1) = adl srt kinds nds i ++ [(adr srt kinds nds i : Int)] := by simp [adl, List.range_succ]
/-- The pointers behind so many nodes and pointers. -/
def Vat (srt : List Inf) (kinds : Nat) (nds : List Nd) (i q : Nat) : Nat → Nat → Int := fun j r => if j < i ∨ (j = i ∧ r < q) then (tad srt kinds nds j r : Int) else 0
/-- A law's store, laid. -/
structure LaidAt (B : Nat) (w w' : World) (q : SPl) (p : HP) (srt : List Inf) (kinds : Nat) (nds : List Nd) (V : Nat → Nat → Int) (ao : Option Addr) (n cap B3 : Nat) (s : HS) : Prop where
  sto : Sto B w w' q p srt s
  net : Net srt kinds nds V s
  row : IntsAt w' B3 (.slice ao n cap) (adl srt kinds nds n)
  len : n = nds.length
  above : (∀ k, p.mine k → k < B3) ∧ q.sp < B3 ∧ q.sb < B3 ∧ B ≤ B3

set_option maxRecDepth 100000 in
set_option maxHeartbeats 8000000 in
theorem lay20_any {w : World} {v : Value} {nds : List Nd} {kinds : Nat} (hv : NodesAt w v nds) (hl : nds.length ≤ 100) (hk : 0 < kinds ∧ kinds ≤ 6) :
    Calls Try.prog 28 #[v, .int .i64 kinds] w fun e w' => ∃ q p ao cap, e = .returned (.tuple #[.pointer (some ⟨q.sp, 0, none⟩), .slice ao nds.length cap]) ∧
      Hid (∃ B3 s, LaidAt w.heap.size w w' q p sorts20 kinds nds (fun j r => tad sorts20 kinds nds j r) ao nds.length cap B3 s) := by
  obtain ⟨i3, hi3, hz0, hz1, hz2⟩ := info_parts info3
  obtain ⟨vo, vcap, rfl, hcells, hok⟩ := hv
  obtain ⟨B, hB⟩ : ∃ B, B = w.heap.size := ⟨_, rfl⟩
  rw [← hB] at hcells ⊢
  have HNEW : Hid (Calls Try.prog 20 #[.int .i64 8192] w fun e w' => ∃ p : HP, e = .returned (.tuple #[.pointer (some ⟨p.h, 0, none⟩), .int .i64 0]) ∧ Hid (Own B w w' p (HS.empty 256))) := by
    refine (new_any 8192 256 w (by decide) (by decide) (by decide) B w (Below.refl _ _) (by omega)).mono ?_
    rintro e w' ⟨p, rfl, h1, h2, h3, h4⟩
    exact ⟨p, rfl, h1, h2, h3, h4⟩
  clear hB
  have HC := Lib.hid hcells
  have HOK := Lib.hid hok
  have HINV := Lib.hid (lay_inv sorts20_lay (kinds := kinds) hk.1 hk.2 hok (by omega))
  have HSTEP := Lib.hid (fun i (h1 : i < 256) (h2 : i < nds.length) h3 => lay_step sorts20_lay (kinds := kinds) hk.1 hk.2 hok h1 h2 h3)
  clear hcells hok
  obtain ⟨n, hn⟩ : ∃ n, n = nds.length := ⟨_, rfl⟩
  have hn100 : n ≤ 100 := by omega
  rw [← hn]
  have HN := Lib.hid hn
  clear hn hl
  go_enter Try.func28, Try.ntmps28
  go_wp2_with fail
  refine HNEW.out.mono ?_
  rintro e w1 ⟨p, rfl, hO⟩
  go_wp2_with fail
  refine (sorts20_any w1).mono ?_
  rintro e w2 ⟨sb, rfl, hsb, hso, hbl⟩
  have hS : Hid (Sto B w (w2.alloc (.cells #[.pointer (some ⟨p.h, 0, none⟩), .slice (some ⟨sb, 0, none⟩) 6 6] 47)) ⟨w2.heap.size, sb⟩ p sorts20 (HS.empty 256)) :=
    Sto.make (hO.out.quiet (Fr.of_below hbl)) hso sorts20_lay.ok (by decide) (fun k hk => by have := hO.out.at'.lt k hk; omega) (by have := hO.out.size; omega)
  obtain ⟨W, hW⟩ : ∃ W, W = w2.alloc (.cells #[.pointer (some ⟨p.h, 0, none⟩), .slice (some ⟨sb, 0, none⟩) 6 6] 47) := ⟨_, rfl⟩
  obtain ⟨sp, hsp⟩ : ∃ sp, sp = w2.heap.size := ⟨_, rfl⟩
  have HW2 := Lib.hid (And.intro hW hsp)
  have HWS := Lib.hid hsp
  rw [← hW, ← hsp] at hS
  obtain ⟨B3, hB3⟩ : ∃ B3, B3 = W.heap.size := ⟨_, rfl⟩
  have HB3 : Hid ((∀ k, p.mine k → k < B3) ∧ sp < B3 ∧ sb < B3 ∧ B ≤ B3) := by
    rw [hB3]
    exact ⟨hS.out.own.at'.lt, hS.out.sto.st.lt, hS.out.sto.so.lt, hS.out.own.size⟩
  have HB3W : Hid (B3 ≤ W.heap.size) := by rw [hB3]; exact Nat.le_refl _
  clear hsb hso hbl hO hW hsp hB3 HNEW
  go_wp2
  rw [← HWS.out]
  go_loopw [9, 29] (fun v9 v29 wr => ∃ ao cap, ∃ i : Nat, v9 = .slice ao i cap ∧ v29 = .int .i64 i ∧ i ≤ n ∧ Hid (Sto B w wr ⟨sp, sb⟩ p sorts20 (L1 sorts20 kinds nds i) ∧ IntsAt wr B3 (.slice ao i cap) (adl sorts20 kinds nds i) ∧ B3 ≤ wr.heap.size)) (fun _ v29 _ => n - (intOf v29).toNat)
  case atStart =>
    refine ⟨none, 0, 0, rfl, rfl, by omega, ?_⟩
    first | rw [← HW2.out.1] | (rw [HWS.out, ← HW2.out.1, ← HWS.out])
    exact ⟨hS.out, IntsAt.nil _ _, HB3W.out⟩
  case round =>
    obtain ⟨ao, cap, i, rfl, rfl, hi, hI⟩ := hrel
    clear hS HB3W
    by_cases hin : i < n
    · obtain ⟨b, off, rfl, hb, hcell0⟩ := HC.out.resolve_left (by rw [← HN.out]; omega)
      have hil : i < nds.length := by rw [← HN.out]; exact hin
      have hcc := fun c hc => hI.out.1.world.cell (hcell0 i hil c hc) (by show ¬ B ≤ b; omega)
      obtain ⟨x, hx⟩ : ∃ x, x = nds.getD i ndz := ⟨_, rfl⟩
      rw [← hx] at hcc
      have k0 := hcc 0 (by omega)
      have k1 := hcc 1 (by omega)
      have k2 := hcc 2 (by omega)
      have k3 := hcc 3 (by omega)
      have k4 := hcc 4 (by omega)
      simp only [Nd.cell, Nat.add_zero] at k0 k1 k2 k3 k4
      have hxok : x.Ok := by rw [hx]; exact HOK.out _ (by rw [List.getD_eq_getElem?_getD, List.getElem?_eq_getElem hil]; exact List.getElem_mem _)
      obtain ⟨a, t, t', e, hn1, hn2, hn3, hn4, hn5⟩ := HSTEP.out i (by omega) hil (HINV.out i (by omega))
      obtain ⟨k, hk'⟩ : ∃ k, k = kOf kinds nds i := ⟨_, rfl⟩
      have hkl := inf_mem (srt := sorts20) (nds := nds) hk.1 hk.2 HOK.out i
      have hndx : nd nds i = x := by rw [hx]; rfl
      have hmod : x.sort.tmod (kinds : Int) = (k : Int) := by
        rw [Int.tmod_eq_emod_of_nonneg hxok.s.1, hk']
        unfold kOf
        rw [hndx]
        have := Int.emod_nonneg x.sort (show (kinds : Int) ≠ 0 by omega)
        omega
      have hk6 : k < 6 := by rw [hk']; exact hkl.1
      have hwsort : wrap64 x.sort = x.sort := wrap_fit (by have := hxok.s; omega) (by have := hxok.s; omega)
      have hwk : wrap64 (k : Int) = k := wrap_fit (by omega) (by omega)
      have hk0 : ((kinds : Int) == 0) = false := by simp; omega
      have hinf : inf sorts20 kinds nds i = sorts20.getD k noInf := by rw [hk']; rfl
      have hszI : sz sorts20 kinds nds i = szOf (sorts20.getD k noInf) := by rw [hk']; rfl
      have hokI := getD_ok sorts20_lay.ok (k := k) hk6
      have HNODE : Hid (BlkAt (wr.alloc (.cells #[.int .u8 x.sort, .int .u64 x.num, .int .u8 x.l0, .int .u8 x.l1, .int .u8 x.l2] 65)) wr.heap.size 65 5 x.cell) := blk_new wr 65 _ 5 x.cell rfl
      obtain ⟨W1, hW1⟩ : ∃ W1, W1 = wr.alloc (.cells #[.int .u8 x.sort, .int .u64 x.num, .int .u8 x.l0, .int .u8 x.l1, .int .u8 x.l2] 65) := ⟨_, rfl⟩
      obtain ⟨nb, hnb⟩ : ∃ nb, nb = wr.heap.size := ⟨_, rfl⟩
      rw [← hW1, ← hnb] at HNODE
      have HI1 : Hid (Sto B w W1 ⟨sp, sb⟩ p sorts20 (L1 sorts20 kinds nds i) ∧ IntsAt W1 B3 (.slice ao i cap) (adl sorts20 kinds nds i) ∧ B3 ≤ W1.heap.size) := by
        have hf : Fr (fun _ => False) wr W1 := by rw [hW1]; exact (Fr.refl _ wr).alloc _
        exact ⟨hI.out.1.quiet hf, hI.out.2.1.fr hf fun _ _ => id, Nat.le_trans hI.out.2.2 hf.size⟩
      have HNB : Hid (B3 ≤ nb) := by show _ ≤ _; rw [hnb]; exact hI.out.2.2
      have HWN := Lib.hid (And.intro hW1 hnb)
      have HX := Lib.hid hx
      have HN1 := Lib.hid hn1
      have HN2 := Lib.hid hn2
      have HN3 := Lib.hid hn3
      have HN4 := Lib.hid hn4
      have HK := Lib.hid hk'
      have HNDX := Lib.hid hndx
      have HSZI := Lib.hid hszI
      have HXOK := Lib.hid hxok
      clear hcc hcell0 hI hW1 hnb hx hn1 hn2 hn3 hn4 hn5 hk' hndx hinf hkl hszI hxok
      go_wp2_with fail
      rw [← HWN.out.1, ← HWN.out.2]
      clear k0 k1 k2 k3 k4 hmod hwsort hk0 hwk
      refine (sorts20_any W1).mono ?_
      rintro e w3 ⟨sb', rfl, hsb', hso', hbl'⟩
      have d0 := hso'.get (i := k) (by rw [len20]; exact hk6) (c := 0) (by omega)
      have d1 := hso'.get (i := k) (by rw [len20]; exact hk6) (c := 1) (by omega)
      have d2 := hso'.get (i := k) (by rw [len20]; exact hk6) (c := 2) (by omega)
      have d3 := hso'.get (i := k) (by rw [len20]; exact hk6) (c := 3) (by omega)
      have d4 := hso'.get (i := k) (by rw [len20]; exact hk6) (c := 4) (by omega)
      have d5 := hso'.get (i := k) (by rw [len20]; exact hk6) (c := 5) (by omega)
      have d6 := hso'.get (i := k) (by rw [len20]; exact hk6) (c := 6) (by omega)
      have d7 := hso'.get (i := k) (by rw [len20]; exact hk6) (c := 7) (by omega)
      have d8 := hso'.get (i := k) (by rw [len20]; exact hk6) (c := 8) (by omega)
      simp only [Inf.cell, Nat.add_zero] at d0 d1 d2 d3 d4 d5 d6 d7 d8
      obtain ⟨I, hIe⟩ : ∃ I, I = sorts20.getD k noInf := ⟨_, rfl⟩
      rw [← hIe] at d0 d1 d2 d3 d4 d5 d6 d7 HSZI hokI
      have hsize := size_any I hokI w3
      unfold Inf.val at hsize
      obtain ⟨Z, hZ⟩ : ∃ Z, Z = I.size := ⟨_, rfl⟩
      rw [← hZ] at hsize
      have HSIZE := Lib.hid hsize
      have HSZ2 : Hid ((sz sorts20 kinds nds i : Int) = max Z 1) := by
        show _ = _
        rw [HSZI.out, hZ]; unfold szOf; omega
      have HBL3 : Hid (Fr (fun _ => False) W1 w3) := Fr.of_below hbl'
      clear hsb' hso' hbl' hIe hsize hZ hokI
      go_wp2_with fail
      refine HSIZE.out.mono ?_
      rintro e w4 ⟨rfl, hb4⟩
      have HBL4 : Hid (Fr (fun _ => False) W1 w4) := HBL3.out.trans (Fr.of_below hb4)
      clear hb4 HSIZE d0 d1 d2 d3 d4 d5 d6 d7 d8 HBL3
      have HI4 : Hid (Sto B w w4 ⟨sp, sb⟩ p sorts20 (L1 sorts20 kinds nds i) ∧ IntsAt w4 B3 (.slice ao i cap) (adl sorts20 kinds nds i) ∧ B3 ≤ w4.heap.size ∧ BlkAt w4 nb 65 5 x.cell) :=
        ⟨HI1.out.1.quiet HBL4.out, HI1.out.2.1.fr HBL4.out fun _ _ => id, Nat.le_trans HI1.out.2.2 HBL4.out.size, HNODE.out.fr HBL4.out id⟩
      have hn1' : newM sorts20 (L1 sorts20 kinds nds i) (k : Int) (sz sorts20 kinds nds i : Int) = (a, 0, t) := by rw [HK.out]; exact HN1.out
      have h29 := HI4.out.1.new' (k : Int) (sz sorts20 kinds nds i : Int) hn1'
      obtain ⟨SZ, hSZ⟩ : ∃ SZ : Int, SZ = (sz sorts20 kinds nds i : Int) := ⟨_, rfl⟩
      rw [← hSZ] at h29
      have H29 := Lib.hid h29
      have key : (Z < 1 ∧ SZ = 1) ∨ (¬ Z < 1 ∧ SZ = Z) := by
        have := HSZ2.out
        rw [← hSZ] at this
        omega
      clear h29 hSZ HI1 HBL4 hn1'
      rcases key with ⟨hz, hsz⟩ | ⟨hz, hsz⟩
      all_goals
        subst hsz
        go_wp2_with fail
        refine H29.out.mono ?_
        rintro e' w5 ⟨rfl, h5⟩
        have HI5 : Hid (Sto B w w5 ⟨sp, sb⟩ p sorts20 t ∧ IntsAt w5 B3 (.slice ao i cap) (adl sorts20 kinds nds i) ∧ B3 ≤ w5.heap.size ∧ BlkAt w5 nb 65 5 x.cell) :=
          ⟨h5.out.1, HI4.out.2.1.fr h5.out.2 fun k hk hm => by have := (HI4.out.2.1.lt k hk).1; have := HB3.out.1 k hm; omega, Nat.le_trans HI4.out.2.2.1 h5.out.2.size, HI4.out.2.2.2.fr h5.out.2 fun hm => by have := HNB.out; have := HB3.out.1 _ hm; omega⟩
        have hnum := HI5.out.2.2.2.cell (i := 1) (by omega)
        simp only [Nd.cell] at hnum
        have hn2' : setM sorts20 t (a : Int) x.num = (e, t') := by rw [← HNDX.out]; exact HN2.out
        have H43 := Lib.hid (HI5.out.1.set' (a : Int) x.num HXOK.out.n hn2')
        clear h5 hn2' H29
        go_wp2_with fail
        refine H43.out.mono ?_
        rintro e' w6 ⟨rfl, h6⟩
        have HI6 : Hid (Sto B w w6 ⟨sp, sb⟩ p sorts20 t' ∧ IntsAt w6 B3 (.slice ao i cap) (adl sorts20 kinds nds i) ∧ B3 ≤ w6.heap.size) :=
          ⟨h6.out.1, HI5.out.2.1.fr h6.out.2 fun k hk hm => by have := (HI5.out.2.1.lt k hk).1; have := HB3.out.1 k hm; omega, Nat.le_trans HI5.out.2.2.1 h6.out.2.size⟩
        have hal := adl_len sorts20 kinds nds i
        clear h6 H43 hnum
        go_wp2_with (first
          | (at_builtin; refine wpList_append_own _ rfl _ _ 29 rfl B3 3 i3 (.int .i64 0) 1 8 Try.underlying29 hi3 hz0 hz1 hz2 rfl (by decide) _ _ _ rfl (HI6.out.2.1.alloc _) ⟨w6.heap.size, 0, none⟩ 1 1 [.int .i64 a] rfl rfl (cell_one_new _ _ _) (fun u hu => by simp at hu; subst hu; rfl) (by rw [hal]; unfold maxLen; omega) (by rw [hal]; omega) (by have := HI6.out.2.2; simp; omega) ?_))
        intro v' w7 hown' hgrow _
        have HI7 : Hid (Sto B w w7 ⟨sp, sb⟩ p sorts20 (L1 sorts20 kinds nds (i + 1)) ∧ IntsAt w7 B3 v' (adl sorts20 kinds nds (i + 1)) ∧ B3 ≤ w7.heap.size) := by
          have hf : Fr (fun k => B3 ≤ k) w6 w7 := ((Fr.refl _ w6).alloc _).trans (Fr.of_grown hgrow fun k hk => (HI6.out.2.1.lt k hk).1)
          refine ⟨?_, ?_, Nat.le_trans HI6.out.2.2 hf.size⟩
          · rw [HN4.out]
            exact HI6.out.1.other hf (fun k hk h => by have := HB3.out.1 k hk; omega) (by have := HB3.out; show ¬ B3 ≤ sp; omega) (by have := HB3.out; show ¬ B3 ≤ sb; omega) (fun k hk => by have := HB3.out; omega)
          · rw [adl_succ, HN3.out]
            exact IntsAt.one (by first | exact hown' | (rw [hal]; exact hown'))
        obtain ⟨ao7, cap7, rfl, _⟩ := HI7.out.2.1.shape
        rw [adl_len] at HI7 ⊢
        clear hown' hgrow HI6 HI5 hal
        go_wp2
        go_roundw
        case rel => exact ⟨ao7, cap7, i + 1, by first | rfl | go_num, by go_num, by omega, HI7.out⟩
        case measure => simp [intOf]; omega
    · have hin2 : i = n := by omega
      subst hin2
      have HNET : Hid (Sto B w wr ⟨sp, sb⟩ p sorts20 (L1 sorts20 kinds nds i) ∧ Net sorts20 kinds nds (Vat sorts20 kinds nds 0 0) (L1 sorts20 kinds nds i) ∧ IntsAt wr B3 (.slice ao i cap) (adl sorts20 kinds nds i) ∧ B3 ≤ wr.heap.size) := by
        refine ⟨hI.out.1, ?_, hI.out.2.1, hI.out.2.2⟩
        have h := HINV.out i (by rw [← HN.out]; exact Nat.le_refl _)
        rw [HN.out] at h ⊢
        refine (h.net sorts20_lay hk.1 hk.2 HOK.out).congr fun j q _ _ => ?_
        unfold Vat
        rw [if_neg (by omega)]
      have HADR : Hid (∀ j r, j < nds.length → (tad sorts20 kinds nds j r : Int) < 9000) := by
        intro j r hj
        unfold tad
        split
        · rename_i h0
          have hl : tgt nds j r - 1 < nds.length := by
            unfold tgt at h0 ⊢
            have h1 := Int.emod_lt_of_pos (rawOf (nd nds j) r) (show (0 : Int) < (nds.length : Int) + 1 by omega)
            omega
          have hu := HNET.out.2.1.used _ hl
          have := (HNET.out.2.1.wf.in_ hu).2
          rw [HNET.out.2.1.n] at this
          omega
        · omega
      clear hI HINV HSTEP
      go_wp2
      go_loopw [64] (fun v64 wr => ∃ (j : Nat) (s : HS), v64 = .int .i64 j ∧ j ≤ i ∧ Hid (Sto B w wr ⟨sp, sb⟩ p sorts20 s ∧ Net sorts20 kinds nds (Vat sorts20 kinds nds j 0) s ∧ IntsAt wr B3 (.slice ao i cap) (adl sorts20 kinds nds i) ∧ B3 ≤ wr.heap.size)) (fun v64 _ => i - (intOf v64).toNat)
      case atStart => exact ⟨0, _, rfl, by omega, HNET.out⟩
      case round =>
        obtain ⟨j, s, rfl, hj, hJ⟩ := hrel
        clear HNET
        by_cases hji : j < i
        · obtain ⟨b, off, rfl, hb, hcell0⟩ := HC.out.resolve_left (by rw [← HN.out]; omega)
          have hjl : j < nds.length := by rw [← HN.out]; exact hji
          have hcc := fun c hc => hJ.out.1.world.cell (hcell0 j hjl c hc) (by show ¬ B ≤ b; omega)
          obtain ⟨x, hx⟩ : ∃ x, x = nds.getD j ndz := ⟨_, rfl⟩
          rw [← hx] at hcc
          have k0 := hcc 0 (by omega)
          have k1 := hcc 1 (by omega)
          have k2 := hcc 2 (by omega)
          have k3 := hcc 3 (by omega)
          have k4 := hcc 4 (by omega)
          simp only [Nd.cell, Nat.add_zero] at k0 k1 k2 k3 k4
          have hxok : x.Ok := by rw [hx]; exact HOK.out _ (by rw [List.getD_eq_getElem?_getD, List.getElem?_eq_getElem hjl]; exact List.getElem_mem _)
          have HXOK := Lib.hid hxok
          have HX := Lib.hid hx
          obtain ⟨nb, hnb⟩ : ∃ nb, nb = wr.heap.size := ⟨_, rfl⟩
          have HNB : Hid (B3 ≤ nb) := by show _ ≤ _; rw [hnb]; exact hJ.out.2.2.2
          have HNODE : Hid (Sto B w (wr.alloc (.cells #[.int .u8 x.sort, .int .u64 x.num, .int .u8 x.l0, .int .u8 x.l1, .int .u8 x.l2] 65)) ⟨sp, sb⟩ p sorts20 s ∧ Net sorts20 kinds nds (Vat sorts20 kinds nds j 0) s ∧ IntsAt (wr.alloc (.cells #[.int .u8 x.sort, .int .u64 x.num, .int .u8 x.l0, .int .u8 x.l1, .int .u8 x.l2] 65)) B3 (.slice ao i cap) (adl sorts20 kinds nds i) ∧ BlkAt (wr.alloc (.cells #[.int .u8 x.sort, .int .u64 x.num, .int .u8 x.l0, .int .u8 x.l1, .int .u8 x.l2] 65)) nb 65 5 x.cell ∧ B3 ≤ (wr.alloc (.cells #[.int .u8 x.sort, .int .u64 x.num, .int .u8 x.l0, .int .u8 x.l1, .int .u8 x.l2] 65)).heap.size) := by
            have hf : Fr (fun _ => False) wr (wr.alloc (.cells #[.int .u8 x.sort, .int .u64 x.num, .int .u8 x.l0, .int .u8 x.l1, .int .u8 x.l2] 65)) := (Fr.refl _ wr).alloc _
            exact ⟨hJ.out.1.quiet hf, hJ.out.2.1, hJ.out.2.2.1.fr hf fun _ _ => id, by rw [hnb]; exact blk_new wr 65 _ 5 x.cell rfl, Nat.le_trans hJ.out.2.2.2 hf.size⟩
          have HNBE := Lib.hid hnb
          clear hcc hcell0 hJ hxok hx hnb
          go_wp2
          rw [← HNBE.out]
          go_loopw [69] (fun v69 wr => ∃ (r : Nat) (s : HS), v69 = .int .i64 r ∧ r ≤ 3 ∧ Hid (Sto B w wr ⟨sp, sb⟩ p sorts20 s ∧ Net sorts20 kinds nds (Vat sorts20 kinds nds j r) s ∧ IntsAt wr B3 (.slice ao i cap) (adl sorts20 kinds nds i) ∧ BlkAt wr nb 65 5 x.cell ∧ B3 ≤ wr.heap.size)) (fun v69 _ => 3 - (intOf v69).toNat)
          case atStart => exact ⟨0, s, rfl, by omega, HNODE.out⟩
          case round =>
            obtain ⟨r, s, rfl, hr, hR⟩ := hrel
            clear HNODE k0 k1 k2 k3 k4
            by_cases hr3 : r < 3
            · have hraw : x.cell (2 + r) = .int .u8 (rawOf x r) := by
                match r, hr3 with
                | 0, _ => rfl
                | 1, _ => rfl
                | 2, _ => rfl
              have hrc := hR.out.2.2.2.1.cell (i := 2 + r) (by omega)
              rw [hraw] at hrc
              obtain ⟨y, hy⟩ : ∃ y, y = rawOf x r := ⟨_, rfl⟩
              have hyr : 0 ≤ y ∧ y ≤ 255 := by
                rw [hy]
                match r, hr3 with
                | 0, _ => exact HXOK.out.a
                | 1, _ => exact HXOK.out.b
                | 2, _ => exact HXOK.out.c
              rw [← hy] at hrc
              have hwy : wrap64 y = y := wrap_fit (by omega) (by omega)
              obtain ⟨to', hto⟩ : ∃ to', to' = tgt nds j r := ⟨_, rfl⟩
              have htm : y.tmod ((i : Int) + 1) = (to' : Int) := by
                rw [Int.tmod_eq_emod_of_nonneg hyr.1, hto]
                unfold tgt nd
                rw [← HX.out, ← hy, ← HN.out]
                have := Int.emod_nonneg y (show (i : Int) + 1 ≠ 0 by omega)
                omega
              have HTM := Lib.hid htm
              clear htm
              have hti : to' ≤ i := by
                rw [hto]
                unfold tgt
                rw [← HN.out]
                have h1 := Int.emod_lt_of_pos (rawOf (nd nds j) r) (show (0 : Int) < (i : Int) + 1 by omega)
                omega
              have hi0 : (((i : Int) + 1) == 0) = false := by simp; omega
              have HTO := Lib.hid hto
              have hwt : wrap64 (to' : Int) = to' := wrap_fit (by omega) (by omega)
              have HWY := Lib.hid hwy
              have HWT := Lib.hid hwt
              have HI0 := Lib.hid hi0
              clear hy hto hraw hwy hwt hi0
              have hjl : j < nds.length := by rw [← HN.out]; exact hji
              have HVN : Hid (∀ s', Net sorts20 kinds nds (fun j' r' => if j' = j ∧ r' = r then (tad sorts20 kinds nds j r : Int) else Vat sorts20 kinds nds j r j' r') s' → Net sorts20 kinds nds (Vat sorts20 kinds nds j (r + 1)) s') := by
                intro s' h
                refine h.congr fun j' q hj' hq => ?_
                unfold Vat
                by_cases h1 : j' = j ∧ q = r
                · rw [if_pos h1, if_pos (by omega), h1.1, h1.2]
                · rw [if_neg h1]
                  by_cases h2 : j' < j ∨ (j' = j ∧ q < r)
                  · rw [if_pos h2, if_pos (by omega)]
                  · rw [if_neg h2, if_neg (by omega)]
              have HV0 : Hid (Vat sorts20 kinds nds j r j r = 0) := by show _ = _; unfold Vat; rw [if_neg (by omega)]
              by_cases ht0 : 0 < to'
              · obtain ⟨t1, rfl⟩ : ∃ t1, to' = t1 + 1 := ⟨to' - 1, by omega⟩
                obtain ⟨A, hA⟩ : ∃ A, A = adr sorts20 kinds nds j := ⟨_, rfl⟩
                obtain ⟨T, hT⟩ : ∃ T, T = adr sorts20 kinds nds t1 := ⟨_, rfl⟩
                have htad : (tad sorts20 kinds nds j r : Int) = T := by
                  unfold tad
                  rw [← HTO.out, if_pos (by omega), hT]; rfl
                have hTl : (T : Int) < 9000 := by rw [← htad]; exact HADR.out j r hjl
                have ⟨e, s', hpt, hnet⟩ : ∃ e s', pointM sorts20 s (A : Int) (r : Int) (T : Int) = (e, s') ∧ Net sorts20 kinds nds (Vat sorts20 kinds nds j (r + 1)) s' := by
                  have hp := hR.out.2.1.point sorts20_lay hk.1 hk.2 HOK.out (i := j) (q := r) hjl (t := (T : Int)) ⟨by omega, by omega⟩
                  rw [← hA] at hp
                  by_cases hq : (r : Int) < (inf sorts20 kinds nds j).ptrs
                  · obtain ⟨s', h1, h2⟩ := hp.1 hq
                    rw [← htad] at h2
                    exact ⟨0, s', h1, HVN.out s' h2⟩
                  · refine ⟨1, s, hp.2 hq, HVN.out s (hR.out.2.1.congr fun j' q hj' hq' => ?_)⟩
                    by_cases h1 : j' = j ∧ q = r
                    · rw [h1.1, h1.2] at hq'; exact absurd hq' hq
                    · rw [if_neg h1]
                have hrow := hR.out.2.2.1
                obtain ⟨g, hg1, hg, hc1⟩ := hrow.elem (j := j) (by rw [adl_len]; exact hji)
                subst hg1
                have hc2 := IntsAt.get hrow (j := t1) (by rw [adl_len]; omega)
                rw [adl_get _ _ _ hji, ← hA] at hc1
                rw [adl_get _ _ _ (by omega), ← hT] at hc2
                have hwA : IntKind.i64.wrap (((t1 + 1 : Nat) : Int) - 1) = t1 := by rw [IntKind.wrap_i64]; omega
                have hwB : IntKind.i64.wrap ((t1 : Int) + 1 - 1) = t1 := by rw [IntKind.wrap_i64]; omega
                have hwC : IntKind.i64.wrap (t1 : Int) = t1 := by rw [IntKind.wrap_i64]; omega
                have hti1 : (0 : Int) ≤ (t1 : Int) ∧ (t1 : Int) < (i : Int) := by omega
                have hji1 : (0 : Int) ≤ (j : Int) ∧ (j : Int) < (i : Int) := by omega
                have H42 := Lib.hid ((hR.out.1.quiet (Fr.refl (fun _ => False) wr).drew).point (A : Int) (r : Int) (T : Int) (by omega) hpt)
                have HNET2 := Lib.hid hnet
                have HRO : Hid (∀ w', Fr p.mine wr.drew w' → IntsAt w' B3 (.slice (some ⟨g, 0, none⟩) i cap) (adl sorts20 kinds nds i) ∧ BlkAt w' nb 65 5 x.cell ∧ B3 ≤ w'.heap.size) := by
                  intro w' hf
                  have hf2 : Fr p.mine wr w' := (Fr.refl _ wr).drew.trans hf
                  exact ⟨hR.out.2.2.1.fr hf2 fun k hk hm => by have := (hR.out.2.2.1.lt k hk).1; have := HB3.out.1 k hm; omega, hR.out.2.2.2.1.fr hf2 fun hm => by have := HNB.out; have := HB3.out.1 _ hm; omega, Nat.le_trans hR.out.2.2.2.2 hf2.size⟩
                clear hR hA hT htad hpt hnet hrow hg HVN HV0
                have htm := HTM.out
                have hwy := HWY.out
                have hwt := HWT.out
                have hi0 := HI0.out
                go_wp2_with fail
                clear htm hwy hi0 hwt
                go_still_tail 11, (by kernel_rfl)
                change wpList _ _ _ _ _ wr.drew
                go_wp2_with fail
                refine H42.out.mono ?_
                rintro e' w8 ⟨rfl, h8⟩
                have HR8 : Hid (Sto B w w8 ⟨sp, sb⟩ p sorts20 s' ∧ Net sorts20 kinds nds (Vat sorts20 kinds nds j (r + 1)) s' ∧ IntsAt w8 B3 (.slice (some ⟨g, 0, none⟩) i cap) (adl sorts20 kinds nds i) ∧ BlkAt w8 nb 65 5 x.cell ∧ B3 ≤ w8.heap.size) := by
                  have h9 := HRO.out w8 h8.out.2
                  exact ⟨h8.out.1, HNET2.out, h9.1, h9.2.1, h9.2.2⟩
                clear h8 H42 HRO hc1 hc2 hrc
                go_wp2
                go_roundw
                case rel => exact ⟨r + 1, s', by go_num, by omega, HR8.out⟩
                case measure => simp [intOf]; omega
              · have ht00 : to' = 0 := by omega
                subst ht00
                have HR2 : Hid (Sto B w wr ⟨sp, sb⟩ p sorts20 s ∧ Net sorts20 kinds nds (Vat sorts20 kinds nds j (r + 1)) s ∧ IntsAt wr B3 (.slice ao i cap) (adl sorts20 kinds nds i) ∧ BlkAt wr nb 65 5 x.cell ∧ B3 ≤ wr.heap.size) := by
                  refine ⟨hR.out.1, HVN.out s (hR.out.2.1.congr fun j' q hj' hq => ?_), hR.out.2.2⟩
                  by_cases h1 : j' = j ∧ q = r
                  · rw [if_pos h1, h1.1, h1.2, HV0.out]
                    unfold tad
                    rw [← HTO.out, if_neg (by omega)]; rfl
                  · rw [if_neg h1]
                have htm : y.tmod ((i : Int) + 1) = 0 := by have := HTM.out; simpa using this
                have hwy := HWY.out
                have hi0 := HI0.out
                clear hR HVN HV0 hti HTM HTO HWT
                go_wp2
                clear htm hwy hi0
                go_roundw
                case rel => exact ⟨r + 1, s, by go_num, by omega, HR2.out⟩
                case measure => simp [intOf]; omega
            · have hr32 : r = 3 := by omega
              have HJ2 : Hid (Sto B w wr ⟨sp, sb⟩ p sorts20 s ∧ Net sorts20 kinds nds (Vat sorts20 kinds nds (j + 1) 0) s ∧ IntsAt wr B3 (.slice ao i cap) (adl sorts20 kinds nds i) ∧ B3 ≤ wr.heap.size) := by
                refine ⟨hR.out.1, hR.out.2.1.congr fun j' q hj' hq => ?_, hR.out.2.2.1, hR.out.2.2.2.2⟩
                have hq3 : q < 3 := by
                  obtain ⟨_, hm, _⟩ := inf_mem (srt := sorts20) (nds := nds) hk.1 hk.2 HOK.out j'
                  have h3 : ∀ I ∈ sorts20, I.ptrs ≤ 3 := by decide
                  have := h3 _ hm
                  omega
                unfold Vat
                by_cases h : j' < j ∨ (j' = j ∧ q < r)
                · rw [if_pos h, if_pos (by omega)]
                · rw [if_neg h, if_neg (by omega)]
              clear hR
              subst hr32
              go_wp2
              go_roundw
              case rel => exact ⟨j + 1, s, by go_num, by omega, HJ2.out⟩
              case measure => simp [intOf]; omega
        · have hji2 : j = i := by omega
          have HFIN : Hid (∃ B3 s, LaidAt B w wr ⟨sp, sb⟩ p sorts20 kinds nds (fun j r => tad sorts20 kinds nds j r) ao j cap B3 s) := by
            refine ⟨B3, s, hJ.out.1, hJ.out.2.1.congr fun j' q hj' hq => ?_, by rw [hji2]; exact hJ.out.2.2.1, by rw [hji2]; exact HN.out, HB3.out⟩
            unfold Vat
            rw [if_pos (.inl (by rw [hji2, HN.out]; exact hj'))]
          clear hJ
          subst hji2
          go_wp2
          go_ret2
          exact ⟨⟨sp, sb⟩, p, ao, cap, rfl, HFIN⟩
end Go.Proofs.Ytjfpijoeddjgmaa
