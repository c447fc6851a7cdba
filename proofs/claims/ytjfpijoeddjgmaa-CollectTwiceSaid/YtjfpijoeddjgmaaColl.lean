/- Collect. Conditions: the store's memory reads as the plain model says; the rounds come to an end. -/
import Derived.Test.YtjfpijoeddjgmaaMarkW7
namespace Go.Proofs.Ytjfpijoeddjgmaa
open Go.RowKit Hm
set_option linter.unusedVariables false

/-- What is given back: of all cells, rising, those that are not among some, rising: the heap, how many stay, how many go. -/
def coll : List Int → List Int → HS → HS × Nat × Nat
  | [], _, s => (s, 0, 0)
  | a :: cs, [], s => ((coll cs [] (s.free a.toNat).2).1, (coll cs [] (s.free a.toNat).2).2.1, (coll cs [] (s.free a.toNat).2).2.2 + 1)
  | a :: cs, k :: ks, s => if k = a then ((coll cs ks s).1, (coll cs ks s).2.1 + 1, (coll cs ks s).2.2)
      else ((coll cs (k :: ks) (s.free a.toNat).2).1, (coll cs (k :: ks) (s.free a.toNat).2).2.1, (coll cs (k :: ks) (s.free a.toNat).2).2.2 + 1)
theorem coll_free {a : Int} {cs ks : List Int} {s : HS} (h : ∀ k l, ks = k :: l → k ≠ a) : coll (a :: cs) ks s = ((coll cs ks (s.free a.toNat).2).1, (coll cs ks (s.free a.toNat).2).2.1, (coll cs ks (s.free a.toNat).2).2.2 + 1) := by
  cases ks with
  | nil => rfl
  | cons k l =>
    show (if k = a then _ else _) = _
    rw [if_neg (h k l rfl)]
theorem coll_keep {a : Int} {cs ks : List Int} {s : HS} : coll (a :: cs) (a :: ks) s = ((coll cs ks s).1, (coll cs ks s).2.1 + 1, (coll cs ks s).2.2) := by
  show (if a = a then _ else _) = _
  rw [if_pos rfl]
def collAll (s : HS) (ks : List Int) : HS × Nat × Nat := coll (cellsTo s.used (1 + 32 * s.n)) ks s
def CollPost (w : World) (p : HP) (srt : List Inf) (most : Int) (zs : List Int) (m0 : MK) (e : Ending) (w' : World) : Prop :=
  ∃ out m', Rds srt most zs [] m0 out m' ∧ Fr p.mine w w' ∧
    ((m'.e ≠ 0 ∧ HeapAt w' p m'.s ∧ e = .returned (.tuple #[.slice none 0 0, .agg #[.int .i64 0, .int .i64 0, .int .i64 0, .int .i64 0, .int .i64 0], .int .i64 m'.e])) ∨
     (m'.e = 0 ∧ HeapAt w' p (collAll m'.s (sorted m'.seen)).1 ∧ ∃ (a2 : Option Addr) (c2 : Nat) (pa pb pc : Int),
        e = .returned (.tuple #[.slice a2 zs.length c2, .agg #[.int .i64 (collAll m'.s (sorted m'.seen)).2.1, .int .i64 (collAll m'.s (sorted m'.seen)).2.2, .int .i64 pa, .int .i64 pb, .int .i64 pc], .int .i64 0]) ∧
        IntsAt w' w.heap.size (.slice a2 zs.length c2) out ∧ out.length = zs.length))
set_option maxRecDepth 100000 in
set_option maxHeartbeats 8000000 in
theorem collect_any {w : World} {q : SPl} {p : HP} {srt : List Inf} {s : HS} {most : Int} (hA : HeapAt w p s) (hS : StoreAt w q p srt) (hsep : ∀ k, p.mine k → k ≠ q.sp ∧ k ≠ q.sb) (hso : SortsOk srt) (hmost : 1 ≤ most)
    {ro : Option Addr} {rcap : Nat} {zs : List Int} (hz : RootsAt w p w.heap.size ro zs) (Good : HS → Prop) (μ : HS → Nat) (hg : Good s)
    (hdec : ∀ m out m', Good m.s → m.e = 0 → m.wait = [] → Rnd srt most zs m out m' → m'.e = 0 → m'.wait = [] ∧ Good m'.s ∧ (m'.moved = true → μ m'.s < μ m.s)) :
    Calls Try.prog 30 #[.pointer (some ⟨q.sp, 0, none⟩), .slice ro zs.length rcap, .int .i64 most] w fun e w' => Hid (CollPost w p srt most zs ⟨s, [], [], false, true, 0⟩ e w') := by
  obtain ⟨m0, hm0⟩ : ∃ m0 : MK, m0 = ⟨s, [], [], false, true, 0⟩ := ⟨_, rfl⟩
  have HMK : Hid (∀ W, Fr (fun _ => False) w W → Calls Try.prog 51 #[.pointer (some ⟨q.sp, 0, none⟩), .slice ro zs.length rcap, .int .i64 most] W fun e w' => Hid (MarkPost W p srt most zs m0 e w')) := by
    intro W hW
    rw [hm0]
    refine mark_any (hA.fr hW fun _ _ => id) (hS.fr hW id id) hsep hso hmost ?_ Good μ hg hdec
    obtain ⟨h1, h2, h3⟩ := hz
    refine ⟨h1.imp id ?_, h2, h3⟩
    rintro ⟨b, off, rfl, hb, hm, hc⟩
    exact ⟨b, off, rfl, Nat.lt_of_lt_of_le hb hW.size, hm, fun j hj => hW.cell (hc j hj) id⟩
  rw [← hm0]
  have HST := Lib.hid hS
  have HSEP := Lib.hid hsep
  have HLT := Lib.hid hA.lt
  obtain ⟨n, hn⟩ : ∃ n, n = zs.length := ⟨_, rfl⟩
  rw [← hn] at HMK
  have HN := Lib.hid hn
  rw [← hn]
  clear hn hm0 hA hS hsep hso hz hg hdec
  go_enter Try.func30, Try.ntmps30
  go_wp2_with fail
  refine (HMK.out _ ((Fr.refl _ w).alloc _)).mono ?_
  rintro e w2 hpost
  obtain ⟨tb, htb⟩ : ∃ tb, tb = w.heap.size := ⟨_, rfl⟩
  have HTB := Lib.hid htb
  have HB0 : Hid (∀ W, Fr p.mine (w.alloc (.cells #[.int .i64 0, .int .i64 0, .int .i64 0, .int .i64 0, .int .i64 0] 51)) W → BlkAt W tb 51 5 (fun _ => .int .i64 0)) := by
    intro W hW
    rw [htb]
    exact (blk_new w 51 _ 5 _ rfl).fr hW fun h => by have := HLT.out _ h; omega
  obtain ⟨out, m', hrds, hH, hF, hres⟩ := hpost.out
  have hb2 := HB0.out _ hF
  have HF2 : Hid (Fr p.mine w w2) := ((Fr.refl _ w).alloc _).trans hF
  rw [← htb]
  clear hpost htb HMK hF
  rcases hres with ⟨he, rfl⟩ | ⟨he, a1, c1, a2, c2, pa, pb, pc, rfl, hi1, hi2, hlo, hpa⟩
  · have hba := fun o => hb2.alloc o
    have z0 := fun o => (hba o).cell (i := 0) (by omega)
    have z1 := fun o => (hba o).cell (i := 1) (by omega)
    have z2 := fun o => (hba o).cell (i := 2) (by omega)
    have z3 := fun o => (hba o).cell (i := 3) (by omega)
    have z4 := fun o => (hba o).cell (i := 4) (by omega)
    have f0 := fun o => (hba o).frozen 0
    have f1 := fun o => (hba o).frozen 1
    have f2 := fun o => (hba o).frozen 2
    have f3 := fun o => (hba o).frozen 3
    have f4 := fun o => (hba o).frozen 4
    obtain ⟨e, hee⟩ : ∃ e, e = m'.e := ⟨_, rfl⟩
    rw [← hee] at he ⊢
    have he' : (e != 0) = true := by simpa using he
    have HPOST : Hid (∀ W, Fr (fun k => k = tb) w2 W → CollPost w p srt most zs m0 (.returned (.tuple #[.slice none 0 0, .agg #[.int .i64 0, .int .i64 0, .int .i64 0, .int .i64 0, .int .i64 0], .int .i64 e])) W) := by
      intro W hW
      have h1 := HTB.out
      refine ⟨out, m', hrds, ⟨hW.os.trans HF2.out.os, hW.tape.trans HF2.out.tape, hW.output.trans HF2.out.output, Nat.le_trans HF2.out.size hW.size, fun b hb hS => ?_⟩, .inl ⟨by rw [← hee]; exact he, hH.fr hW fun k hk (h : k = tb) => by have := HLT.out k hk; omega, by rw [hee]⟩⟩
      exact (hW.block b (Nat.lt_of_lt_of_le hb HF2.out.size) fun (h : b = tb) => by omega).trans (HF2.out.block b hb hS)
    clear hba hb2 hrds hH hee he HB0
    go_wp2_with fail
    refine bodyPost_ret (v := .tuple #[.slice none 0 0, .agg #[.int .i64 0, .int .i64 0, .int .i64 0, .int .i64 0, .int .i64 0], .int .i64 e]) ?_ rfl (HPOST.out _ ?_)
    · unfold results
      go_simp
    · exact (((((((Fr.refl (fun k => k = tb) w2).alloc _).setCell (S := fun k => k = tb) rfl _).setCell (S := fun k => k = tb) rfl _).setCell (S := fun k => k = tb) rfl _).setCell (S := fun k => k = tb) rfl _).setCell (S := fun k => k = tb) rfl _)
  · rw [← HN.out] at hi2 hlo ⊢
    have hn1 : m'.s.n ≤ 2048 := by obtain ⟨_, _, _, _, _, _, _, _, h2⟩ := hH; exact h2
    have hsp := HF2.out.cell (HST.out.h0) (fun h => (HSEP.out _ h).1 rfl)
    have hspal : ∀ o, (w2.alloc o).cell? ⟨q.sp, 0, none⟩ = some (.pointer (some ⟨p.h, 0, none⟩)) := fun o => ((Fr.refl (fun _ => False) w2).alloc o).cell hsp id
    obtain ⟨t, ht⟩ : ∃ t, t = m'.s := ⟨_, rfl⟩
    obtain ⟨ks, hks⟩ : ∃ ks, ks = sorted m'.seen := ⟨_, rfl⟩
    obtain ⟨nk, hnk⟩ : ∃ nk, nk = m'.seen.length := ⟨_, rfl⟩
    have hkl : ks.length = nk := by rw [hks, sorted_len, hnk]
    rw [← hks, ← hnk] at hi1
    rw [← hnk]
    obtain ⟨cs, hcs⟩ : ∃ cs, cs = cellsTo t.used (1 + 32 * t.n) := ⟨_, rfl⟩
    have HCELLS : Hid (∀ o, Calls Try.prog 26 #[.pointer (some ⟨p.h, 0, none⟩)] (w2.alloc o) fun e w' => ∃ co cc, e = .returned (.slice co cs.length cc) ∧ Hid (IntsAt w' w2.heap.size (.slice co cs.length cc) cs ∧ Fr (fun _ => False) (w2.alloc o) w')) := by
      intro o
      refine (cells_any (w2.alloc o) (hH.fr ((Fr.refl (fun _ => False) w2).alloc o) fun _ _ => id)).mono ?_
      rintro e w' ⟨v, rfl, h1, h2⟩
      rw [← ht, ← hcs] at h1
      obtain ⟨co, cc, rfl, _⟩ := h1.shape
      exact ⟨co, cc, rfl, h1.mono (by simp), Fr.of_below h2⟩
    have hcl : cs.length ≤ 100000 := by
      have h1 := cellsTo_len t.used (1 + 32 * t.n)
      rw [← hcs] at h1
      rw [ht] at h1
      omega
    have HCA : Hid (collAll m'.s (sorted m'.seen) = coll cs ks t) := by show _ = _; unfold collAll; rw [← ht, ← hcs, ← hks]
    have HH : Hid (HeapAt w2 p t ∧ IntsAt w2 w.heap.size (.slice a1 nk c1) ks ∧ IntsAt w2 (tb + 1) (.slice a2 n c2) out) := by
      refine ⟨by rw [ht]; exact hH, hi1.mono (B' := w.heap.size) (by simp), hi2.mono (B' := tb + 1) (by rw [HTB.out]; simp)⟩
    have HLO := Lib.hid hlo
    have HE := Lib.hid he
    have HRDS := Lib.hid hrds
    have HB2 := Lib.hid hb2
    have HKL := Lib.hid hkl
    clear hsp hi1 hi2 hrds hH he ht hks hnk hcs hlo hb2 hpa hkl HB0
    obtain ⟨ts, hts⟩ : ∃ ts, ts = w2.heap.size := ⟨_, rfl⟩
    have HTS := Lib.hid hts
    have HBS : Hid (BlkAt (w2.alloc (.cells #[.int .i64 pa, .int .i64 pb, .int .i64 pc] 49)) ts 49 3 (statCell pa pb pc)) := by rw [hts]; exact blk_new w2 49 _ 3 _ rfl
    clear hts
    go_wp2_with fail
    obtain ⟨W3, hW3⟩ : ∃ W3, W3 = w2.alloc (.cells #[.int .i64 pa, .int .i64 pb, .int .i64 pc] 49) := ⟨_, rfl⟩
    have HC3 := Lib.hid (HCELLS.out (.cells #[.int .i64 pa, .int .i64 pb, .int .i64 pc] 49))
    have HF3 : Hid (Fr (fun _ => False) w2 W3) := by rw [hW3]; exact (Fr.refl _ w2).alloc _
    rw [← hW3] at HC3 HBS
    rw [← hW3, ← HTS.out]
    clear hW3 HCELLS hspal
    refine HC3.out.mono ?_
    rintro e w4 ⟨co, cc, rfl, h4⟩
    have HF4 : Hid (Fr (fun _ => False) w2 w4) := HF3.out.trans h4.out.2
    have H5 : Hid (HeapAt w4 p t ∧ IntsAt w4 w.heap.size (.slice a1 nk c1) ks ∧ IntsAt w4 (tb + 1) (.slice a2 n c2) out ∧ IntsAt w4 w.heap.size (.slice co cs.length cc) cs ∧ BlkAt w4 ts 49 3 (statCell pa pb pc) ∧ BlkAt w4 tb 51 5 (fun _ => .int .i64 0)) := by
      refine ⟨HH.out.1.fr HF4.out fun _ _ => id, HH.out.2.1.fr HF4.out fun _ _ => id, HH.out.2.2.fr HF4.out fun _ _ => id, h4.out.1.mono HF2.out.size, HBS.out.fr h4.out.2 id, HB2.out.fr HF4.out id⟩
    have HTSL : Hid (w.heap.size ≤ ts ∧ w.heap.size ≤ tb ∧ tb < ts) := by
      have h1 := HF2.out.size
      have h2 := HTS.out
      have h3 := HTB.out
      have h4 := HB2.out.lt
      show _ ∧ _ ∧ _
      omega
    have hsp4 := (HF2.out.trans (Fr.any HF4.out)).cell (HST.out.h0) (fun h => (HSEP.out _ h).1 rfl)
    have HF24 : Hid (Fr p.mine w w4) := HF2.out.trans (Fr.any HF4.out)
    obtain ⟨nc, hnc⟩ : ∃ nc, nc = cs.length := ⟨_, rfl⟩
    have HNC := Lib.hid hnc
    rw [← hnc] at H5 hcl ⊢
    clear hnc h4 HF3 HBS HH HB2 HC3
    go_wp2
    go_loopw [13, 14, 36] (fun v13 v14 v36 wr => ∃ (kk ff i : Nat) (si : HS), v13 = .int .i64 kk ∧ v14 = .int .i64 ff ∧ v36 = .int .i64 i ∧ i ≤ nc ∧ kk ≤ nk ∧ kk + ff = i ∧ Hid (HeapAt wr p si ∧ Fr p.mine w4 wr ∧ coll cs ks t = ((coll (cs.drop i) (ks.drop kk) si).1, kk + (coll (cs.drop i) (ks.drop kk) si).2.1, ff + (coll (cs.drop i) (ks.drop kk) si).2.2))) (fun _ _ v36 _ => nc - (intOf v36).toNat)
    case atStart => exact ⟨0, 0, 0, t, rfl, rfl, rfl, by omega, by omega, by omega, H5.out.1, Fr.refl _ _, by simp⟩
    case round =>
      obtain ⟨kk, ff, i, si, rfl, rfl, rfl, hi, hkk, hff, hI⟩ := hrel
      by_cases hin : i < nc
      · have hil : i < cs.length := by rw [← HNC.out]; exact hin
        have hro := H5.out.2.2.2.1.fr hI.out.2.1 fun k hk hm => by have := (H5.out.2.2.2.1.lt k hk).1; have := HLT.out k hm; omega
        obtain ⟨g, rfl, hg, hc⟩ := hro.elem hil
        have hsr := hI.out.2.1.cell hsp4 (fun h => (HSEP.out _ h).1 rfl)
        obtain ⟨a, ha⟩ : ∃ a, a = cs.getD i 0 := ⟨_, rfl⟩
        rw [← ha] at hc
        have hdr : cs.drop i = a :: cs.drop (i + 1) := by rw [drop_get hil, ha]
        have HDR := Lib.hid hdr
        have hrk := H5.out.2.1.fr hI.out.2.1 fun k hk hm => by have := (H5.out.2.1.lt k hk).1; have := HLT.out k hm; omega
        have HFREE : Hid (Calls Try.prog 25 #[.pointer (some ⟨p.h, 0, none⟩), .int .i64 a] wr fun e w' => ∃ x, e = .returned (.int .i64 x) ∧ Hid (HeapAt w' p (si.free a.toNat).2 ∧ Fr p.mine w4 w')) := by
          refine (free_any a wr hI.out.1).mono ?_
          rintro e w' ⟨rfl, h1, h2⟩
          exact ⟨_, rfl, h1, hI.out.2.1.trans h2⟩
        have HI := Lib.hid hI.out
        have hkkd : decide ((kk : Int) < (nk : Int)) = decide (kk < nk) := by simp
        by_cases hkn : kk < nk
        · have hkl : kk < ks.length := by rw [HKL.out]; exact hkn
          have HKN : Hid (kk + 1 ≤ nk) := hkn
          obtain ⟨gk, rfl, hgk, hck⟩ := IntsAt.elem hrk hkl
          obtain ⟨b, hb⟩ : ∃ b, b = ks.getD kk 0 := ⟨_, rfl⟩
          rw [← hb] at hck
          have hdk : ks.drop kk = b :: ks.drop (kk + 1) := by rw [drop_get hkl, hb]
          have HDK := Lib.hid hdk
          by_cases hab : b = a
          · have hab' : (b == a) = true := by simpa using hab
            have HNX : Hid (coll cs ks t = ((coll (cs.drop (i + 1)) (ks.drop (kk + 1)) si).1, (kk + 1) + (coll (cs.drop (i + 1)) (ks.drop (kk + 1)) si).2.1, ff + (coll (cs.drop (i + 1)) (ks.drop (kk + 1)) si).2.2)) := by
              have h := HI.out.2.2
              rw [HDR.out, HDK.out, hab, coll_keep] at h
              rw [h]
              refine Prod.ext rfl (Prod.ext ?_ ?_)
              · show kk + (_ + 1) = kk + 1 + _; omega
              · rfl
            clear hI hro hg ha hdr hrk hgk hb hdk hab hkkd
            go_wp2
            go_roundw
            case rel => exact ⟨kk + 1, ff, i + 1, si, by go_num, rfl, by go_num, by omega, HKN.out, by omega, HI.out.1, HI.out.2.1, HNX.out⟩
            case measure => simp [intOf]; omega
          · have hab' : (b == a) = false := by simpa using hab
            have HNX : Hid (coll cs ks t = ((coll (cs.drop (i + 1)) (ks.drop kk) (si.free a.toNat).2).1, kk + (coll (cs.drop (i + 1)) (ks.drop kk) (si.free a.toNat).2).2.1, (ff + 1) + (coll (cs.drop (i + 1)) (ks.drop kk) (si.free a.toNat).2).2.2)) := by
              have h := HI.out.2.2
              rw [HDR.out, coll_free (fun k l e => by rw [HDK.out] at e; injection e with e1 e2; rw [← e1]; exact hab)] at h
              rw [h]
              refine Prod.ext rfl (Prod.ext rfl ?_)
              show ff + (_ + 1) = ff + 1 + _; omega
            clear hI hro hg ha hdr hrk hgk hb hdk hab hkkd
            go_wp2_with fail
            refine HFREE.out.mono ?_
            rintro e w6 ⟨x, rfl, h6⟩
            go_wp2
            go_roundw
            case rel => exact ⟨kk, ff + 1, i + 1, _, rfl, by go_num, by go_num, by omega, by omega, by omega, h6.out.1, h6.out.2, HNX.out⟩
            case measure => simp [intOf]; omega
        · have HNX : Hid (coll cs ks t = ((coll (cs.drop (i + 1)) (ks.drop kk) (si.free a.toNat).2).1, kk + (coll (cs.drop (i + 1)) (ks.drop kk) (si.free a.toNat).2).2.1, (ff + 1) + (coll (cs.drop (i + 1)) (ks.drop kk) (si.free a.toNat).2).2.2)) := by
            have h := HI.out.2.2
            rw [HDR.out, coll_free (fun k l e => by rw [List.drop_eq_nil_of_le (by rw [HKL.out]; omega)] at e; cases e)] at h
            rw [h]
            refine Prod.ext rfl (Prod.ext rfl ?_)
            show ff + (_ + 1) = ff + 1 + _; omega
          have hkf : decide ((kk : Int) < (nk : Int)) = false := by simp; omega
          clear hI hro hg ha hdr hrk hkkd
          go_wp2_with fail
          refine HFREE.out.mono ?_
          rintro e w6 ⟨x, rfl, h6⟩
          go_wp2
          go_roundw
          case rel => exact ⟨kk, ff + 1, i + 1, _, rfl, by go_num, by go_num, by omega, by omega, by omega, h6.out.1, h6.out.2, HNX.out⟩
          case measure => simp [intOf]; omega
      · have hin2 : i = nc := by omega
        have hcoll : coll cs ks t = (si, kk, ff) := by
          have h := hI.out.2.2
          rw [List.drop_eq_nil_of_le (by rw [← HNC.out]; omega)] at h
          exact h
        have HFR : Hid (Fr p.mine w wr) := HF24.out.trans hI.out.2.1
        have HPOST : Hid (∀ W, Fr (fun k => k = tb) wr W → CollPost w p srt most zs m0 (.returned (.tuple #[.slice a2 n c2, .agg #[.int .i64 kk, .int .i64 ff, .int .i64 pa, .int .i64 pb, .int .i64 pc], .int .i64 0])) W) := by
          intro W hW
          have h1 := HTB.out
          refine ⟨out, m', HRDS.out, ⟨hW.os.trans HFR.out.os, hW.tape.trans HFR.out.tape, hW.output.trans HFR.out.output, Nat.le_trans HFR.out.size hW.size, fun b hb hS => ?_⟩, .inr ⟨HE.out, ?_, a2, c2, pa, pb, pc, ?_, ?_, HLO.out.trans HN.out⟩⟩
          · exact (hW.block b (Nat.lt_of_lt_of_le hb HFR.out.size) fun (h : b = tb) => by omega).trans (HFR.out.block b hb hS)
          · rw [HCA.out, hcoll]
            exact hI.out.1.fr hW fun k hk (h : k = tb) => by have := HLT.out k hk; omega
          · rw [HCA.out, hcoll, HN.out]
          · rw [← HN.out]
            refine IntsAt.mono ((H5.out.2.2.1.fr hI.out.2.1 fun k hk hm => by have := (H5.out.2.2.1.lt k hk).1; have := HLT.out k hm; omega).fr hW fun k hk (h : k = tb) => ?_) (B' := w.heap.size) (by omega)
            have := (H5.out.2.2.1.lt k hk).1
            omega
        have hbs := H5.out.2.2.2.2.1.fr hI.out.2.1 fun hm => by have := HLT.out _ hm; have := HTSL.out; omega
        have hbt := H5.out.2.2.2.2.2.fr hI.out.2.1 fun hm => by have := HLT.out _ hm; have := HTSL.out; omega
        have s0 := hbs.cell (i := 0) (by omega)
        have s1 := hbs.cell (i := 1) (by omega)
        have s2 := hbs.cell (i := 2) (by omega)
        simp only [statCell] at s0 s1 s2
        have z0 := hbt.cell (i := 0) (by omega)
        have z1 := hbt.cell (i := 1) (by omega)
        have z2 := hbt.cell (i := 2) (by omega)
        have z3 := hbt.cell (i := 3) (by omega)
        have z4 := hbt.cell (i := 4) (by omega)
        have f0 := hbt.frozen 0
        have f1 := hbt.frozen 1
        have f2 := hbt.frozen 2
        have f3 := hbt.frozen 3
        have f4 := hbt.frozen 4
        clear hI hbs hbt hcoll
        go_wp2_with fail
        go_region
        go_wp2
        refine bodyPost_ret (v := .tuple #[.slice a2 n c2, .agg #[.int .i64 kk, .int .i64 ff, .int .i64 pa, .int .i64 pb, .int .i64 pc], .int .i64 0]) ?_ rfl (HPOST.out _ ?_)
        · unfold results
          go_simp
        · exact (((((Fr.refl (fun k => k = tb) wr).setCell (S := fun k => k = tb) rfl _).setCell (S := fun k => k = tb) rfl _).setCell (S := fun k => k = tb) rfl _).setCell (S := fun k => k = tb) rfl _).setCell (S := fun k => k = tb) rfl _ |>.drew

def badColl : Ending := .returned (.tuple #[.slice none 0 0, .agg #[.int .i64 0, .int .i64 0, .int .i64 0, .int .i64 0, .int .i64 0], .int .i64 1])
set_option maxRecDepth 100000 in
/-- Where Mark refuses, Collect refuses. -/
theorem collect_err {w : World} {x y z : Value} (h : ∀ W, Fr (fun _ => False) w W → Calls Try.prog 51 #[x, y, z] W fun e w' => e = badMark ∧ Below W.heap.size W w') :
    Calls Try.prog 30 #[x, y, z] w fun e w' => e = badColl ∧ Below w.heap.size w w' := by
  have HMK := Lib.hid h
  clear h
  unfold badMark at HMK
  go_enter Try.func30, Try.ntmps30
  go_wp2_with fail
  refine (HMK.out _ ((Fr.refl _ w).alloc _)).mono ?_
  rintro e w2 ⟨rfl, hb⟩
  obtain ⟨tb, htb⟩ : ∃ tb, tb = w.heap.size := ⟨_, rfl⟩
  have HTB := Lib.hid htb
  have hb2 : BlkAt w2 tb 51 5 (fun _ => .int .i64 0) := by
    rw [htb]
    exact (blk_new w 51 _ 5 _ rfl).fr (S := fun _ => False) (Fr.of_below hb) id
  have HF2 : Hid (Fr (fun _ => False) w w2) := ((Fr.refl _ w).alloc _).trans (Fr.of_below hb)
  rw [← htb]
  have hba := fun o => hb2.alloc o
  have z0 := fun o => (hba o).cell (i := 0) (by omega)
  have z1 := fun o => (hba o).cell (i := 1) (by omega)
  have z2 := fun o => (hba o).cell (i := 2) (by omega)
  have z3 := fun o => (hba o).cell (i := 3) (by omega)
  have z4 := fun o => (hba o).cell (i := 4) (by omega)
  have f0 := fun o => (hba o).frozen 0
  have f1 := fun o => (hba o).frozen 1
  have f2 := fun o => (hba o).frozen 2
  have f3 := fun o => (hba o).frozen 3
  have f4 := fun o => (hba o).frozen 4
  clear htb hb hb2 hba HMK
  go_wp2_with fail
  refine bodyPost_ret (v := .tuple #[.slice none 0 0, .agg #[.int .i64 0, .int .i64 0, .int .i64 0, .int .i64 0, .int .i64 0], .int .i64 1]) ?_ rfl ⟨rfl, ?_⟩
  · unfold results
    go_simp
  · have h1 : Fr (fun k => k = tb) w2 _ := (((((((Fr.refl (fun k => k = tb) w2).alloc (.cells #[.int .i64 0, .int .i64 0, .int .i64 0] 49)).setCell (x := ⟨tb, 0, none⟩) (S := fun k => k = tb) rfl (.int .i64 0)).setCell (x := ⟨tb, 1, none⟩) (S := fun k => k = tb) rfl (.int .i64 0)).setCell (x := ⟨tb, 2, none⟩) (S := fun k => k = tb) rfl (.int .i64 0)).setCell (x := ⟨tb, 3, none⟩) (S := fun k => k = tb) rfl (.int .i64 0)).setCell (x := ⟨tb, 4, none⟩) (S := fun k => k = tb) rfl (.int .i64 0))
    have h2 := HTB.out
    exact ((Fr.any (S := fun k => k = tb) HF2.out).trans h1).below (Nat.le_refl _) fun k (hk : k = tb) => by omega
end Go.Proofs.Ytjfpijoeddjgmaa
