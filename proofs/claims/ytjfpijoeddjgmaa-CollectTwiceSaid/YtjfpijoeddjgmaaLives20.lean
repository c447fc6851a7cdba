/- Law 20: marking closures none of which stands for another one; the law's example. No condition. -/
import Derived.Test.YtjfpijoeddjgmaaColl2
import Derived.Test.YtjfpijoeddjgmaaLay20
namespace Go.Proofs.Ytjfpijoeddjgmaa
open Go.RowKit Hm
set_option linter.unusedVariables false

theorem sorts20_ok : SortsOk sorts20 := by
  intro i hi
  simp only [sorts20, List.mem_cons, List.not_mem_nil, or_false] at hi
  rcases hi with rfl | rfl | rfl | rfl | rfl | rfl <;> exact ⟨by decide, by decide⟩
theorem net_plain {kinds : Nat} {nds : List Nd} {V : Nat → Nat → Int} {s : HS} (h : Net sorts20 kinds nds V s) (hk : 0 < kinds ∧ kinds ≤ 5) (hn : ∀ x ∈ nds, x.Ok) : Plain sorts20 s := by
  intro a
  by_cases ho : okAt sorts20 s a
  · obtain ⟨j, hj, rfl⟩ := h.only ho
    rw [h.inf sorts20_lay hk.1 (by rw [len20]; omega) hn hj]
    obtain ⟨_, _, hkk⟩ := inf_mem (srt := sorts20) (nds := nds) hk.1 (by rw [len20]; omega) hn j
    have h5 : kOf kinds nds j < 5 := by omega
    unfold inf
    generalize kOf kinds nds j = k at h5
    match k, h5 with
    | 0, _ => exact ⟨by decide, by decide⟩
    | 1, _ => exact ⟨by decide, by decide⟩
    | 2, _ => exact ⟨by decide, by decide⟩
    | 3, _ => exact ⟨by decide, by decide⟩
    | 4, _ => exact ⟨by decide, by decide⟩
  · rw [(info_bad ho).2.2.1]
    exact ⟨by decide, by decide⟩

/-! ### Where all is right, no error comes -/
section
variable {srt : List Inf} {most : Int} {s : HS} {V : Int → Prop}
theorem Thr.plain_good {p r : Int} {m m' : MK} (h : Thr srt 0 [] p m r m') (hP : Plain srt m.s) (hp : p ≠ 0 → okAt srt m.s p) : r = p ∧ m' = m := by
  cases h with
  | stop h => exact ⟨rfl, rfl⟩
  | bad h hb => exact absurd (hp fun h0 => h (.inl h0)) hb
  | ind h ok hk hn => exact absurd hk (hP p).1
  | plain h ok hk hp => exact ⟨rfl, rfl⟩
  | none h ok hk hp h1 => exact absurd (.inl ((hP p).2 hk)) hp
  | cant h ok hk hp h1 hq hc => exact absurd (.inl ((hP p).2 hk)) hp
  | ring h ok hk hp h1 hq hc hr => exact absurd (.inl ((hP p).2 hk)) hp
  | go h ok hk hp h1 hq hc hr hn => exact absurd (.inl ((hP p).2 hk)) hp
structure SV (s : HS) (V : Int → Prop) (m : MK) : Prop where
  st : m.s = s
  e : m.e = 0
  seen : ∀ x ∈ m.seen, V x
  wait : ∀ x ∈ m.wait, V x
theorem Rea.good {p r : Int} {m m' : MK} (h : Rea srt most p m r m') (hP : Plain srt s) (hV : ∀ p, V p → okAt srt s p) (hI : SV s V m) (hp : p ≠ 0 → V p) : r = p ∧ SV s V m' := by
  cases h with
  | old h ho =>
    obtain ⟨rfl, rfl⟩ := h.plain_good (by rw [hI.st]; exact hP) (fun h0 => by rw [hI.st]; exact hV _ (hp h0))
    exact ⟨rfl, hI⟩
  | new h ho =>
    rename_i m1
    obtain ⟨hrp, hm1⟩ := h.plain_good (by rw [hI.st]; exact hP) (fun h0 => by rw [hI.st]; exact hV _ (hp h0))
    rw [hm1] at ho ⊢
    subst hrp
    have h0 : r ≠ 0 := fun h => ho (.inl h)
    have hsn : ∀ x ∈ m.seen ++ [r], V x := fun x hx => by
      rcases List.mem_append.1 hx with hx | hx
      · exact hI.seen x hx
      · rw [List.mem_singleton] at hx; subst hx; exact hp h0
    refine ⟨rfl, ?_⟩
    unfold MK.note
    split
    · exact ⟨hI.st, hI.e, hsn, hI.wait⟩
    · refine ⟨hI.st, hI.e, hsn, fun x hx => ?_⟩
      rcases List.mem_append.1 hx with hx | hx
      · exact hI.wait x hx
      · rw [List.mem_singleton] at hx; subst hx; exact hp h0
theorem Bel.good {p : Int} {i : Nat} {l : List Int} {m m' : MK} (h : Bel srt most p i l m m') (hP : Plain srt s) (hV : ∀ p, V p → okAt srt s p) : SV s V m → (∀ q ∈ l, q ≠ 0 → V q) → SV s V m' := by
  induction h with
  | nil => exact fun hI _ => hI
  | cons h hn ih =>
    intro hI hq
    obtain ⟨hr, h1⟩ := h.good hP hV hI (hq _ (List.mem_cons_self ..))
    rw [if_neg (fun hh => hh.1 hr)] at ih
    exact ih h1 fun q hql => hq q (List.mem_cons_of_mem _ hql)
theorem Below'.good {p : Int} {m m' : MK} (h : Below' srt most p m m') (hP : Plain srt s) (hV : ∀ p, V p → okAt srt s p) (hC : ∀ p, V p → ∀ q ∈ ptrAt srt s p, q ≠ 0 → V q) (hI : SV s V m) (hp : V p) : SV s V m' := by
  unfold Below' at h
  rw [look_ok (by rw [hI.st]; exact hV p hp), hI.st] at h
  exact Bel.good h hP hV hI (hC p hp)
theorem Dra.good {m m' : MK} (h : Dra srt most m m') (hP : Plain srt s) (hV : ∀ p, V p → okAt srt s p) (hC : ∀ p, V p → ∀ q ∈ ptrAt srt s p, q ≠ 0 → V q) : SV s V m → SV s V m' := by
  induction h with
  | stop h => exact id
  | @step m ws p m1 m' hw he h hn ih =>
    intro hI
    refine ih (Below'.good h hP hV hC ⟨hI.st, hI.e, hI.seen, fun x hx => hI.wait x (by rw [hw]; exact List.mem_append_left _ hx)⟩ (hI.wait p (by rw [hw]; exact List.mem_append_right _ (List.mem_singleton_self _))))
theorem Rts.good {l os : List Int} {m m' : MK} (h : Rts srt most l m os m') (hP : Plain srt s) (hV : ∀ p, V p → okAt srt s p) (hC : ∀ p, V p → ∀ q ∈ ptrAt srt s p, q ≠ 0 → V q) : SV s V m → (∀ r ∈ l, r ≠ 0 → V r) → SV s V m' := by
  induction h with
  | nil => exact fun hI _ => hI
  | cons h hd hn ih => exact fun hI hr => ih (hd.good hP hV hC (h.good hP hV hI (hr _ (List.mem_cons_self ..))).2) fun r hrl => hr r (List.mem_cons_of_mem _ hrl)
theorem Swp.good {l : List Int} {m m' : MK} (h : Swp srt most l m m') (hP : Plain srt s) (hV : ∀ p, V p → okAt srt s p) (hC : ∀ p, V p → ∀ q ∈ ptrAt srt s p, q ≠ 0 → V q) : SV s V m → (∀ r ∈ l, V r) → SV s V m' := by
  induction h with
  | nil => exact fun hI _ => hI
  | cons h hd hn ih => exact fun hI hr => ih (hd.good hP hV hC (h.good hP hV hC hI (hr _ (List.mem_cons_self ..)))) fun r hrl => hr r (List.mem_cons_of_mem _ hrl)
theorem Agn.good {m m' : MK} (h : Agn srt most m m') (hP : Plain srt s) (hV : ∀ p, V p → okAt srt s p) (hC : ∀ p, V p → ∀ q ∈ ptrAt srt s p, q ≠ 0 → V q) : SV s V m → SV s V m' := by
  induction h with
  | stop h => exact id
  | step ho he h hn ih => exact fun hI => ih (h.good hP hV hC ⟨hI.st, hI.e, hI.seen, hI.wait⟩ fun r hr => hI.seen r (mem_sorted.1 hr))
theorem Rds.good {roots o o' : List Int} {m m' : MK} (h : Rds srt most roots o m o' m') (hP : Plain srt s) (hV : ∀ p, V p → okAt srt s p) (hC : ∀ p, V p → ∀ q ∈ ptrAt srt s p, q ≠ 0 → V q) (hR : ∀ r ∈ roots, r ≠ 0 → V r) : SV s V m → m'.e = 0 := by
  induction h with
  | stop h => exact fun hI => hI.e
  | step hm he h hn ih =>
    obtain ⟨m1, h1, h2⟩ := h
    exact fun hI => ih (h2.good hP hV hC (h1.good hP hV hC ⟨hI.st, hI.e, (fun x hx => by cases hx), hI.wait⟩ hR))
end
/-- A root that tells of no closure. -/
theorem Rds.bad {srt : List Inf} {most a : Int} {s : HS} {o' : List Int} {m' : MK} (h : Rds srt most [a] [] ⟨s, [], [], false, true, 0⟩ o' m') (ha : a ≠ 0) (hb : ¬ okAt srt s a) : m'.e = 12 ∧ m'.s = s := by
  have h12 := h.e12 (.inl rfl)
  cases h with
  | stop h =>
    rcases h with h | h
    · cases h
    · exact absurd rfl h
  | step hm he h hn =>
    obtain ⟨m1, h1, h2⟩ := h
    cases h1 with
    | cons hr hd hnil =>
      rename_i ma mb oa
      have hra : ma.s = s ∧ ma.e ≠ 0 := by
        have key : ∀ r mx, Thr srt 0 [] a { (⟨s, [], [], false, true, 0⟩ : MK) with seen := [], over := false, moved := false } r mx → mx.s = s ∧ mx.e ≠ 0 := by
          intro r mx ht
          cases ht with
          | stop h =>
            rcases h with h | h | h
            · exact absurd h ha
            · exact absurd rfl h
            · cases h
          | bad h hb2 => exact ⟨look_s _ _ _, by rw [look_bad hb2]; exact fail_e _⟩
          | ind h ok hk hn => exact absurd ok hb
          | plain h ok hk hp => exact absurd ok hb
          | none h ok hk hp h1 => exact absurd ok hb
          | cant h ok hk hp h1 hq hc => exact absurd ok hb
          | ring h ok hk hp h1 hq hc hr => exact absurd ok hb
          | go h ok hk hp h1 hq hc hr hn => exact absurd ok hb
        cases hr with
        | old h ho => exact key _ _ h
        | new h ho =>
          rename_i my
          exact absurd (.inr (.inr (key _ _ h).2)) ho
      cases hnil
      have hd2 : m1 = ma := by
        cases hd with
        | stop h => rfl
        | step hw he h hn => exact absurd he hra.2
      rw [← hd2] at hra
      have ha2 : ∀ my, Agn srt most m1 my → my = m1 := fun my h => by
        cases h with
        | stop h => rfl
        | step ho he h hn => exact absurd he hra.2
      have h3 := ha2 _ h2
      rw [h3] at hn
      have h4 : m' = m1 := by
        cases hn with
        | stop h => rfl
        | step hm he h hn => exact absurd he hra.2
      rw [h4] at h12 ⊢
      exact ⟨h12.resolve_left hra.2, hra.1⟩
/-- No roots. -/
theorem Rds.none {srt : List Inf} {most : Int} {s : HS} {o' : List Int} {m' : MK} (h : Rds srt most [] [] ⟨s, [], [], false, true, 0⟩ o' m') : m'.e = 0 ∧ m'.s = s ∧ m'.seen = [] ∧ o' = [] := by
  cases h with
  | stop h =>
    rcases h with h | h
    · cases h
    · exact absurd rfl h
  | step hm he h hn =>
    obtain ⟨m1, h1, h2⟩ := h
    cases h1
    have h3 : ∀ my, Agn srt most { (⟨s, [], [], false, true, 0⟩ : MK) with seen := [], over := false, moved := false } my → my = { (⟨s, [], [], false, true, 0⟩ : MK) with seen := [], over := false, moved := false } := fun my h => by
      cases h with
      | stop h => rfl
      | step ho he h hn => cases ho
    rw [h3 _ h2] at hn
    cases hn with
    | stop h => exact ⟨rfl, rfl, rfl, rfl⟩
    | step hm he h hn => cases hm

theorem plain_dec {srt : List Inf} {most : Int} {s : HS} (hP : Plain srt s) (zs : List Int) : ∀ m out m', m.s = s → m.e = 0 → m.wait = [] → Rnd srt most zs m out m' → m'.e = 0 → m'.wait = [] ∧ m'.s = s ∧ (m'.moved = true → (fun _ : HS => 0) m'.s < (fun _ : HS => 0) m.s) := by
  intro m out m' hs he hw h he'
  obtain ⟨h1, h2, h3, _⟩ := h.simple (by rw [hs]; exact hP) hw he he' (fun _ => True) (fun _ _ _ => trivial) (fun _ _ _ _ _ => trivial)
  exact ⟨h3, h1.trans hs, fun hm => by rw [h2] at hm; cases hm⟩
theorem coll_of_net {srt : List Inf} {kinds : Nat} {nds : List Nd} {V : Nat → Nat → Int} {s : HS} (h : Net srt kinds nds V s) {ks : List Int} (hks : ks.Pairwise (· < ·)) (hk : ∀ k ∈ ks, ∃ a : Nat, k = a ∧ s.used a = true) :
    CollI (cellsTo s.used (1 + 32 * s.n)) ks s (collAll s ks) := by
  refine coll_law _ _ _ h.wf (cells_pair _ _) hks (fun k hk' => ?_) (fun c hc => ?_)
  · obtain ⟨a, rfl, hu⟩ := hk k hk'
    have := (h.wf.in_ hu).2
    have := h.wf.cap_pos hu
    exact mem_cells.2 ⟨a, rfl, by omega, hu⟩
  · obtain ⟨a, rfl, _, hu⟩ := mem_cells.1 hc
    exact ⟨a, rfl, hu⟩
theorem ndz_ok : ndz.Ok := ⟨by decide, by decide, by decide, by decide, by decide⟩

set_option maxRecDepth 100000 in
set_option maxHeartbeats 4000000 in
theorem lives20 (w : World) : Calls Try.prog 27 #[] w fun e w' => e = .returned (.bool true) ∧ Below w.heap.size w w' := by
  obtain ⟨B, hB⟩ : ∃ B, B = w.heap.size := ⟨_, rfl⟩
  have hok2 : ∀ x ∈ [ndz, ndz], x.Ok := fun x hx => by
    simp only [List.mem_cons, List.not_mem_nil, or_false, or_self] at hx
    subst hx; exact ndz_ok
  have HLAY : Hid (∀ W, W = w.alloc (.cells #[.int .u8 0, .int .u64 0, .int .u8 0, .int .u8 0, .int .u8 0, .int .u8 0, .int .u64 0, .int .u8 0, .int .u8 0, .int .u8 0] 65) →
      Calls Try.prog 28 #[.slice (some ⟨w.heap.size, 0, none⟩) 2 2, .int .i64 1] W fun e w' => ∃ q p ao cap, e = .returned (.tuple #[.pointer (some ⟨q.sp, 0, none⟩), .slice ao 2 cap]) ∧
      Hid (∃ B3 s, LaidAt W.heap.size W w' q p sorts20 1 [ndz, ndz] (fun j r => tad sorts20 1 [ndz, ndz] j r) ao 2 cap B3 s)) := by
    rintro W rfl
    refine lay20_any (kinds := 1) ⟨_, _, rfl, .inr ⟨_, _, rfl, by simp, fun i hi c hc => ?_⟩, hok2⟩ (by decide) ⟨by decide, by decide⟩
    have hbl := blk_new w 65 #[.int .u8 0, .int .u64 0, .int .u8 0, .int .u8 0, .int .u8 0, .int .u8 0, .int .u64 0, .int .u8 0, .int .u8 0, .int .u8 0] 10 (fun k => ndz.cell (k % 5)) rfl
    have hi2 : i < 2 := hi
    rw [Nat.zero_add, hbl.cell (i := i * 5 + c) (by omega), show (i * 5 + c) % 5 = c by omega]
    match i, hi2 with
    | 0, _ => rfl
    | 1, _ => rfl
  have HB := Lib.hid hB
  clear hB hok2
  go_enter Try.func27, Try.ntmps27
  go_wp2_with fail
  refine (HLAY.out _ rfl).mono ?_
  rintro e w2 ⟨q, p, ao, cap, rfl, hL⟩
  obtain ⟨B3, s, hLd⟩ := hL.out
  have hP := net_plain hLd.net ⟨by decide, by decide⟩ (fun x hx => by
    simp only [List.mem_cons, List.not_mem_nil, or_false, or_self] at hx
    subst hx; exact ndz_ok)
  have hA := hLd.sto.own.at'
  have HCO : Hid (Calls Try.prog 30 #[.pointer (some ⟨q.sp, 0, none⟩), .slice none 0 0, .int .i64 5] w2 fun e w' => ∃ (a2 : Option Addr) (c2 : Nat) (pa pb pc : Int) (u : HS), e = .returned (.tuple #[.slice a2 0 c2, .agg #[.int .i64 0, .int .i64 2, .int .i64 pa, .int .i64 pb, .int .i64 pc], .int .i64 0]) ∧ Hid (HeapAt w' p u ∧ (∀ a, u.used a = false) ∧ Fr p.mine w2 w')) := by
    refine (collect_any (w := w2) (ro := none) (rcap := 0) (zs := []) hA hLd.sto.sto hLd.sto.sep sorts20_ok (most := 5) (by decide) ⟨.inl rfl, (fun z hz => by cases hz), by decide⟩ (fun s' => s' = s) (fun _ => 0) rfl (plain_dec hP [])).mono ?_
    intro e w' hpost
    obtain ⟨out, m', hrds, hf, hres⟩ := hpost.out
    obtain ⟨h1, h2, h3, h4⟩ := hrds.none
    rcases hres with ⟨he, _⟩ | ⟨_, hH, a2, c2, pa, pb, pc, rfl, _, _⟩
    · exact absurd h1 he
    · rw [h2, h3] at hH ⊢
      have hs0 : sorted [] = [] := by simp [sorted]
      rw [hs0] at hH ⊢
      have hc := coll_of_net hLd.net (ks := []) List.Pairwise.nil (fun k hk => by cases hk)
      have hcl := hLd.net.cells
      have hk0 : (collAll s []).2.1 = 0 := hc.kept
      have hf2 : (collAll s []).2.2 = 2 := by
        have h5 := hc.sum
        rw [hk0, hcl] at h5
        have h6 : ([ndz, ndz] : List Nd).length = 2 := rfl
        omega
      refine ⟨a2, c2, pa, pb, pc, (collAll s []).1, by rw [hk0, hf2]; rfl, hH, fun a => ?_, hf⟩
      cases hu : (collAll s []).1.used a with
      | false => rfl
      | true =>
        obtain ⟨h5, h6⟩ := (hc.used a).1 hu
        rcases h6 with h6 | h6
        · exfalso
          apply h6
          have := (hLd.net.wf.in_ h5).2
          have := hLd.net.wf.cap_pos h5
          exact mem_cells.2 ⟨a, rfl, by omega, h5⟩
        · cases h6
  have HLD := Lib.hid hLd
  have HW2 : Hid (Below B w w2) := by
    show Below B w w2
    rw [HB.out]
    have h1 := hLd.sto.own.below
    exact ((Below.refl _ w).alloc (Nat.le_refl _) _).trans (h1.mono (by simp))
  clear hL hLd hP hA HLAY
  go_wp2_with fail
  refine HCO.out.mono ?_
  rintro e w3 ⟨a2, c2, pa, pb, pc, u, rfl, h3⟩
  have hsp := h3.out.2.2.cell (HLD.out.sto.sto.h0) (fun h => (HLD.out.sto.sep _ h).1 rfl)
  have hspal : ∀ o, (w3.alloc o).cell? ⟨q.sp, 0, none⟩ = some (.pointer (some ⟨p.h, 0, none⟩)) := fun o => ((Fr.refl (fun _ => False) w3).alloc o).cell hsp id
  have HBW3 : Hid (Below B w w3) := by
    have h1 : Below B w2 w3 := h3.out.2.2.below (by have := HLD.out.sto.own.size; have h2 := HB.out; simp at this; omega) (fun k hk => by have := HLD.out.sto.own.mine k hk; have h2 := HB.out; simp at this; omega)
    exact HW2.out.trans h1
  have HCE : Hid (∀ o, Calls Try.prog 26 #[.pointer (some ⟨p.h, 0, none⟩)] (w3.alloc o) fun e w' => ∃ co cc, e = .returned (.slice co 0 cc) ∧ Hid (Below B w w')) := by
    intro o
    refine (cells_any (w3.alloc o) (h3.out.1.fr ((Fr.refl (fun _ => False) w3).alloc o) fun _ _ => id)).mono ?_
    rintro e w' ⟨v, rfl, h1, h2⟩
    have h4 : cellsTo u.used (1 + 32 * u.n) = [] := by
      unfold cellsTo
      rw [List.filter_eq_nil_iff.2 (fun a _ => by rw [h3.out.2.1 a]; simp)]
      rfl
    rw [h4] at h1
    obtain ⟨co, cc, rfl, _⟩ := h1.shape
    have hsz : B ≤ w3.heap.size := by have := HBW3.out.size; have h5 := HB.out; omega
    exact ⟨co, cc, rfl, (HBW3.out.alloc hsz o).trans (h2.mono (by simp; omega))⟩
  clear hsp h3 HCO
  go_wp2_with fail
  refine (HCE.out _).mono ?_
  rintro e w4 ⟨co, cc, rfl, h4⟩
  go_wp2
  go_ret
  exact ⟨rfl, by rw [← HB.out]; exact h4.out⟩
end Go.Proofs.Ytjfpijoeddjgmaa
