/- Law 20: closures with Inds among them that don't go round: what they stand for; what Collect leaves, and what it leaves once more. Conditions: as each says. -/
import Derived.Test.YtjfpijoeddjgmaaRoom
import Derived.Test.YtjfpijoeddjgmaaCanon
namespace Go.Proofs.Ytjfpijoeddjgmaa
open Go.RowKit Hm
set_option linter.unusedVariables false

theorem sorts20_up : SortsUp sorts20 := by
  have h : ∀ i ∈ sorts20, i.Ok ∧ (i.kind = 6 → i.ptrs = 1 ∧ i.nons = 0) ∧ (i.kind = 2 → i.pick ≠ 0 → i.ptrs = 1 ∧ 1 ≤ i.pick) ∧ i.kind ≠ 3 ∧ (i.kind = 7 → i.ptrs = 0) := by
    intro i hi
    simp only [sorts20, List.mem_cons, List.not_mem_nil, or_false] at hi
    rcases hi with rfl | rfl | rfl | rfl | rfl | rfl <;> exact ⟨⟨by decide, by decide, by decide, by decide, by decide⟩, by decide, by decide, by decide, by decide⟩
  exact ⟨fun i hi => (h i hi).1, by decide, fun i hi => (h i hi).2.1, fun i hi => (h i hi).2.2.1, fun i hi => (h i hi).2.2.2.1, fun i hi => (h i hi).2.2.2.2, ⟨5, by decide⟩⟩
/-- Where closures have been laid: which place an address is. -/
def idx (srt : List Inf) (kinds : Nat) (nds : List Nd) (a : Int) : Option Nat := (List.range nds.length).find? fun j => (adr srt kinds nds j : Int) == a
theorem idx_adr {srt : List Inf} {kinds : Nat} {nds : List Nd} (hinj : ∀ j j', j < nds.length → j' < nds.length → adr srt kinds nds j = adr srt kinds nds j' → j = j') {j : Nat} (hj : j < nds.length) : idx srt kinds nds (adr srt kinds nds j) = some j := by
  unfold idx
  rw [List.find?_range_eq_some]
  refine ⟨by simp, by simpa using hj, fun i hi => ?_⟩
  have : adr srt kinds nds i ≠ adr srt kinds nds j := fun e => by have := hinj i j (by omega) hj e; omega
  simp; omega

section
variable (nds : List Nd)
/-- ring, of the law. -/
def ringM : Nat → Nat → Bool
  | 0, _ => true
  | m + 1, i => if kOf 6 nds i = 5 then (if tgt nds i 0 = 0 then false else ringM m (tgt nds i 0 - 1)) else false
def Fm : Nat → Nat → Int
  | 0, i => (adr sorts20 6 nds i : Int)
  | m + 1, i => if kOf 6 nds i = 5 then (if tgt nds i 0 = 0 then 0 else Fm m (tgt nds i 0 - 1)) else (adr sorts20 6 nds i : Int)
def Rm : Nat → Nat → Nat
  | 0, _ => 1
  | m + 1, i => if kOf 6 nds i = 5 then (if tgt nds i 0 = 0 then 2 else 1 + Rm m (tgt nds i 0 - 1)) else 1
def F20 (a : Int) : Int := match idx sorts20 6 nds a with | some j => Fm nds (nds.length + 1) j | none => 0
def R20 (a : Int) : Nat := match idx sorts20 6 nds a with | some j => Rm nds (nds.length + 1) j | none => 0
end
theorem ring_still {nds : List Nd} : ∀ {m i : Nat}, ringM nds m i = false → ∀ m', m ≤ m' → Fm nds m' i = Fm nds m i ∧ Rm nds m' i = Rm nds m i
  | 0, i, h, _, _ => by cases h
  | m + 1, i, h, m', hm => by
    obtain ⟨m'', rfl⟩ : ∃ k, m' = k + 1 := ⟨m' - 1, by omega⟩
    unfold ringM at h
    show (if _ then _ else _) = (if _ then _ else _) ∧ (if _ then _ else _) = (if _ then _ else _)
    by_cases h5 : kOf 6 nds i = 5
    · rw [if_pos h5] at h
      rw [if_pos h5, if_pos h5, if_pos h5, if_pos h5]
      by_cases h0 : tgt nds i 0 = 0
      · rw [if_pos h0, if_pos h0, if_pos h0, if_pos h0]; exact ⟨rfl, rfl⟩
      · rw [if_neg h0] at h
        rw [if_neg h0, if_neg h0, if_neg h0, if_neg h0]
        obtain ⟨k1, k2⟩ := ring_still h m'' (by omega)
        exact ⟨k1, by rw [k2]⟩
    · rw [if_neg h5, if_neg h5, if_neg h5, if_neg h5]; exact ⟨rfl, rfl⟩
theorem tgt_le (nds : List Nd) (j r : Nat) : tgt nds j r ≤ nds.length := by
  unfold tgt
  have h1 := Int.emod_lt_of_pos (rawOf (nd nds j) r) (show (0 : Int) < (nds.length : Int) + 1 by omega)
  omega
/-- What a closure stands for is none, or one that is no Ind. -/
theorem Fm_end {nds : List Nd} : ∀ {m i : Nat}, i < nds.length → ringM nds m i = false → Fm nds m i = 0 ∨ ∃ j, j < nds.length ∧ kOf 6 nds j ≠ 5 ∧ Fm nds m i = (adr sorts20 6 nds j : Int)
  | 0, i, _, h => by cases h
  | m + 1, i, hi, h => by
    unfold ringM at h
    unfold Fm
    by_cases h5 : kOf 6 nds i = 5
    · rw [if_pos h5] at h ⊢
      by_cases h0 : tgt nds i 0 = 0
      · rw [if_pos h0]; exact .inl rfl
      · rw [if_neg h0] at h ⊢
        have := tgt_le nds i 0
        exact Fm_end (by omega) h
    · rw [if_neg h5]; exact .inr ⟨i, hi, h5, rfl⟩
theorem Rm_pos (nds : List Nd) : ∀ m i, 1 ≤ Rm nds m i
  | 0, _ => Nat.le_refl _
  | m + 1, i => by unfold Rm; split <;> (try split) <;> omega
theorem tad_in (nds : List Nd) (j r : Nat) : (tad sorts20 6 nds j r : Int) = 0 ∨ ∃ i, i < nds.length ∧ (tad sorts20 6 nds j r : Int) = (adr sorts20 6 nds i : Int) := by
  unfold tad
  split
  · have := tgt_le nds j r
    exact .inr ⟨tgt nds j r - 1, by omega, rfl⟩
  · exact .inl rfl
section
variable {nds : List Nd} {s : HS} (h : Net sorts20 6 nds (fun j r => tad sorts20 6 nds j r) s) (hn : ∀ x ∈ nds, x.Ok) (hring : ∀ i, i < nds.length → ringM nds (nds.length + 1) i = false)
include h
theorem F20_adr {j : Nat} (hj : j < nds.length) : F20 nds (adr sorts20 6 nds j) = Fm nds (nds.length + 1) j ∧ R20 nds (adr sorts20 6 nds j) = Rm nds (nds.length + 1) j := by
  unfold F20 R20
  rw [idx_adr h.inj hj]
  exact ⟨rfl, rfl⟩
theorem idx0 : idx sorts20 6 nds 0 = none := by
  unfold idx
  rw [List.find?_eq_none]
  intro j hj
  rw [List.mem_range] at hj
  have := (h.wf.in_ (h.used j hj)).1
  simp; omega
theorem F20_other {j : Nat} (hj : j < nds.length) (h5 : kOf 6 nds j ≠ 5) : F20 nds (adr sorts20 6 nds j) = adr sorts20 6 nds j ∧ R20 nds (adr sorts20 6 nds j) = 1 := by
  obtain ⟨e1, e2⟩ := F20_adr h hj
  rw [e1, e2]
  unfold Fm Rm
  rw [if_neg h5, if_neg h5]
  exact ⟨rfl, rfl⟩
theorem net_ptrs (hn : ∀ x ∈ nds, x.Ok) {j : Nat} (hj : j < nds.length) : ptrAt sorts20 s (adr sorts20 6 nds j) = (List.range (inf sorts20 6 nds j).ptrs.toNat).map fun r => (tad sorts20 6 nds j r : Int) := by
  refine h.ptrs sorts20_lay (by decide) (by decide) hn hj fun q _ => ?_
  have hadr : ∀ i, i < nds.length → adr sorts20 6 nds i < 9000 := fun i hi => by
    have := (h.wf.in_ (h.used i hi)).2
    rw [h.n] at this
    omega
  show (0 : Int) ≤ (tad sorts20 6 nds j q : Int) ∧ (tad sorts20 6 nds j q : Int) < 9223372036854775808
  rcases tad_in nds j q with e | ⟨i, hi, e⟩
  · rw [e]; decide
  · rw [e]; have := hadr i hi; omega
include hring
theorem F20_ind {j : Nat} (hj : j < nds.length) (h5 : kOf 6 nds j = 5) : F20 nds (adr sorts20 6 nds j) = F20 nds (tad sorts20 6 nds j 0) ∧ R20 nds (tad sorts20 6 nds j 0) < R20 nds (adr sorts20 6 nds j) := by
  obtain ⟨e1, e2⟩ := F20_adr h hj
  have hr := hring j hj
  unfold ringM at hr
  rw [if_pos h5] at hr
  rw [e1, e2]
  unfold Fm Rm tad
  rw [if_pos h5, if_pos h5]
  by_cases h0 : tgt nds j 0 = 0
  · rw [if_pos h0, if_pos h0, if_neg (by omega)]
    have e3 : idx sorts20 6 nds ((0 : Nat) : Int) = none := idx0 h
    unfold F20 R20
    rw [e3]
    exact ⟨rfl, by show 0 < 2; omega⟩
  · rw [if_neg h0] at hr
    rw [if_neg h0, if_neg h0, if_pos (by omega)]
    have ht := tgt_le nds j 0
    obtain ⟨e3, e4⟩ := F20_adr h (j := tgt nds j 0 - 1) (by omega)
    obtain ⟨k1, k2⟩ := ring_still hr (nds.length + 1) (by omega)
    rw [e3, e4, k1, k2]
    exact ⟨rfl, by omega⟩
theorem stands20 : Stands (fun a => ∃ j, j < nds.length ∧ a = (adr sorts20 6 nds j : Int)) (F20 nds) (R20 nds) := by
  have f0 : F20 nds 0 = 0 := by unfold F20; rw [idx0 h]
  have r0 : R20 nds 0 = 0 := by unfold R20; rw [idx0 h]
  have hend : ∀ j, j < nds.length → F20 nds (adr sorts20 6 nds j) = 0 ∨ ∃ i, i < nds.length ∧ kOf 6 nds i ≠ 5 ∧ F20 nds (adr sorts20 6 nds j) = (adr sorts20 6 nds i : Int) := fun j hj => by
    rw [(F20_adr h hj).1]
    exact Fm_end hj (hring j hj)
  have hpos : ∀ j, j < nds.length → 1 ≤ R20 nds (adr sorts20 6 nds j) := fun j hj => by rw [(F20_adr h hj).2]; exact Rm_pos _ _ _
  refine ⟨?_, f0, ?_, ?_, ?_, ?_⟩
  · rintro ⟨j, hj, e⟩
    have := (h.wf.in_ (h.used j hj)).1
    omega
  · rintro a ⟨j, hj, rfl⟩
    rcases hend j hj with e | ⟨i, hi, h5, e⟩
    · rw [e, f0]
    · rw [e, (F20_other h hi h5).1]
  · rintro a ⟨j, hj, rfl⟩
    rcases hend j hj with e | ⟨i, hi, h5, e⟩
    · exact .inl e
    · exact .inr ⟨i, hi, e⟩
  · rintro a ⟨j, hj, rfl⟩
    rcases hend j hj with e | ⟨i, hi, h5, e⟩
    · rw [e, r0]; exact Nat.zero_le _
    · rw [e, (F20_other h hi h5).2]; exact hpos j hj
  · rintro a ⟨j, hj, rfl⟩
    rw [r0]; exact hpos j hj
include hn
theorem inv20 : Inv sorts20 (fun a => ∃ j, j < nds.length ∧ a = (adr sorts20 6 nds j : Int)) (F20 nds) (R20 nds) s s := by
  have hinf : ∀ j, j < nds.length → infAt sorts20 s (adr sorts20 6 nds j) = inf sorts20 6 nds j := fun j hj => h.inf sorts20_lay (by decide) (by decide) hn hj
  have hk6 : ∀ j, (inf sorts20 6 nds j).kind = 6 ↔ kOf 6 nds j = 5 := fun j => by
    obtain ⟨_, _, hkk⟩ := inf_mem (srt := sorts20) (nds := nds) (kinds := 6) (by decide) (by decide) hn j
    unfold inf
    generalize kOf 6 nds j = k at hkk
    match k, hkk with
    | 0, _ => decide
    | 1, _ => decide
    | 2, _ => decide
    | 3, _ => decide
    | 4, _ => decide
    | 5, _ => decide
  have hns : ∀ j, ¬ Sel (inf sorts20 6 nds j) := fun j => by
    obtain ⟨_, _, hkk⟩ := inf_mem (srt := sorts20) (nds := nds) (kinds := 6) (by decide) (by decide) hn j
    unfold inf
    generalize kOf 6 nds j = k at hkk
    match k, hkk with
    | 0, _ => decide
    | 1, _ => decide
    | 2, _ => decide
    | 3, _ => decide
    | 4, _ => decide
    | 5, _ => decide
  refine ⟨⟨h.wf, by rw [h.n]; decide, net_closed h ⟨by decide, by decide⟩ hn⟩, ?_, ?_, ?_, ?_, ?_, ?_, ?_, ?_, fun a ha hf => ⟨rfl, rfl⟩, rfl, rfl, fun _ => rfl, fun _ _ _ _ _ => rfl⟩
  · rintro a ⟨j, hj, rfl⟩; exact h.ok sorts20_lay (by decide) (by decide) hn hj
  · rintro a ⟨j, hj, rfl⟩ q hq
    rw [net_ptrs h hn hj] at hq
    obtain ⟨r, _, rfl⟩ := List.mem_map.1 hq
    exact tad_in nds j r
  · rintro a ⟨j, hj, rfl⟩ hk
    rw [hinf j hj, hk6] at hk
    have hp : p0 sorts20 s (adr sorts20 6 nds j) = (tad sorts20 6 nds j 0 : Int) := by
      unfold p0
      rw [net_ptrs h hn hj]
      have : (inf sorts20 6 nds j).ptrs = 1 := by unfold inf; rw [hk]; rfl
      rw [this]; rfl
    rw [hp]
    exact F20_ind h hring hj hk
  · rintro a ⟨j, hj, rfl⟩ hs; rw [hinf j hj] at hs; exact absurd hs (hns j)
  · rintro a ⟨j, hj, rfl⟩ hs; rw [hinf j hj] at hs; exact absurd hs (hns j)
  · rintro a ⟨j, hj, rfl⟩ hs; rw [hinf j hj] at hs; exact absurd hs (hns j)
  · rintro a ⟨j, hj, rfl⟩ hs; rw [hinf j hj] at hs; exact absurd hs (hns j)
  · rintro a ⟨j, hj, rfl⟩ hk _
    rw [hinf j hj, ne_eq, hk6] at hk
    exact (F20_other h hj hk).1
end
theorem nodup_le : ∀ {l m : List Int}, l.Nodup → (∀ x ∈ l, x ∈ m) → l.length ≤ m.length
  | [], _, _, _ => Nat.zero_le _
  | a :: l, m, hn, hs => by
    rw [List.nodup_cons] at hn
    have ha : a ∈ m := hs a (List.mem_cons_self ..)
    have h1 := nodup_le (m := m.erase a) hn.2 fun x hx => (List.mem_erase_of_ne fun e => hn.1 (by rw [← e]; exact hx)).2 (hs x (List.mem_cons_of_mem _ hx))
    have h2 := List.length_erase_of_mem ha
    have h3 := List.length_pos_of_mem ha
    rw [List.length_cons]
    omega
/-- Rounds end: what Collect and Mark ask for. -/
theorem down_dec {srt : List Inf} (U : SortsUp srt) {stf : HS → Int → Bool} (hst : ∀ s x, stf s x = true ↔ Per (inx srt s) x) {most : Int} {zs : List Int} {s0 : HS} :
    (∀ r ∈ zs, vok srt s0 r) → ∀ m out m', (Cl srt m.s ∧ ∀ b, okAt srt m.s b ↔ okAt srt s0 b) → m.e = 0 → m.wait = [] → Rnd srt most zs m out m' → m'.e = 0 → m'.wait = [] ∧ (Cl srt m'.s ∧ ∀ b, okAt srt m'.s b ↔ okAt srt s0 b) ∧ (m'.moved = true → mu stf srt m'.s < mu stf srt m.s) := by
  intro hr m out m' hg he hw h _
  have hd := h.down U hst hg.1 he hw fun r hr' h0 => (hg.2 r).2 (hr r hr' h0)
  exact ⟨hd.wait hw, ⟨hd.cl, fun b => (hd.ok b).trans (hg.2 b)⟩, hd.less⟩
/-- A heap of which closures that are not reached have been given back. -/
structure Kept20 (s u : HS) (F : Int → Int) (roots os : List Int) (kk : Nat) : Prop where
  wf : u.WF
  n : u.n = s.n
  plain : Plain sorts20 u
  out : os = roots.map F
  cells : cellsN u = kk
  roots : ∀ r ∈ os, r ≠ 0 → okAt sorts20 u r
  closed : ∀ a, okAt sorts20 u a → ∀ q ∈ ptrAt sorts20 u a, q ≠ 0 → okAt sorts20 u q
  least : ∀ R : Int → Prop, (∀ r ∈ os, r ≠ 0 → R r) → (∀ a, R a → ∀ q ∈ ptrAt sorts20 u a, q ≠ 0 → R q) → ∀ a : Nat, u.used a = true → R a
theorem okAt.used {srt : List Inf} {s : HS} {a : Int} (h : okAt srt s a) : s.used a.toNat = true := by
  obtain ⟨_, _, _, _, _, _, hh, _, _⟩ := look_in h
  exact HS.has_used hh
theorem coll_twice {B B2 : Nat} {w0 w : World} {q : SPl} {p : HP} {s : HS} {nds : List Nd} {zs : List Int} {most : Int} {ro : Option Addr} {rcap : Nat} (h : Sto B w0 w q p sorts20 s) (hN : Net sorts20 6 nds (fun j r => tad sorts20 6 nds j r) s) (hn : ∀ x ∈ nds, x.Ok)
    (hring : ∀ i, i < nds.length → ringM nds (nds.length + 1) i = false) (hr : ∀ r ∈ zs, r = 0 ∨ ∃ j, j < nds.length ∧ r = (adr sorts20 6 nds j : Int)) (hz : IntsAt w B2 (.slice ro zs.length rcap) zs) (hp : ∀ k, p.mine k → k < B2) (hzl : zs.length ≤ 1000) (hm : 1 ≤ most) :
    Calls Try.prog 30 #[.pointer (some ⟨q.sp, 0, none⟩), .slice ro zs.length rcap, .int .i64 most] w fun e w' => ∃ (a2 : Option Addr) (c2 kk ff : Nat) (pa pb pc : Int), e = .returned (.tuple #[.slice a2 zs.length c2, .agg #[.int .i64 kk, .int .i64 ff, .int .i64 pa, .int .i64 pb, .int .i64 pc], .int .i64 0]) ∧
      Hid (∃ u os, Sto B w0 w' q p sorts20 u ∧ Fr p.mine w w' ∧ IntsAt w' w.heap.size (.slice a2 zs.length c2) os ∧ os.length = zs.length ∧ kk + ff = nds.length ∧ Kept20 s u (F20 nds) zs os kk) := by
  have hS := stands20 hN hring
  have hI := inv20 hN hn hring
  obtain ⟨stf, hst⟩ := stf_is sorts20
  have hv : ∀ r ∈ zs, vok sorts20 s r := fun r hr' h0 => hI.ok r ((hr r hr').resolve_left h0)
  have hz' : RootsAt w p w.heap.size ro zs := by
    refine ⟨?_, fun z hz' => (hI.cl.range (hv z hz')).2, by omega⟩
    rcases hz.form with ⟨_, h2⟩ | ⟨g, cap, h1, h2, h3, h4⟩
    · exact .inl (by rw [h2]; rfl)
    · cases h1
      exact .inr ⟨g, 0, rfl, h3, fun hk => by have := hp _ hk; omega, fun j hj => by rw [Nat.zero_add]; exact h4 j hj⟩
  refine (collect_any h.own.at' h.sto h.sep sorts20_ok hm hz' (fun s' => Cl sorts20 s' ∧ ∀ b, okAt sorts20 s' b ↔ okAt sorts20 s b) (mu stf sorts20) ⟨hI.cl, fun _ => Iff.rfl⟩ (down_dec sorts20_up hst hv)).mono ?_
  intro e w' hpost
  obtain ⟨out, m', hrds, hf, hres⟩ := hpost.out
  obtain ⟨hC, hI'⟩ := hrds.canon sorts20_up hS hI hr fun m o m1 h => h.nodup
  rcases hres with ⟨he, _⟩ | ⟨_, hH, a2, c2, pa, pb, pc, rfl, hIn, hlen⟩
  · exact absurd hC.e he
  · have hseen : ∀ x, x ∈ m'.seen → okAt sorts20 m'.s x := fun x hx => hI'.ok x (hC.seen x hx).1
    have hk : ∀ k ∈ m'.seen, ∃ a : Nat, k = a ∧ m'.s.used a = true := fun k hk => by
      obtain ⟨A, kx, nx, hc⟩ := (hseen k hk).clo hI'.cl.wf
      exact ⟨A, hc.at', hc.used⟩
    obtain ⟨h1, h2, h3, h4⟩ := coll_seen hI'.cl.wf hC.nodup hk
    obtain ⟨u, hu⟩ : ∃ u, u = (collAll m'.s (sorted m'.seen)).1 := ⟨_, rfl⟩
    have hH2 := hH
    rw [← hu] at hH2 h2 h4
    have hwf := hH2.wf
    -- all that is left is as it was
    have hagr : ∀ x, x ∈ m'.seen → Agr m'.s u x := fun x hx => by
      obtain ⟨a, rfl, hua⟩ := hk x hx
      have huu := (h2 a).2 hx
      refine ⟨?_, fun k hkc => ?_⟩
      · rw [Int.toNat_natCast, hu]; exact h1.cap a (by rw [← hu]; exact huu)
      · rw [Int.toNat_natCast] at hkc ⊢
        rw [hu]; exact h1.word a k (by rw [← hu]; exact huu) hkc
    have huseen : ∀ a, okAt sorts20 u a → a ∈ m'.seen := fun a ha => by
      obtain ⟨A, kx, nx, hc⟩ := ha.clo hwf
      rw [hc.at']; exact (h2 A).1 hc.used
    have hcl0 : cellsN m'.s = nds.length := by
      have := hN.cells
      unfold cellsN
      rw [hI'.used, hI'.n]
      exact this
    have hptr : ∀ x, x ∈ m'.seen → ptrAt sorts20 u x = (ptrAt sorts20 s x).map (F20 nds) := fun x hx => (hagr x hx).ptrAt sorts20 |>.trans (hC.seen x hx).2.2.2
    refine ⟨a2, c2, _, _, pa, pb, pc, rfl, u, out, h.step hf hH2, hf, hIn, hlen, h1.sum.trans hcl0, hwf, ?_, ?_, hC.out, ?_, ?_, ?_, ?_⟩
    · rw [hu, h1.n]; exact hI'.n
    · intro a
      by_cases ha : okAt sorts20 u a
      · have hx := huseen a ha
        rw [(hagr a hx).infAt]
        obtain ⟨j, hj, rfl⟩ := (hC.seen a hx).1
        have hFa := (hC.seen _ hx).2.1
        rw [(hC.seen _ hx).2.2.1]
        refine ⟨fun h6 => ?_, fun _ => ?_⟩
        · have := hI.ind _ ⟨j, hj, rfl⟩ h6
          have hne := hS.moves ⟨j, hj, rfl⟩ (hI.p0S ⟨j, hj, rfl⟩ 0) this.1 this.2
          exact hne hFa
        · rw [hN.inf sorts20_lay (by decide) (by decide) hn hj]
          obtain ⟨_, hm, _⟩ := inf_mem (srt := sorts20) (nds := nds) (kinds := 6) (by decide) (by decide) hn j
          have hall : ∀ i ∈ sorts20, i.pick = 0 := by decide
          exact hall _ hm
      · rw [(info_bad ha).2.2.1]
        exact ⟨by decide, by decide⟩
    · rw [h3] at *; exact h4
    · intro r hr' h0
      rw [hC.out] at hr'
      obtain ⟨x, hx, rfl⟩ := List.mem_map.1 hr'
      have hs := hC.outs x hx h0
      exact ((hagr _ hs).ok sorts20).2 (hseen _ hs)
    · intro a ha q hq h0
      have hx := huseen a ha
      rw [hptr a hx] at hq
      obtain ⟨x, hx', rfl⟩ := List.mem_map.1 hq
      have hs := hC.closed a hx x hx' h0
      exact ((hagr _ hs).ok sorts20).2 (hseen _ hs)
    · intro R hR1 hR2 a hua
      have hx := (h2 a).1 hua
      have hfull := hC.least (fun x => x ∈ m'.seen ∧ R x) (fun r hr' h0 => ?_) (fun x hx hS' hF q hq h0 => ?_) a hx
      · exact hfull.2
      · exact ⟨hC.outs r hr' h0, hR1 _ (by rw [hC.out]; exact List.mem_map.2 ⟨r, hr', rfl⟩) h0⟩
      · refine ⟨hC.closed x hx.1 q hq h0, hR2 x hx.2 _ ?_ h0⟩
        rw [hptr x hx.1]
        exact List.mem_map.2 ⟨q, hq, rfl⟩
/-- Collect once more: nothing is given back, and the roots stay. -/
theorem coll_again {B B2 : Nat} {w0 w : World} {q : SPl} {p : HP} {s u : HS} {F : Int → Int} {zs os : List Int} {kk : Nat} {most : Int} {ro : Option Addr} {rcap : Nat} (h : Sto B w0 w q p sorts20 u) (hK : Kept20 s u F zs os kk) (hn : s.n = 256)
    (hz : IntsAt w B2 (.slice ro os.length rcap) os) (hp : ∀ k, p.mine k → k < B2) (hzl : os.length ≤ 1000) (hm : 1 ≤ most) :
    Calls Try.prog 30 #[.pointer (some ⟨q.sp, 0, none⟩), .slice ro os.length rcap, .int .i64 most] w fun e w' => ∃ (a2 : Option Addr) (c2 : Nat) (pa pb pc : Int), e = .returned (.tuple #[.slice a2 os.length c2, .agg #[.int .i64 kk, .int .i64 0, .int .i64 pa, .int .i64 pb, .int .i64 pc], .int .i64 0]) ∧
      Hid (Fr p.mine w w' ∧ IntsAt w' w.heap.size (.slice a2 os.length c2) os) := by
  have hrange : ∀ z ∈ os, z < 9223372036854775808 := fun z hz => by
    by_cases h0 : z = 0
    · omega
    · obtain ⟨A, k, n, hc⟩ := (hK.roots z hz h0).clo hK.wf
      have h1 := hc.at'; have h2 := hc.lt; have h3 := hK.n; have h4 := hc.cap
      omega
  refine (coll_simple h hK.plain (V := okAt sorts20 u) (R := fun _ => True) (fun _ h => h) hK.closed hK.roots (fun _ _ _ => trivial) (fun _ _ _ _ _ => trivial) hz hp hrange hzl hm).mono ?_
  rintro e w' ⟨a2, c2, k2, f2, pa, pb, pc, rfl, hh⟩
  obtain ⟨m', v, hC⟩ := hh.out
  have hall : ∀ a : Nat, u.used a = true → (a : Int) ∈ m'.seen := hK.least (fun x => x ∈ m'.seen) hC.seen.roots fun a ha q hq h0 => (hC.seen.seen a ha).2.2.2 q hq h0
  have hlen : cellsN u ≤ m'.seen.length := by
    have hsub : ∀ x ∈ cellsTo u.used (1 + 32 * u.n), x ∈ m'.seen := fun x hx => by
      obtain ⟨a, rfl, _, hu⟩ := mem_cells.1 hx
      exact hall a hu
    have hnd : (cellsTo u.used (1 + 32 * u.n)).Nodup := (cells_pair _ _).imp fun {a b} h => by omega
    exact nodup_le hnd hsub
  have h1 := hC.sum
  have h2 := hC.kkl
  have h3 := hK.cells
  have e1 : k2 = kk := by omega
  have e2 : f2 = 0 := by omega
  subst e1 e2
  exact ⟨a2, c2, pa, pb, pc, rfl, hC.fr, hC.row⟩
end Go.Proofs.Ytjfpijoeddjgmaa
