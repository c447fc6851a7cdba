/- Closures laid into a heap: the plain model of the laws' lay. Conditions: as each says. -/
import Derived.Test.YtjfpijoeddjgmaaNodes
import Derived.Test.YtjfpijoeddjgmaaMarkM
namespace Go.Proofs.Ytjfpijoeddjgmaa
open Go.RowKit Hm
set_option linter.unusedVariables false

/-- A small cell is had where a block is free. -/
theorem new_small {s : HS} (h : s.WF) {i m : Nat} (hf : ∀ b, i ≤ b → s.kind b = 0) (hi : i < s.n) (h1 : 1 ≤ m) (h32 : m ≤ 32) :
    ∃ (a : Nat) (t : HS), s.alloc m = (a, 0, t) ∧ t.WF ∧ HS.New s t a ∧ t.cap a = cls m ∧ (∀ b, i + 1 ≤ b → t.kind b = 0) := by
  have hwf := h.alloc (m : Int)
  rcases HS.alloc_cases h (m : Int) with ⟨h1', _, _⟩ | ⟨h1', _, _, h4, h5⟩
  · exfalso
    apply h1'
    unfold HS.alloc
    rw [if_neg (by omega), if_neg (by omega), Int.toNat_natCast]
    cases hb : s.blk (cls m) with
    | some b => rfl
    | none =>
      cases hr : s.run 1 with
      | some b => rfl
      | none =>
        obtain ⟨j, hj, hne⟩ := HS.run_none hr i (by omega)
        exact absurd (hf _ (by omega)) hne
  · refine ⟨(s.alloc m).1, (s.alloc m).2.2, by rw [← h1'], hwf, h4, by rw [h5, if_neg (by omega), Int.toNat_natCast], ?_⟩
    unfold HS.alloc
    rw [if_neg (by omega), if_neg (by omega), Int.toNat_natCast]
    cases hb : s.blk (cls m) with
    | some b => exact fun b hb => hf b (by omega)
    | none =>
      cases hr : s.run 1 with
      | none =>
        obtain ⟨j, hj, hne⟩ := HS.run_none hr i (by omega)
        exact absurd (hf _ (by omega)) hne
      | some b =>
        have hle : b ≤ i := by
          refine Nat.le_of_not_lt fun hlt => ?_
          obtain ⟨j, hj, hne⟩ := HS.run_first hr i hlt
          exact hne (hf _ (by omega))
        intro b' hb'
        show upd s.kind b _ b' = 0
        rw [upd_other _ _ (by omega)]; exact hf b' (by omega)

/-! ### The laws' graphs -/
def szOf (i : Inf) : Nat := (max i.size 1).toNat
/-- Sorts of which the laws lay closures. -/
structure LaySorts (srt : List Inf) : Prop where
  ok : ∀ i ∈ srt, i.Ok
  few : srt.length ≤ 100
  kind : ∀ i ∈ srt, i.kind ≠ 3
  fits : ∀ i ∈ srt, i.fits (szOf i) = true
  size : ∀ i ∈ srt, 1 ≤ szOf i ∧ szOf i ≤ 31
  room : ∀ i ∈ srt, i.ptrs + i.nons ≤ szOf i
  nons : ∀ i ∈ srt, i.nons ≤ 1
section
variable (srt : List Inf) (kinds : Nat) (nds : List Nd)
def nd (i : Nat) : Nd := nds.getD i ndz
def kOf (i : Nat) : Nat := ((nd nds i).sort % kinds).toNat
def inf (i : Nat) : Inf := srt.getD (kOf kinds nds i) noInf
def sz (i : Nat) : Nat := szOf (inf srt kinds nds i)
def L1 : Nat → HS
  | 0 => HS.empty 256
  | i + 1 => (setM srt (newM srt (L1 i) (kOf kinds nds i) (sz srt kinds nds i)).2.2 (newM srt (L1 i) (kOf kinds nds i) (sz srt kinds nds i)).1 (nd nds i).num).2
def adr (i : Nat) : Nat := (newM srt (L1 srt kinds nds i) (kOf kinds nds i) (sz srt kinds nds i)).1
def rawOf (x : Nd) : Nat → Int
  | 0 => x.l0
  | 1 => x.l1
  | _ => x.l2
/-- Where pointer q of node i tells to: a place, from 1 on; 0: none. -/
def tgt (i q : Nat) : Nat := (rawOf (nd nds i) q % ((nds.length : Int) + 1)).toNat
/-- .. as an address. -/
def tad (i q : Nat) : Nat := if 0 < tgt nds i q then adr srt kinds nds (tgt nds i q - 1) else 0

structure L1I (i : Nat) (s : HS) : Prop where
  wf : s.WF
  n : s.n = 256
  free : ∀ b, i ≤ b → s.kind b = 0
  inj : ∀ j j', j < i → j' < i → adr srt kinds nds j = adr srt kinds nds j' → j = j'
  used : ∀ j, j < i → s.used (adr srt kinds nds j) = true
  cap : ∀ j, j < i → 1 + sz srt kinds nds j ≤ s.cap (adr srt kinds nds j)
  head : ∀ j, j < i → s.word (adr srt kinds nds j) = headOf (kOf kinds nds j) (sz srt kinds nds j)
  body : ∀ j x, j < i → 1 ≤ x → x ≤ sz srt kinds nds j → s.word (adr srt kinds nds j + x) = if (inf srt kinds nds j).ptrs + 1 = x ∧ 0 < (inf srt kinds nds j).nons then (nd nds j).num else 0
  all : ∀ x, s.used x = true → ∃ j, j < i ∧ adr srt kinds nds j = x
end
theorem headOf_range {k n : Nat} (hk : k < 100) (hn : n ≤ 60) : 0 ≤ headOf k n ∧ headOf k n < 18446744073709551616 := by unfold headOf; omega
theorem cls_in {m : Nat} (h : m ≤ 32) : m ≤ cls m := cls_ge m h

theorem inf_mem {srt : List Inf} {kinds : Nat} {nds : List Nd} (hk : 0 < kinds) (hkl : kinds ≤ srt.length) (hn : ∀ x ∈ nds, x.Ok) (i : Nat) : kOf kinds nds i < srt.length ∧ inf srt kinds nds i ∈ srt ∧ kOf kinds nds i < kinds := by
  have h0 : (nd nds i).sort % kinds < kinds := Int.emod_lt_of_pos _ (by omega)
  have h1 : 0 ≤ (nd nds i).sort % kinds := Int.emod_nonneg _ (by omega)
  have hlt : kOf kinds nds i < kinds := by unfold kOf; omega
  refine ⟨by omega, ?_, hlt⟩
  unfold inf
  rw [List.getD_eq_getElem?_getD, List.getElem?_eq_getElem (by omega)]
  exact List.getElem_mem _

/-- One closure more. -/
theorem lay_step {srt : List Inf} {kinds : Nat} {nds : List Nd} (S : LaySorts srt) (hk : 0 < kinds) (hkl : kinds ≤ srt.length) (hn : ∀ x ∈ nds, x.Ok) {i : Nat} (hi : i < 256) (hil : i < nds.length) (h : L1I srt kinds nds i (L1 srt kinds nds i)) :
    ∃ (a : Nat) (t t' : HS) (e : Int), newM srt (L1 srt kinds nds i) (kOf kinds nds i) (sz srt kinds nds i) = (a, 0, t) ∧ setM srt t a (nd nds i).num = (e, t') ∧ adr srt kinds nds i = a ∧ L1 srt kinds nds (i + 1) = t' ∧ L1I srt kinds nds (i + 1) t' := by
  obtain ⟨hkl2, hmem, hkk⟩ := inf_mem (srt := srt) hk hkl hn i
  obtain ⟨hs1, hs31⟩ := S.size _ hmem
  have hfits := S.fits _ hmem
  have hroom := S.room _ hmem
  have hnons := S.nons _ hmem
  have hok := S.ok _ hmem
  have hkind := S.kind _ hmem
  have hfew := S.few
  obtain ⟨a, t, he, hwf, hnew, hcap, hfree⟩ := new_small h.wf (m := 1 + sz srt kinds nds i) h.free (by rw [h.n]; exact hi) (by omega) (by unfold sz; omega)
  have hcapge : 1 + sz srt kinds nds i ≤ t.cap a := by rw [hcap]; exact cls_ge _ (by unfold sz; omega)
  have hnewM : newM srt (L1 srt kinds nds i) (kOf kinds nds i) (sz srt kinds nds i) = (a, 0, t.write a 0 (headOf (kOf kinds nds i) (sz srt kinds nds i))) := by
    unfold newM
    rw [if_pos (by omega), Int.toNat_natCast]
    have hf : (srt.getD (kOf kinds nds i) noInf).fits (sz srt kinds nds i) = true := hfits
    rw [if_pos hf, show (1 : Int) + ((sz srt kinds nds i : Nat) : Int) = ((1 + sz srt kinds nds i : Nat) : Int) by omega, he, if_pos rfl]
  have hadr : adr srt kinds nds i = a := by unfold adr; rw [hnewM]
  obtain ⟨t1, ht1⟩ : ∃ t1, t1 = t.write a 0 (headOf (kOf kinds nds i) (sz srt kinds nds i)) := ⟨_, rfl⟩
  rw [← ht1] at hnewM
  have hw1 : t1.WF := by rw [ht1]; exact hwf.write (by omega) (headOf_range (by omega) (by unfold sz; omega))
  have hcap1 : ∀ x, t1.cap x = t.cap x := fun x => by rw [ht1]; rfl
  have hlook : lookM srt t1 (a : Int) = ((kOf kinds nds i : Int), (sz srt kinds nds i : Int), 0) := by
    refine look_of (by omega) (by omega) hfits (by unfold sz; omega) (by unfold sz; omega) ?_ (by rw [hcap1]; exact hcapge)
    rw [ht1]
    show upd t.word (a + 0) _ a = _
    rw [Nat.add_zero, upd_same]
  have hcount := count_of hlook
  have hnd : (nd nds i).Ok := hn _ (by unfold nd; rw [List.getD_eq_getElem?_getD, List.getElem?_eq_getElem hil]; exact List.getElem_mem _)
  have hptr : (srt.getD (kOf kinds nds i) noInf).pointers (sz srt kinds nds i) = (inf srt kinds nds i).ptrs := by
    show (inf srt kinds nds i).pointers (sz srt kinds nds i) = _
    unfold Inf.pointers
    rw [if_neg hkind]
  rw [hptr] at hcount
  have hinf : srt.getD (kOf kinds nds i) noInf = inf srt kinds nds i := rfl
  rw [hinf] at hcount
  -- the number
  obtain ⟨P, hP⟩ : ∃ P : Nat, (inf srt kinds nds i).ptrs = P := ⟨(inf srt kinds nds i).ptrs.toNat, by have := hok.p0; omega⟩
  have hset : ∃ e t', setM srt t1 a (nd nds i).num = (e, t') ∧ t'.WF ∧ t'.n = t1.n ∧ t'.kind = t1.kind ∧ t'.used = t1.used ∧ (∀ x, t'.cap x = t1.cap x) ∧ ∀ y, t'.word y = if (y = a + (P + 1) ∧ 0 < (inf srt kinds nds i).nons) then (nd nds i).num else t1.word y := by
    unfold setM
    rw [hcount, if_pos rfl]
    by_cases hno : (inf srt kinds nds i).nons < 1
    · rw [if_pos hno]
      refine ⟨1, t1, rfl, hw1, rfl, rfl, rfl, fun _ => rfl, fun y => ?_⟩
      rw [if_neg (by omega)]
    · rw [if_neg hno, hP]
      have hx : P + 1 < t1.cap a := by rw [hcap1]; rw [hP] at hroom; have : sz srt kinds nds i = szOf (inf srt kinds nds i) := rfl; omega
      have hwr := wr_of (s := t1) (a := a) (i := P + 1) (v := (nd nds i).num) hx
      rw [show (1 : Int) + (P : Int) = ((P + 1 : Nat) : Int) by omega, hwr]
      refine ⟨0, _, rfl, hw1.write hx hnd.n, rfl, rfl, rfl, fun _ => rfl, fun y => ?_⟩
      show upd t1.word (a + (P + 1)) _ y = _
      unfold upd
      by_cases hy : y = a + (P + 1)
      · rw [if_pos hy, if_pos ⟨hy, by omega⟩]
      · rw [if_neg hy, if_neg (fun h => hy h.1)]
  obtain ⟨e, t', hset, hwf', hn', hkind', hused', hcap', hword'⟩ := hset
  refine ⟨a, t1, t', e, hnewM, hset, hadr, ?_, ?_⟩
  · show (setM srt (newM srt (L1 srt kinds nds i) (kOf kinds nds i) (sz srt kinds nds i)).2.2 (newM srt (L1 srt kinds nds i) (kOf kinds nds i) (sz srt kinds nds i)).1 (nd nds i).num).2 = t'
    rw [hnewM]
    exact congrArg Prod.snd hset
  have hu1 : t'.used = upd (L1 srt kinds nds i).used a true := by rw [hused', ht1]; exact hnew.used
  have hw1e : ∀ y, t1.word y = if y = a then headOf (kOf kinds nds i) (sz srt kinds nds i) else (L1 srt kinds nds i).word y := fun y => by
    rw [ht1]
    show upd t.word (a + 0) _ y = _
    rw [Nat.add_zero, hnew.word]
    unfold upd
    rfl
  have hold : ∀ j, j < i → adr srt kinds nds j ≠ a := fun j hj e => by
    have := h.used j hj
    rw [e, hnew.fresh] at this; cases this
  have hcapo : ∀ j, j < i → t'.cap (adr srt kinds nds j) = (L1 srt kinds nds i).cap (adr srt kinds nds j) := fun j hj => by
    rw [hcap', hcap1, hnew.caps _ (h.used j hj)]
  have hua : t'.used a = true := by rw [hu1, upd_same]
  have huo : ∀ j, j < i → t'.used (adr srt kinds nds j) = true := fun j hj => by rw [hu1, upd_other _ _ (hold j hj)]; exact h.used j hj
  have hcapa : t'.cap a = t.cap a := by rw [hcap', hcap1]
  have hfar : ∀ j x, j < i → x ≤ sz srt kinds nds j → ∀ y, y ≤ sz srt kinds nds i → adr srt kinds nds j + x ≠ a + y := fun j x hj hx y hy e => by
    have h1 := h.cap j hj
    rw [← hcapo j hj] at h1
    rcases Nat.lt_or_gt_of_ne (hold j hj) with hl | hl
    · have := hwf'.apart (huo j hj) hua hl; omega
    · have := hwf'.apart hua (huo j hj) hl
      rw [hcapa] at this
      omega
  refine ⟨hwf', by rw [hn', ht1]; exact hnew.n.trans h.n, ?_, ?_, ?_, ?_, ?_, ?_, ?_⟩
  · intro b hb; rw [hkind', ht1]; exact hfree b hb
  · intro j j' hj hj' e
    by_cases h1 : j = i
    · by_cases h2 : j' = i
      · omega
      · subst h1; rw [hadr] at e; exact absurd e.symm (hold j' (by omega))
    · by_cases h2 : j' = i
      · subst h2; rw [hadr] at e; exact absurd e (hold j (by omega))
      · exact h.inj j j' (by omega) (by omega) e
  · intro j hj
    by_cases h1 : j = i
    · subst h1; rw [hadr]; exact hua
    · exact huo j (by omega)
  · intro j hj
    by_cases h1 : j = i
    · subst h1; rw [hadr, hcapa]; exact hcapge
    · rw [hcapo j (by omega)]; exact h.cap j (by omega)
  · intro j hj
    by_cases h1 : j = i
    · subst h1
      rw [hadr, hword', if_neg (by omega), hw1e, if_pos rfl]
    · have h2 := hfar j 0 (by omega) (by omega)
      have h3 := h2 0 (by omega)
      have h4 : adr srt kinds nds j ≠ a + (P + 1) ∨ ¬ 0 < (inf srt kinds nds i).nons := by
        by_cases hno : 0 < (inf srt kinds nds i).nons
        · left
          have hP1 : P + 1 ≤ sz srt kinds nds i := by rw [hP] at hroom; have : sz srt kinds nds i = szOf (inf srt kinds nds i) := rfl; omega
          exact fun e => h2 (P + 1) hP1 (by omega)
        · exact .inr hno
      rw [hword', if_neg (fun hc => h4.elim (fun h => h hc.1) (fun h => h hc.2)), hw1e, if_neg (by omega)]
      exact h.head j (by omega)
  · intro j x hj hx1 hx2
    by_cases h1 : j = i
    · subst h1
      rw [hadr, hword', hP]
      by_cases hc : a + x = a + (P + 1) ∧ 0 < (inf srt kinds nds j).nons
      · rw [if_pos hc, if_pos ⟨by omega, hc.2⟩]
      · rw [if_neg hc, if_neg (by rintro ⟨e1, e2⟩; exact hc ⟨by omega, e2⟩), hw1e, if_neg (by omega)]
        have hz := hnew.zero h.wf hwf (k := x) (by omega)
        rw [hnew.word] at hz
        exact hz
    · have h2 := hfar j x (by omega) hx2
      have h3 := h2 0 (by omega)
      have h4 : adr srt kinds nds j + x ≠ a + (P + 1) ∨ ¬ 0 < (inf srt kinds nds i).nons := by
        by_cases hno : 0 < (inf srt kinds nds i).nons
        · left
          have hP1 : P + 1 ≤ sz srt kinds nds i := by rw [hP] at hroom; have : sz srt kinds nds i = szOf (inf srt kinds nds i) := rfl; omega
          exact h2 (P + 1) hP1
        · exact .inr hno
      rw [hword', if_neg (fun hc => h4.elim (fun h => h hc.1) (fun h => h hc.2)), hw1e, if_neg (by omega)]
      exact h.body j x (by omega) hx1 hx2
  · intro x hx
    rw [hu1] at hx
    by_cases h1 : x = a
    · exact ⟨i, by omega, by rw [hadr, h1]⟩
    · rw [upd_other _ _ h1] at hx
      obtain ⟨j, hj, e⟩ := h.all x hx
      exact ⟨j, by omega, e⟩
theorem lay_inv {srt : List Inf} {kinds : Nat} {nds : List Nd} (S : LaySorts srt) (hk : 0 < kinds) (hkl : kinds ≤ srt.length) (hn : ∀ x ∈ nds, x.Ok) (hl : nds.length ≤ 200) : ∀ i, i ≤ nds.length → L1I srt kinds nds i (L1 srt kinds nds i)
  | 0, _ => ⟨HS.empty_wf 256, rfl, fun _ _ => rfl, fun j _ hj => by omega, fun j hj => by omega, fun j hj => by omega, fun j hj => by omega, fun j x hj => by omega, fun x hx => by cases hx⟩
  | i + 1, hi => by
    obtain ⟨a, t, t', e, _, _, _, h1, h2⟩ := lay_step S hk hkl hn (i := i) (by omega) (by omega) (lay_inv S hk hkl hn hl i (by omega))
    rw [h1]; exact h2

/-! ### The closures as a net: each one's pointers -/
structure Net (srt : List Inf) (kinds : Nat) (nds : List Nd) (V : Nat → Nat → Int) (s : HS) : Prop where
  wf : s.WF
  n : s.n = 256
  inj : ∀ j j', j < nds.length → j' < nds.length → adr srt kinds nds j = adr srt kinds nds j' → j = j'
  used : ∀ j, j < nds.length → s.used (adr srt kinds nds j) = true
  cap : ∀ j, j < nds.length → 1 + sz srt kinds nds j ≤ s.cap (adr srt kinds nds j)
  head : ∀ j, j < nds.length → s.word (adr srt kinds nds j) = headOf (kOf kinds nds j) (sz srt kinds nds j)
  ptr : ∀ (j q : Nat), j < nds.length → (q : Int) < (inf srt kinds nds j).ptrs → s.word (adr srt kinds nds j + (1 + q)) = V j q
  num : ∀ j (P : Nat), j < nds.length → (inf srt kinds nds j).ptrs = P → 0 < (inf srt kinds nds j).nons → s.word (adr srt kinds nds j + (1 + P)) = (nd nds j).num
  all : ∀ x, s.used x = true → ∃ j, j < nds.length ∧ adr srt kinds nds j = x
section
variable {srt : List Inf} {kinds : Nat} {nds : List Nd} {V : Nat → Nat → Int} {s : HS}
theorem L1I.net (S : LaySorts srt) (hk : 0 < kinds) (hkl : kinds ≤ srt.length) (hn : ∀ x ∈ nds, x.Ok) (h : L1I srt kinds nds nds.length s) : Net srt kinds nds (fun _ _ => 0) s := by
  refine ⟨h.wf, h.n, h.inj, h.used, h.cap, h.head, fun j q hj hq => ?_, fun j P hj hP hno => ?_, h.all⟩
  · obtain ⟨_, hmem, _⟩ := inf_mem (srt := srt) (nds := nds) hk hkl hn j
    have h1 := S.room _ hmem
    have h2 := (S.ok _ hmem).n0
    have h3 : sz srt kinds nds j = szOf (inf srt kinds nds j) := rfl
    rw [h.body j (1 + q) hj (by omega) (by omega), if_neg (by omega)]
  · obtain ⟨_, hmem, _⟩ := inf_mem (srt := srt) (nds := nds) hk hkl hn j
    have h1 := S.room _ hmem
    have h3 : sz srt kinds nds j = szOf (inf srt kinds nds j) := rfl
    rw [h.body j (1 + P) hj (by omega) (by omega), if_pos ⟨by omega, hno⟩]
theorem Net.look (h : Net srt kinds nds V s) (S : LaySorts srt) (hk : 0 < kinds) (hkl : kinds ≤ srt.length) (hn : ∀ x ∈ nds, x.Ok) {j : Nat} (hj : j < nds.length) :
    lookM srt s (adr srt kinds nds j) = ((kOf kinds nds j : Int), (sz srt kinds nds j : Int), 0) := by
  obtain ⟨h1, hmem, _⟩ := inf_mem (srt := srt) (nds := nds) hk hkl hn j
  obtain ⟨hs1, hs31⟩ := S.size _ hmem
  exact look_of h1 (by have := S.few; omega) (S.fits _ hmem) hs1 (by unfold sz; omega) (h.head j hj) (h.cap j hj)
theorem Net.count (h : Net srt kinds nds V s) (S : LaySorts srt) (hk : 0 < kinds) (hkl : kinds ≤ srt.length) (hn : ∀ x ∈ nds, x.Ok) {j : Nat} (hj : j < nds.length) :
    countM srt s (adr srt kinds nds j) = ((inf srt kinds nds j).ptrs, (inf srt kinds nds j).nons, 0) := by
  have h1 := count_of (h.look S hk hkl hn hj)
  obtain ⟨_, hmem, _⟩ := inf_mem (srt := srt) (nds := nds) hk hkl hn j
  have h2 : (srt.getD (kOf kinds nds j) noInf).pointers (sz srt kinds nds j) = (inf srt kinds nds j).ptrs := by
    show (inf srt kinds nds j).pointers (sz srt kinds nds j) = _
    unfold Inf.pointers
    rw [if_neg (S.kind _ hmem)]
  rw [h2] at h1
  exact h1
theorem Net.apart (h : Net srt kinds nds V s) {i j x y : Nat} (hi : i < nds.length) (hj : j < nds.length) (hne : i ≠ j) (hx : x ≤ sz srt kinds nds i) (hy : y ≤ sz srt kinds nds j) : adr srt kinds nds i + x ≠ adr srt kinds nds j + y := by
  intro e
  have h1 := h.cap i hi
  have h2 := h.cap j hj
  rcases Nat.lt_trichotomy (adr srt kinds nds i) (adr srt kinds nds j) with hl | hl | hl
  · have := h.wf.apart (h.used i hi) (h.used j hj) hl; omega
  · exact hne (h.inj i j hi hj hl)
  · have := h.wf.apart (h.used j hj) (h.used i hi) hl; omega
/-- A pointer is set. -/
theorem Net.point (h : Net srt kinds nds V s) (S : LaySorts srt) (hk : 0 < kinds) (hkl : kinds ≤ srt.length) (hn : ∀ x ∈ nds, x.Ok) {i q : Nat} (hi : i < nds.length) {t : Int} (ht : 0 ≤ t ∧ t < 9223372036854775808) :
    ((q : Int) < (inf srt kinds nds i).ptrs → ∃ s', pointM srt s (adr srt kinds nds i) q t = (0, s') ∧ Net srt kinds nds (fun j r => if j = i ∧ r = q then t else V j r) s') ∧
    (¬ (q : Int) < (inf srt kinds nds i).ptrs → pointM srt s (adr srt kinds nds i) q t = (1, s)) := by
  have hc := h.count S hk hkl hn hi
  obtain ⟨_, hmem, _⟩ := inf_mem (srt := srt) (nds := nds) hk hkl hn i
  have hroom := S.room _ hmem
  have hn0 := (S.ok _ hmem).n0
  have hszi : sz srt kinds nds i = szOf (inf srt kinds nds i) := rfl
  have hcap := h.cap i hi
  refine ⟨fun hq => ?_, fun hq => ?_⟩
  · have hx : q + 1 < s.cap (adr srt kinds nds i) := by omega
    have hwr := wr_of (s := s) (a := adr srt kinds nds i) (i := q + 1) (v := t) hx
    refine ⟨s.write (adr srt kinds nds i) (q + 1) t, ?_, ?_⟩
    · unfold pointM
      rw [hc, if_pos rfl, if_neg (by omega), show (1 : Int) + (q : Int) = ((q + 1 : Nat) : Int) by omega]
      exact hwr
    · have hword : ∀ y, (s.write (adr srt kinds nds i) (q + 1) t).word y = if y = adr srt kinds nds i + (q + 1) then t else s.word y := fun y => rfl
      refine ⟨h.wf.write hx (by omega), h.n, h.inj, h.used, h.cap, fun j hj => ?_, fun j r hj hr => ?_, fun j P hj hP hno => ?_, h.all⟩
      · rw [hword]
        by_cases hji : j = i
        · subst hji; rw [if_neg (by omega)]; exact h.head j hj
        · rw [if_neg (fun e => h.apart hj hi hji (x := 0) (y := q + 1) (by omega) (by omega) (by omega))]; exact h.head j hj
      · rw [hword]
        obtain ⟨_, hmemj, _⟩ := inf_mem (srt := srt) (nds := nds) hk hkl hn j
        have hroomj := S.room _ hmemj
        have hn0j := (S.ok _ hmemj).n0
        have hszj : sz srt kinds nds j = szOf (inf srt kinds nds j) := rfl
        by_cases hji : j = i
        · subst hji
          by_cases hrq : r = q
          · subst hrq; rw [if_pos (by omega), if_pos ⟨rfl, rfl⟩]
          · rw [if_neg (by omega), if_neg (fun hh => hrq hh.2)]; exact h.ptr j r hj hr
        · rw [if_neg (fun e => h.apart hj hi hji (x := 1 + r) (y := q + 1) (by omega) (by omega) e), if_neg (fun hh => hji hh.1)]; exact h.ptr j r hj hr
      · rw [hword]
        obtain ⟨_, hmemj, _⟩ := inf_mem (srt := srt) (nds := nds) hk hkl hn j
        have hroomj := S.room _ hmemj
        have hszj : sz srt kinds nds j = szOf (inf srt kinds nds j) := rfl
        by_cases hji : j = i
        · subst hji; rw [if_neg (by omega)]; exact h.num j P hj hP hno
        · rw [if_neg (fun e => h.apart hj hi hji (x := 1 + P) (y := q + 1) (by omega) (by omega) e)]; exact h.num j P hj hP hno
  · unfold pointM
    rw [hc, if_pos rfl, if_pos (by omega)]
theorem Net.congr {V' : Nat → Nat → Int} (h : Net srt kinds nds V s) (hv : ∀ (j q : Nat), j < nds.length → (q : Int) < (inf srt kinds nds j).ptrs → V j q = V' j q) : Net srt kinds nds V' s :=
  ⟨h.wf, h.n, h.inj, h.used, h.cap, h.head, fun j q hj hq => by rw [← hv j q hj hq]; exact h.ptr j q hj hq, h.num, h.all⟩
theorem Net.inf (h : Net srt kinds nds V s) (S : LaySorts srt) (hk : 0 < kinds) (hkl : kinds ≤ srt.length) (hn : ∀ x ∈ nds, x.Ok) {j : Nat} (hj : j < nds.length) : infAt srt s (adr srt kinds nds j) = Go.Proofs.Ytjfpijoeddjgmaa.inf srt kinds nds j := by
  unfold infAt infoM
  rw [h.look S hk hkl hn hj, if_pos rfl]
  rfl
theorem Net.ok (h : Net srt kinds nds V s) (S : LaySorts srt) (hk : 0 < kinds) (hkl : kinds ≤ srt.length) (hn : ∀ x ∈ nds, x.Ok) {j : Nat} (hj : j < nds.length) : okAt srt s (adr srt kinds nds j) := by
  unfold okAt
  rw [h.look S hk hkl hn hj]
theorem Net.ptrs (h : Net srt kinds nds V s) (S : LaySorts srt) (hk : 0 < kinds) (hkl : kinds ≤ srt.length) (hn : ∀ x ∈ nds, x.Ok) {j : Nat} (hj : j < nds.length) (hv : ∀ (q : Nat), (q : Int) < (Go.Proofs.Ytjfpijoeddjgmaa.inf srt kinds nds j).ptrs → 0 ≤ V j q ∧ V j q < 9223372036854775808) :
    ptrAt srt s (adr srt kinds nds j) = (List.range (Go.Proofs.Ytjfpijoeddjgmaa.inf srt kinds nds j).ptrs.toNat).map (V j) := by
  unfold ptrAt ptrsM
  rw [h.count S hk hkl hn hj, if_pos rfl]
  show ptrL s (adr srt kinds nds j) (Go.Proofs.Ytjfpijoeddjgmaa.inf srt kinds nds j).ptrs.toNat = _
  unfold ptrL
  refine List.map_congr_left fun q hq => ?_
  rw [List.mem_range] at hq
  obtain ⟨_, hmem, _⟩ := inf_mem (srt := srt) (nds := nds) hk hkl hn j
  have hroom := S.room _ hmem
  have hn0 := (S.ok _ hmem).n0
  have hsz : sz srt kinds nds j = szOf (Go.Proofs.Ytjfpijoeddjgmaa.inf srt kinds nds j) := rfl
  have hcap := h.cap j hj
  rw [show (1 : Int) + (q : Int) = ((1 + q : Nat) : Int) by omega, rd_of (by omega), h.ptr j q hj (by omega)]
  have := hv q (by omega)
  exact wrap_fit (by omega) (by omega)
/-- What is used is a closure of the net. -/
theorem Net.only (h : Net srt kinds nds V s) {a : Int} (ho : okAt srt s a) : ∃ j, j < nds.length ∧ a = adr srt kinds nds j := by
  obtain ⟨k, n, _, _, _, _, hh, _, _⟩ := look_in ho
  have h1 := HS.has_pos h.wf hh
  have hu : s.used a.toNat = true := by
    unfold HS.has at hh
    cases hu : s.used a.toNat with
    | true => rfl
    | false => rw [HS.cap_none hu] at hh; omega
  obtain ⟨j, hj, e⟩ := h.all _ hu
  exact ⟨j, hj, by omega⟩
end
end Go.Proofs.Ytjfpijoeddjgmaa
