/- Mark's rounds come to an end, whatever closures go round: each round that moves something lowers a measure; no error comes. Conditions: as each says. -/
import Derived.Test.YtjfpijoeddjgmaaMoves
namespace Go.Proofs.Ytjfpijoeddjgmaa
open Go.RowKit Hm
set_option linter.unusedVariables false
instance (i : Inf) : Decidable (Sel i) := by unfold Sel; exact inferInstance

/-! ### Sums -/
def sumN (f : Nat → Nat) : Nat → Nat
  | 0 => 0
  | m + 1 => sumN f m + f m
theorem sumN_le {f g : Nat → Nat} (h : ∀ i, f i ≤ g i) : ∀ m, sumN f m ≤ sumN g m
  | 0 => Nat.le_refl _
  | m + 1 => Nat.add_le_add (sumN_le h m) (h m)
theorem sumN_lt {f g : Nat → Nat} (h : ∀ i, f i ≤ g i) {j : Nat} (hj : f j < g j) : ∀ m, j < m → sumN f m < sumN g m
  | 0, hm => absurd hm (Nat.not_lt_zero _)
  | m + 1, hm => by
    show sumN f m + f m < sumN g m + g m
    by_cases e : j = m
    · subst e; have := sumN_le h j; omega
    · have := sumN_lt h hj m (by omega); have := h m; omega
theorem sumN_max {f : Nat → Nat} {c : Nat} (h : ∀ i, f i ≤ c) : ∀ m, sumN f m ≤ c * m
  | 0 => Nat.le_refl _
  | m + 1 => by
    show sumN f m + f m ≤ c * (m + 1)
    have := sumN_max h m; have := h m
    rw [Nat.mul_add]; omega
theorem sumN_congr {f g : Nat → Nat} (h : ∀ i, f i = g i) (m : Nat) : sumN f m = sumN g m := by
  have : f = g := funext h
  rw [this]

/-! ### A function, again and again -/
def it (f : Int → Int) : Nat → Int → Int
  | 0, x => x
  | k + 1, x => f (it f k x)
theorem it_add (f : Int → Int) (j x) : ∀ k, it f (k + j) x = it f k (it f j x)
  | 0 => by rw [Nat.zero_add]; rfl
  | k + 1 => by rw [Nat.add_right_comm]; show f (it f (k + j) x) = f (it f k (it f j x)); rw [it_add f j x k]
theorem it_one (f : Int → Int) (k x) : it f k (f x) = it f (k + 1) x := by rw [it_add f 1 x k]; rfl
theorem it_fix {f : Int → Int} {x : Int} (h : f x = x) : ∀ k, it f k x = x
  | 0 => rfl
  | k + 1 => by show f (it f k x) = x; rw [it_fix h k, h]
def Per (f : Int → Int) (x : Int) : Prop := ∃ k, 1 ≤ k ∧ it f k x = x
theorem Per.fix {f : Int → Int} {x : Int} (h : f x = x) : Per f x := ⟨1, Nat.le_refl _, h⟩
theorem Per.mul {f : Int → Int} {x : Int} {k : Nat} (h : it f k x = x) : ∀ m, it f (m * k) x = x
  | 0 => by rw [Nat.zero_mul]; rfl
  | m + 1 => by rw [Nat.succ_mul, it_add, h, Per.mul h m]
theorem Per.it {f : Int → Int} {x : Int} (h : Per f x) (j : Nat) : Per f (it f j x) := by
  obtain ⟨k, h1, h2⟩ := h
  exact ⟨k, h1, by rw [← it_add, Nat.add_comm, it_add, h2]⟩
theorem Per.next {f : Int → Int} {x : Int} (h : Per f x) : Per f (f x) := h.it 1
theorem Per.inj {f : Int → Int} {x y : Int} (hx : Per f x) (hy : Per f y) (h : f x = f y) : x = y := by
  obtain ⟨k, hk, ek⟩ := hx
  obtain ⟨l, hl, el⟩ := hy
  have e1 : Go.Proofs.Ytjfpijoeddjgmaa.it f (l * k) x = x := Per.mul ek l
  have e2 : Go.Proofs.Ytjfpijoeddjgmaa.it f (k * l) y = y := Per.mul el k
  rw [Nat.mul_comm] at e2
  have h1 : 1 ≤ l * k := Nat.mul_pos hl hk
  obtain ⟨n, hn⟩ : ∃ n, l * k = n + 1 := ⟨l * k - 1, by omega⟩
  rw [hn, ← it_one] at e1 e2
  rw [← e1, ← e2, h]
/-- A periodic one that comes to a fixed one is it. -/
theorem Per.still {f : Int → Int} {x y : Int} {j : Nat} (hx : Per f x) (he : Go.Proofs.Ytjfpijoeddjgmaa.it f j x = y) (hy : f y = y) : x = y := by
  obtain ⟨k, hk, ek⟩ := hx
  have e1 : Go.Proofs.Ytjfpijoeddjgmaa.it f (j * k) x = x := Per.mul ek j
  have hjk : j ≤ j * k := Nat.le_mul_of_pos_right j hk
  obtain ⟨n, hn⟩ : ∃ n, j * k = n + j := ⟨j * k - j, by omega⟩
  rw [hn, it_add, he, it_fix hy] at e1
  exact e1.symm

/-! ### The store -/
structure Cl (srt : List Inf) (s : HS) : Prop where
  wf : s.WF
  n : s.n ≤ 2048
  cl : ∀ a, okAt srt s a → ∀ q ∈ ptrAt srt s a, q ≠ 0 → okAt srt s q
def vok (srt : List Inf) (s : HS) (q : Int) : Prop := q ≠ 0 → okAt srt s q
theorem Cl.range {srt : List Inf} {s : HS} (h : Cl srt s) {q : Int} (hq : vok srt s q) : 0 ≤ q ∧ q < 9223372036854775808 := by
  by_cases h0 : q = 0
  · omega
  · obtain ⟨A, k, n, hc⟩ := (hq h0).clo h.wf
    have h1 := hc.at'; have h2 := hc.lt; have h3 := hc.pos; have h4 := h.n; have h5 := hc.cap
    omega
theorem not_ok0 {srt : List Inf} {s : HS} (h : s.WF) : ¬ okAt srt s 0 := fun ho => by
  obtain ⟨A, k, n, hc⟩ := ho.clo h
  have h1 := hc.at'; have h3 := hc.pos
  omega
theorem inf_bad {srt : List Inf} {s : HS} {a : Int} (h : ¬ okAt srt s a) : infAt srt s a = noInf := (info_bad h).2.2.1
theorem ok_of_kind {srt : List Inf} {s : HS} {a : Int} (h : (infAt srt s a).kind ≠ 0) : okAt srt s a := Classical.byContradiction fun hn => h (by rw [inf_bad hn]; rfl)
theorem ok_of_sel {srt : List Inf} {s : HS} {a : Int} (h : Sel (infAt srt s a)) : okAt srt s a := ok_of_kind (by rw [h.1]; decide)
theorem inf_mem' {srt : List Inf} {s : HS} {a : Int} (hw : s.WF) (h : okAt srt s a) : infAt srt s a ∈ srt := by
  obtain ⟨A, k, n, hc⟩ := h.clo hw
  rw [hc.inf]; exact getD_mem' hc.kl
theorem Turned.cl {srt : List Inf} {s t : HS} {a : Int} {i : Inf} {l : List Int} (h : Turned srt s t a i l) (hc : Cl srt s) (hl : ∀ q ∈ l, vok srt s q) : Cl srt t := by
  refine ⟨h.wf, by rw [h.n]; exact hc.n, fun b hb q hq hq0 => (h.ok q).2 ?_⟩
  rw [h.ptr] at hq
  by_cases e : b = a
  · rw [if_pos e] at hq; exact hl q hq hq0
  · rw [if_neg e] at hq; exact hc.cl b ((h.ok b).1 hb) q hq hq0
/-- Where an Ind tells to. -/
def inx (srt : List Inf) (s : HS) (x : Int) : Int := if (infAt srt s x).kind = 6 then (ptrAt srt s x).getD 0 0 else x
theorem inx_ind {srt : List Inf} {s : HS} {x : Int} (h : (infAt srt s x).kind = 6) : inx srt s x = (ptrAt srt s x).getD 0 0 := by unfold inx; rw [if_pos h]
theorem inx_other {srt : List Inf} {s : HS} {x : Int} (h : (infAt srt s x).kind ≠ 6) : inx srt s x = x := by unfold inx; rw [if_neg h]
def cntT (srt : List Inf) (s : HS) : Nat := sumN (fun A => if Sel (infAt srt s (A : Int)) then 1 else 0) (1 + 32 * s.n)
def cntU (st : Int → Bool) (srt : List Inf) (s : HS) : Nat := sumN (fun A => if (infAt srt s (A : Int)).kind = 6 then 0 else (ptrAt srt s (A : Int)).countP fun q => !st q) (1 + 32 * s.n)
section
variable {srt : List Inf} (U : SortsUp srt)
include U
theorem ptr1_ind {s : HS} {a : Int} (hw : s.WF) (h : (infAt srt s a).kind = 6) : ∃ q, ptrAt srt s a = [q] := by
  have ho : okAt srt s a := ok_of_kind (by rw [h]; decide)
  have hl := ptrAt_len U hw ho
  rw [(U.ind _ (inf_mem' hw ho) h).1] at hl
  match hp : ptrAt srt s a with
  | [] => rw [hp] at hl; simp at hl
  | [q] => exact ⟨q, rfl⟩
  | _ :: _ :: _ => rw [hp] at hl; simp at hl; omega
theorem ptr1_sel {s : HS} {a : Int} (hw : s.WF) (h : Sel (infAt srt s a)) : ∃ q, ptrAt srt s a = [q] := by
  have ho : okAt srt s a := ok_of_sel h
  have hl := ptrAt_len U hw ho
  rw [(U.sel _ (inf_mem' hw ho) h.1 h.2).1] at hl
  match hp : ptrAt srt s a with
  | [] => rw [hp] at hl; simp at hl
  | [q] => exact ⟨q, rfl⟩
  | _ :: _ :: _ => rw [hp] at hl; simp at hl; omega
theorem ptr_few {s : HS} (hw : s.WF) (a : Int) : (ptrAt srt s a).length ≤ 60 := by
  by_cases ho : okAt srt s a
  · have h1 := ptrAt_len U hw ho
    have h2 := (U.ok _ (inf_mem' hw ho)).p1
    omega
  · rw [ptr_bad ho]; exact Nat.zero_le _
theorem cntU_max (st : Int → Bool) {s : HS} (hw : s.WF) (hn : s.n ≤ 2048) : cntU st srt s < 4000000 := by
  have h : cntU st srt s ≤ 60 * (1 + 32 * s.n) := by
    refine sumN_max (fun i => ?_) _
    split
    · omega
    · exact Nat.le_trans List.countP_le_length (ptr_few U hw _)
  omega
end
theorem inBounds {srt : List Inf} {s : HS} {a : Int} (hw : s.WF) (h : okAt srt s a) : ((a.toNat : Nat) : Int) = a ∧ a.toNat < 1 + 32 * s.n := by
  obtain ⟨A, k, n, hc⟩ := h.clo hw
  have h1 := hc.at'; have h2 := hc.lt; have h3 := hc.cap
  omega
/-- A pointer that is set to a stable one lowers the count, if it wasn't stable. -/
theorem cntU_point {srt : List Inf} {st : Int → Bool} {s t : HS} {a r : Int} {i : Nat} (hw : s.WF) (ho : okAt srt s a) (h : Turned srt s t a (infAt srt s a) ((ptrAt srt s a).set i r)) (hi : i < (ptrAt srt s a).length) (hr : st r = true) :
    cntU st srt t ≤ cntU st srt s ∧ ((infAt srt s a).kind ≠ 6 → st ((ptrAt srt s a)[i]) = false → cntU st srt t < cntU st srt s) := by
  have hcnt : ((ptrAt srt s a).set i r).countP (fun q => !st q) ≤ (ptrAt srt s a).countP (fun q => !st q) ∧ (st ((ptrAt srt s a)[i]) = false → ((ptrAt srt s a).set i r).countP (fun q => !st q) < (ptrAt srt s a).countP (fun q => !st q)) := by
    rw [List.countP_set hi, hr]
    constructor
    · simp
    · intro hf
      have hpos : 0 < (ptrAt srt s a).countP (fun q => !st q) := List.countP_pos_iff.2 ⟨_, List.getElem_mem hi, by rw [hf]; rfl⟩
      simp [hf]; omega
  have hle : ∀ A : Nat, (if (infAt srt t (A : Int)).kind = 6 then 0 else (ptrAt srt t (A : Int)).countP fun q => !st q) ≤ (if (infAt srt s (A : Int)).kind = 6 then 0 else (ptrAt srt s (A : Int)).countP fun q => !st q) := fun A => by
    rw [h.inf, h.ptr]
    by_cases e : (A : Int) = a
    · rw [if_pos e, if_pos e, e]
      split
      · exact Nat.le_refl _
      · exact hcnt.1
    · rw [if_neg e, if_neg e]; exact Nat.le_refl _
  have hn := h.n
  refine ⟨?_, fun h6 hf => ?_⟩
  · unfold cntU
    rw [hn]
    exact sumN_le hle _
  · unfold cntU
    rw [hn]
    obtain ⟨e1, e2⟩ := inBounds hw ho
    refine sumN_lt hle (j := a.toNat) ?_ _ e2
    rw [e1, h.inf, h.ptr, if_pos rfl, if_pos rfl, if_neg h6, if_neg h6]
    exact hcnt.2 hf
theorem cntT_le {srt : List Inf} {s t : HS} (hn : t.n = s.n) (h : ∀ b, Sel (infAt srt t b) → Sel (infAt srt s b)) : cntT srt t ≤ cntT srt s := by
  unfold cntT
  rw [hn]
  refine sumN_le (fun A => ?_) _
  by_cases h1 : Sel (infAt srt t (A : Int))
  · rw [if_pos h1, if_pos (h _ h1)]; exact Nat.le_refl _
  · rw [if_neg h1]; exact Nat.zero_le _
theorem cntT_lt {srt : List Inf} {s t : HS} (hw : s.WF) (hn : t.n = s.n) (h : ∀ b, Sel (infAt srt t b) → Sel (infAt srt s b)) {a : Int} (h1 : Sel (infAt srt s a)) (h2 : ¬ Sel (infAt srt t a)) : cntT srt t < cntT srt s := by
  unfold cntT
  rw [hn]
  obtain ⟨e1, e2⟩ := inBounds hw (ok_of_sel h1)
  refine sumN_lt (fun A => ?_) (j := a.toNat) ?_ _ e2
  · by_cases h1 : Sel (infAt srt t (A : Int))
    · rw [if_pos h1, if_pos (h _ h1)]; exact Nat.le_refl _
    · rw [if_neg h1]; exact Nat.zero_le _
  · rw [e1, if_neg h2, if_pos h1]; exact Nat.zero_lt_one

/-! ### A round, while it runs -/
/-- No closure has become an Ind. -/
def ND (srt : List Inf) (m0 m : MK) : Prop := ∀ b, Sel (infAt srt m0.s b) → Sel (infAt srt m.s b)
structure J (srt : List Inf) (st : Int → Bool) (m0 m : MK) : Prop where
  cl : Cl srt m.s
  e : m.e = 0
  n : m.s.n = m0.s.n
  ok : ∀ b, okAt srt m.s b ↔ okAt srt m0.s b
  len : ∀ b, (ptrAt srt m.s b).length = (ptrAt srt m0.s b).length
  sel : ∀ b, Sel (infAt srt m.s b) → Sel (infAt srt m0.s b)
  st : ND srt m0 m → (∀ b, infAt srt m.s b = infAt srt m0.s b) ∧ (∀ b, (infAt srt m0.s b).kind = 6 → ptrAt srt m.s b = ptrAt srt m0.s b) ∧ cntU st srt m.s ≤ cntU st srt m0.s ∧ (m.moved = true → cntU st srt m.s < cntU st srt m0.s)
  still : m.moved = false → m.s = m0.s
/-- From a step on. -/
structure On (srt : List Inf) (m m' : MK) : Prop where
  sel : ∀ b, Sel (infAt srt m'.s b) → Sel (infAt srt m.s b)
  moved : m'.moved = false → m.moved = false
theorem On.refl (srt : List Inf) (m : MK) : On srt m m := ⟨fun _ => id, id⟩
theorem On.trans {srt : List Inf} {a b c : MK} (h : On srt a b) (k : On srt b c) : On srt a c := ⟨fun x hx => h.sel x (k.sel x hx), fun hm => h.moved (k.moved hm)⟩
theorem On.nd {srt : List Inf} {m0 m m' : MK} (h : On srt m m') (hn : ND srt m0 m') : ND srt m0 m := fun b hb => h.sel b (hn b hb)
theorem J.fwd {srt : List Inf} {st : Int → Bool} {m0 m : MK} (h : J srt st m0 m) {q : Int} (hq : vok srt m0.s q) : vok srt m.s q := fun h0 => (h.ok q).2 (hq h0)
/-- A marker whose store is the same. -/
theorem J.same {srt : List Inf} {st : Int → Bool} {m0 m m' : MK} (h : J srt st m0 m) (hs : m'.s = m.s) (he : m'.e = 0) (hm : m'.moved = m.moved) : J srt st m0 m' := by
  refine ⟨by rw [hs]; exact h.cl, he, by rw [hs]; exact h.n, fun b => by rw [hs]; exact h.ok b, fun b => by rw [hs]; exact h.len b, fun b => by rw [hs]; exact h.sel b, fun hn => ?_, fun hmv => by rw [hs]; exact h.still (by rw [← hm]; exact hmv)⟩
  have := h.st (fun b hb => by have := hn b hb; rw [hs] at this; exact this)
  rw [hs, hm]; exact this
theorem On.same {srt : List Inf} {m m' : MK} (hs : m'.s = m.s) (hm : m'.moved = m.moved) : On srt m m' := ⟨fun b hb => by rw [hs] at hb; exact hb, fun h => by rw [← hm]; exact h⟩
section
variable {srt : List Inf} (U : SortsUp srt) {st : Int → Bool} {m0 : MK}
include U
theorem J.ind {m : MK} {a r : Int} (hw0 : m0.s.WF) (h : J srt st m0 m) (h0 : Sel (infAt srt m0.s a)) (hr : vok srt m.s r) : J srt st m0 (m.ind srt a r) ∧ On srt m (m.ind srt a r) ∧ ¬ ND srt m0 (m.ind srt a r) := by
  have ho : okAt srt m.s a := (h.ok a).2 (ok_of_sel h0)
  obtain ⟨t, i, ht, him, hi6, hT⟩ := ind_turned U h.cl.wf ho (h.cl.range hr)
  have e : m.ind srt a r = { m with s := t, moved := true } := by unfold MK.ind; rw [ht]
  rw [e]
  have hsel : ∀ b, Sel (infAt srt t b) → Sel (infAt srt m.s b) := fun b hb => by
    rw [hT.inf] at hb
    by_cases hba : b = a
    · rw [if_pos hba] at hb
      have := hb.1
      rw [hi6] at this; cases this
    · rw [if_neg hba] at hb; exact hb
  have hnd : ¬ ND srt m0 { m with s := t, moved := true } := fun hn => by
    have h1 : Sel (infAt srt t a) := hn a h0
    rw [hT.inf, if_pos rfl] at h1
    have := h1.1
    rw [hi6] at this; cases this
  refine ⟨⟨?_, h.e, hT.n.trans h.n, fun b => (hT.ok b).trans (h.ok b), fun b => ?_, fun b hb => h.sel b (hsel b hb), fun hn => absurd hn hnd, fun hm => by cases hm⟩, ⟨hsel, fun hm => by cases hm⟩, hnd⟩
  · refine hT.cl h.cl fun q hq => ?_
    rw [List.mem_singleton] at hq
    rw [hq]; exact hr
  · show (ptrAt srt t b).length = _
    rw [hT.ptr]
    by_cases hb : b = a
    · rw [if_pos hb, hb, ← h.len a]
      have hl := ptrAt_len U hT.wf ((hT.ok a).2 ho)
      rw [hT.inf, if_pos rfl, (U.ind _ him hi6).1, hT.ptr, if_pos rfl] at hl
      rw [h.len a]
      obtain ⟨q, hq⟩ := ptr1_sel U (s := m0.s) hw0 h0
      rw [hq]; rfl
    · rw [if_neg hb]; exact h.len b
end
section
variable {srt : List Inf} (U : SortsUp srt) {st : Int → Bool} {m0 : MK} (hst : ∀ x, st x = true ↔ Per (inx srt m0.s) x)
include U hst
theorem J.point {m : MK} {a r : Int} {i : Nat} (h : J srt st m0 m) (ho : okAt srt m.s a) (hi : i < (ptrAt srt m.s a).length) (hr : vok srt m.s r)
    (hs : ND srt m0 m → Per (inx srt m0.s) r ∧ (infAt srt m0.s a).kind ≠ 6 ∧ (m.moved = false → ¬ Per (inx srt m0.s) ((ptrAt srt m.s a)[i]))) : J srt st m0 (m.point srt a i r) ∧ On srt m (m.point srt a i r) := by
  obtain ⟨t, ht, hT⟩ := point_turned U h.cl.wf ho hi (h.cl.range hr)
  have e : m.point srt a i r = { m with s := t, moved := true } := by unfold MK.point; rw [ht]
  rw [e]
  have hinf : ∀ b, infAt srt t b = infAt srt m.s b := fun b => by
    rw [hT.inf]
    by_cases hb : b = a
    · rw [if_pos hb, hb]
    · rw [if_neg hb]
  refine ⟨⟨?_, h.e, hT.n.trans h.n, fun b => (hT.ok b).trans (h.ok b), fun b => ?_, fun b hb => h.sel b (by rw [← hinf]; exact hb), fun hn => ?_, fun hm => by cases hm⟩, ⟨fun b hb => by rw [← hinf]; exact hb, fun hm => by cases hm⟩⟩
  · refine hT.cl h.cl fun q hq => ?_
    rcases List.mem_or_eq_of_mem_set hq with h1 | h1
    · exact h.cl.cl a ho q h1
    · rw [h1]; exact hr
  · show (ptrAt srt t b).length = _
    rw [hT.ptr]
    by_cases hb : b = a
    · rw [if_pos hb, List.length_set, hb]; exact h.len a
    · rw [if_neg hb]; exact h.len b
  · have hn' : ND srt m0 m := fun b hb => by rw [← hinf]; exact hn b hb
    obtain ⟨k1, k2, k3, k4⟩ := h.st hn'
    obtain ⟨j1, j2, j3⟩ := hs hn'
    obtain ⟨c1, c2⟩ := cntU_point (st := st) h.cl.wf ho hT hi ((hst r).2 j1)
    refine ⟨fun b => (hinf b).trans (k1 b), fun b hb => ?_, Nat.le_trans c1 k3, fun _ => ?_⟩
    · show ptrAt srt t b = _
      rw [hT.ptr, if_neg (fun e => j2 (by rw [← e]; exact hb))]
      exact k2 b hb
    · show cntU st srt t < _
      cases hmv : m.moved with
      | true => exact Nat.lt_of_le_of_lt c1 (k4 hmv)
      | false =>
        refine Nat.lt_of_lt_of_le (c2 (by rw [k1]; exact j2) ?_) k3
        cases hh : st ((ptrAt srt m.s a)[i]) with
        | false => rfl
        | true => exact absurd ((hst _).1 hh) (j3 hmv)
end
/-! ### The way along Inds -/
structure Way (srt : List Inf) (s0 : HS) (q : Int) (j : Nat) (seen : List Int) (p : Int) : Prop where
  here : p = it (inx srt s0) j q
  path : seen = (List.range j).map fun i => it (inx srt s0) i q
  nd : seen.Nodup
theorem Way.start (srt : List Inf) (s0 : HS) (q : Int) : Way srt s0 q 0 [] q := ⟨rfl, rfl, List.Pairwise.nil⟩
theorem Way.step {srt : List Inf} {s0 : HS} {q p : Int} {j : Nat} {seen : List Int} (h : Way srt s0 q j seen p) (hp : p ∉ seen) : Way srt s0 q (j + 1) (seen ++ [p]) (inx srt s0 p) := by
  refine ⟨by rw [h.here]; rfl, by rw [List.range_succ, List.map_append, ← h.path, h.here]; rfl, ?_⟩
  rw [List.nodup_append]
  refine ⟨h.nd, List.pairwise_singleton _ _, fun a ha b hb e => ?_⟩
  rw [List.mem_singleton] at hb
  exact hp (by rw [← hb, ← e]; exact ha)
theorem Way.stop {srt : List Inf} {s0 : HS} {q p : Int} {j : Nat} {seen : List Int} (h : Way srt s0 q j seen p) (hp : p ∈ seen) : Per (inx srt s0) p ∧ (Per (inx srt s0) q → p = q) := by
  obtain ⟨h1, h2, h3⟩ := h
  rw [h2] at hp h3
  obtain ⟨i, hi, e⟩ := List.mem_map.1 hp
  rw [List.mem_range] at hi
  refine ⟨⟨j - i, by omega, ?_⟩, fun hq => ?_⟩
  · have : it (inx srt s0) (j - i) (it (inx srt s0) i q) = p := by rw [← it_add, show j - i + i = j by omega]; exact h1.symm
    rw [e] at this; exact this
  · match i, hi, e with
    | 0, _, e => exact e.symm
    | i + 1, hi, e =>
      obtain ⟨j, rfl⟩ : ∃ j', j = j' + 1 := ⟨j - 1, by omega⟩
      have e2 : inx srt s0 (it (inx srt s0) i q) = inx srt s0 (it (inx srt s0) j q) := e.trans h1
      have e3 := (hq.it i).inj (hq.it j) e2
      unfold List.Nodup at h3
      rw [List.pairwise_map] at h3
      have h4 := List.pairwise_iff_getElem.1 h3 i j (by simp; omega) (by simp) (by omega)
      rw [List.getElem_range, List.getElem_range] at h4
      exact absurd e3 h4
theorem Way.other {srt : List Inf} {s0 : HS} {q p : Int} {j : Nat} {seen : List Int} (h : Way srt s0 q j seen p) (hp : inx srt s0 p = p) : Per (inx srt s0) p ∧ (Per (inx srt s0) q → p = q) :=
  ⟨Per.fix hp, fun hq => (hq.still h.here.symm hp).symm⟩

theorem Cl.getD {srt : List Inf} {s : HS} (h : Cl srt s) {a : Int} (ho : okAt srt s a) (k : Nat) : vok srt s ((ptrAt srt s a).getD k 0) := by
  rw [List.getD_eq_getElem?_getD]
  by_cases hk : k < (ptrAt srt s a).length
  · rw [List.getElem?_eq_getElem hk]
    exact h.cl a ho _ (List.getElem_mem hk)
  · rw [List.getElem?_eq_none (by omega)]
    exact fun h0 => absurd rfl h0
theorem J.back {srt : List Inf} {st : Int → Bool} {m0 m : MK} (h : J srt st m0 m) {q : Int} (hq : vok srt m.s q) : vok srt m0.s q := fun h0 => (h.ok q).1 (hq h0)
theorem J.getD {srt : List Inf} {st : Int → Bool} {m0 m : MK} (h : J srt st m0 m) {a : Int} (ho : okAt srt m.s a) (k : Nat) : vok srt m0.s ((ptrAt srt m.s a).getD k 0) := h.back (h.cl.getD ho k)
theorem Rch.same {srt : List Inf} {st : Int → Bool} {m0 : MK} {q p : Int} {seen : List Int} {m m' : MK} {r : Bool} (h : Rch srt q seen p m r m') : J srt st m0 m → vok srt m0.s p → m' = m := by
  induction h with
  | stop h => exact fun _ _ => rfl
  | no h hk => exact fun hJ hp => look_ok ((hJ.ok _).2 (hp fun h0 => h (.inl h0)))
  | go h hk hn ih => exact fun hJ hp => ih hJ (hJ.getD ((hJ.ok _).2 (hp fun h0 => h (.inl h0))) 0)
theorem inx0 {srt : List Inf} {m0 : MK} (hw0 : m0.s.WF) : inx srt m0.s 0 = 0 := inx_other (by rw [inf_bad (not_ok0 hw0)]; decide)
section
variable {srt : List Inf} (U : SortsUp srt) {st : Int → Bool} {m0 : MK} (hst : ∀ x, st x = true ↔ Per (inx srt m0.s) x) (hw0 : m0.s.WF)
include U hst
theorem J.aim {m m1 : MK} {p q : Int} (hJ : J srt st m0 m) (hs : Sel (infAt srt m.s p)) (hJ1 : J srt st m0 m1) (hon : On srt m m1) (hq : vok srt m0.s q)
    (hway : ND srt m0 m1 → Per (inx srt m0.s) q ∧ (Per (inx srt m0.s) ((ptrAt srt m.s p).getD 0 0) → q = (ptrAt srt m.s p).getD 0 0)) :
    J srt st m0 (m1.aim srt p ((ptrAt srt m.s p).getD 0 0) q) ∧ On srt m1 (m1.aim srt p ((ptrAt srt m.s p).getD 0 0) q) := by
  unfold MK.aim
  by_cases hc : q ≠ (ptrAt srt m.s p).getD 0 0 ∧ m1.e = 0
  · rw [if_pos hc]
    have ho : okAt srt m0.s p := (hJ.ok p).1 (ok_of_sel hs)
    obtain ⟨l, hl⟩ := ptr1_sel U hJ.cl.wf hs
    have hlen : (ptrAt srt m1.s p).length = 1 := by rw [hJ1.len p, ← hJ.len p, hl]; rfl
    refine J.point U hst hJ1 ((hJ1.ok p).2 ho) (i := 0) (by omega) (hJ1.fwd hq) fun hn => ⟨(hway hn).1, fun h6 => ?_, fun hmv hper => ?_⟩
    · rw [← (hJ.st (hon.nd hn)).1 p] at h6
      rw [hs.1] at h6; cases h6
    · have e1 : m1.s = m.s := (hJ1.still hmv).trans (hJ.still (hon.moved hmv)).symm
      refine hc.1 ((hway hn).2 ?_)
      have e2 : (ptrAt srt m1.s p)[0]'(by omega) = (ptrAt srt m.s p).getD 0 0 := by
        rw [List.getD_eq_getElem?_getD, ← e1, List.getElem?_eq_getElem (by omega)]; rfl
      rw [← e2]; exact hper
  · rw [if_neg hc]
    exact ⟨hJ1, On.refl _ _⟩
include hw0
theorem Thr.j {d : Nat} {seen : List Int} {p r : Int} {m m' : MK} (h : Thr srt d seen p m r m') : J srt st m0 m → vok srt m0.s p →
    J srt st m0 m' ∧ On srt m m' ∧ vok srt m0.s r ∧ ∀ q j, ND srt m0 m' → Way srt m0.s q j seen p → Per (inx srt m0.s) r ∧ (Per (inx srt m0.s) q → r = q) := by
  induction h with
  | @stop d seen p m h =>
    refine fun hJ hp => ⟨hJ, On.refl _ _, hp, fun q j hn hw => ?_⟩
    rcases h with h | h | h
    · rw [h] at hw ⊢
      exact hw.other (inx0 hw0)
    · exact absurd hJ.e h
    · exact hw.stop h
  | @bad d seen p m h hb => exact fun hJ hp => absurd ((hJ.ok p).2 (hp fun h0 => h (.inl h0))) hb
  | @ind d seen p m r m' h ok hk hn ih =>
    intro hJ hp
    obtain ⟨h1, h2, h3, h4⟩ := ih hJ (hJ.getD ok 0)
    refine ⟨h1, h2, h3, fun q j hnd hw => h4 q (j + 1) hnd ?_⟩
    obtain ⟨k1, k2, _, _⟩ := hJ.st (h2.nd hnd)
    have hk0 : (infAt srt m0.s p).kind = 6 := by rw [← k1 p]; exact hk
    have e : (ptrAt srt m.s p).getD 0 0 = inx srt m0.s p := by rw [inx_ind hk0, k2 p hk0]
    rw [e]
    exact hw.step fun hm => h (.inr (.inr hm))
  | @plain d seen p m h ok hk hp' =>
    refine fun hJ hp => ⟨hJ, On.refl _ _, hp, fun q j hnd hw => hw.other (inx_other ?_)⟩
    rw [← (hJ.st hnd).1 p]; exact hk
  | @none d seen p m m1 h ok hk hp' h1 ih =>
    intro hJ hp
    have hs : Sel (infAt srt m.s p) := ⟨hk, fun h0 => hp' (.inl h0)⟩
    obtain ⟨j1, j2, j3, j4⟩ := ih hJ (hJ.getD ok 0)
    obtain ⟨k1, k2⟩ := J.aim U hst hJ hs j1 j2 j3 (fun hn => j4 _ 0 hn (Way.start _ _ _))
    refine ⟨k1, j2.trans k2, hp, fun q j hnd hw => hw.other (inx_other ?_)⟩
    rw [← (hJ.st ((j2.trans k2).nd hnd)).1 p, hk]; decide
  | @cant d seen p m q m1 h ok hk hp' h1 hq hc ih =>
    intro hJ hp
    have hs : Sel (infAt srt m.s p) := ⟨hk, fun h0 => hp' (.inl h0)⟩
    obtain ⟨j1, j2, j3, j4⟩ := ih hJ (hJ.getD ok 0)
    obtain ⟨k1, k2⟩ := J.aim U hst hJ hs j1 j2 j3 (fun hn => j4 _ 0 hn (Way.start _ _ _))
    rw [look_ok ((k1.ok q).2 (j3 hq))]
    refine ⟨k1, j2.trans k2, hp, fun q j hnd hw => hw.other (inx_other ?_)⟩
    rw [← (hJ.st ((j2.trans k2).nd hnd)).1 p, hk]; decide
  | @ring d seen p m q m1 m2 h ok hk hp' h1 hq hc hr ih =>
    intro hJ hp
    have hs : Sel (infAt srt m.s p) := ⟨hk, fun h0 => hp' (.inl h0)⟩
    obtain ⟨j1, j2, j3, j4⟩ := ih hJ (hJ.getD ok 0)
    obtain ⟨k1, k2⟩ := J.aim U hst hJ hs j1 j2 j3 (fun hn => j4 _ 0 hn (Way.start _ _ _))
    rw [hr.same k1 (k1.getD ((k1.ok q).2 (j3 hq)) _)]
    refine ⟨k1, j2.trans k2, hp, fun q j hnd hw => hw.other (inx_other ?_)⟩
    rw [← (hJ.st ((j2.trans k2).nd hnd)).1 p, hk]; decide
  | @go d seen p m q m1 m2 r m3 h ok hk hp' h1 hq hc hr hn ih1 ih2 =>
    intro hJ hp
    have hs : Sel (infAt srt m.s p) := ⟨hk, fun h0 => hp' (.inl h0)⟩
    obtain ⟨j1, j2, j3, j4⟩ := ih1 hJ (hJ.getD ok 0)
    obtain ⟨k1, k2⟩ := J.aim U hst hJ hs j1 j2 j3 (fun hn => j4 _ 0 hn (Way.start _ _ _))
    have hf := k1.getD ((k1.ok q).2 (j3 hq)) ((infAt srt m.s p).pick - 1).toNat
    rw [hr.same k1 hf] at ih2
    obtain ⟨i1, i2, i3⟩ := J.ind U hw0 k1 (a := p) (hJ.sel p hs) (k1.fwd hf)
    obtain ⟨l1, l2, l3, _⟩ := ih2 i1 hf
    refine ⟨l1, ((j2.trans k2).trans i2).trans l2, l3, fun q j hnd hw => absurd (l2.nd hnd) i3⟩

end
/-- What is marked. -/
def Mk (srt : List Inf) (m0 m : MK) : Prop := ∀ x, x ∈ m.seen ∨ x ∈ m.wait → okAt srt m0.s x ∧ (ND srt m0 m → Per (inx srt m0.s) x)
theorem Mk.on {srt : List Inf} {m0 m m' : MK} (h : Mk srt m0 m) (ho : On srt m m') (hs : m'.seen = m.seen) (hw : ∀ x ∈ m'.wait, x ∈ m.wait) : Mk srt m0 m' := fun x hx => by
  have h1 := h x (hx.imp (fun h => by rw [← hs]; exact h) (hw x))
  exact ⟨h1.1, fun hn => h1.2 (ho.nd hn)⟩
section
variable {srt : List Inf} (U : SortsUp srt) {st : Int → Bool} {m0 : MK} (hst : ∀ x, st x = true ↔ Per (inx srt m0.s) x) (hw0 : m0.s.WF)
include U hst hw0
theorem Rea.j {most p r : Int} {m m' : MK} (h : Rea srt most p m r m') (hJ : J srt st m0 m) (hM : Mk srt m0 m) (hp : vok srt m0.s p) :
    J srt st m0 m' ∧ On srt m m' ∧ Mk srt m0 m' ∧ vok srt m0.s r ∧ (ND srt m0 m' → Per (inx srt m0.s) r ∧ (Per (inx srt m0.s) p → r = p)) := by
  cases h with
  | old h ho =>
    obtain ⟨h1, h2, h3, h4⟩ := h.j U hst hw0 hJ hp
    have hk := h.kept
    exact ⟨h1, h2, hM.on h2 hk.seen (fun x hx => by rw [← hk.wait]; exact hx), h3, fun hn => h4 p 0 hn (Way.start _ _ _)⟩
  | new h ho =>
    rename_i m1
    obtain ⟨h1, h2, h3, h4⟩ := h.j U hst hw0 hJ hp
    have hk := h.kept
    have hM1 : Mk srt m0 m1 := hM.on h2 hk.seen (fun x hx => by rw [← hk.wait]; exact hx)
    have hs : (m1.note most r).s = m1.s := by unfold MK.note; split <;> rfl
    have hm : (m1.note most r).moved = m1.moved := by unfold MK.note; split <;> rfl
    have hon : On srt m1 (m1.note most r) := On.same hs hm
    refine ⟨h1.same hs (by rw [note_e]; exact h1.e) hm, h2.trans hon, fun x hx => ?_, h3, fun hn => h4 p 0 (hon.nd hn) (Way.start _ _ _)⟩
    have hx' : (x ∈ m1.seen ∨ x ∈ m1.wait) ∨ x = r := by
      unfold MK.note at hx
      split at hx <;> simp only [List.mem_append, List.mem_singleton] at hx
      · rcases hx with (h | h) | h
        · exact .inl (.inl h)
        · exact .inr h
        · exact .inl (.inr h)
      · rcases hx with (h | h) | h | h
        · exact .inl (.inl h)
        · exact .inr h
        · exact .inl (.inr h)
        · exact .inr h
    rcases hx' with hx' | rfl
    · exact ⟨(hM1 x hx').1, fun hn => (hM1 x hx').2 (hon.nd hn)⟩
    · exact ⟨h3 fun h0 => ho (.inl h0), fun hn => (h4 p 0 (hon.nd hn) (Way.start _ _ _)).1⟩
theorem Bel.j {most a : Int} {i : Nat} {l : List Int} {m m' : MK} (h : Bel srt most a i l m m') : J srt st m0 m → Mk srt m0 m → okAt srt m0.s a → (∀ q ∈ l, vok srt m0.s q) →
    (m.moved = false → (ptrAt srt m0.s a).drop i = l) → i + l.length = (ptrAt srt m0.s a).length → (ND srt m0 m → (infAt srt m0.s a).kind = 6 → ∀ q ∈ l, Per (inx srt m0.s) q) →
    J srt st m0 m' ∧ On srt m m' ∧ Mk srt m0 m' := by
  induction h with
  | nil => exact fun hJ hM _ _ _ _ _ => ⟨hJ, On.refl _ _, hM⟩
  | @cons i q l m r m1 m' h hn ih =>
    intro hJ hM ho hv hd hl h6
    obtain ⟨h1, h2, h3, h4, h5⟩ := h.j U hst hw0 hJ hM (hv q (List.mem_cons_self ..))
    have hl' : i + 1 + l.length = (ptrAt srt m0.s a).length := by rw [← hl, List.length_cons]; omega
    have hdn : m.moved = false → (ptrAt srt m0.s a).drop (i + 1) = l := fun hm => by
      have := hd hm
      rw [← List.drop_drop, this, List.drop_one, List.tail_cons]
    have hv' : ∀ q ∈ l, vok srt m0.s q := fun q hq => hv q (List.mem_cons_of_mem _ hq)
    by_cases hc : r ≠ q ∧ m1.e = 0
    · rw [if_pos hc] at hn ih
      have hi : i < (ptrAt srt m1.s a).length := by rw [h1.len a]; omega
      have hpt : ND srt m0 m1 → Per (inx srt m0.s) r ∧ (infAt srt m0.s a).kind ≠ 6 ∧ (m1.moved = false → ¬ Per (inx srt m0.s) ((ptrAt srt m1.s a)[i])) := fun hnd => by
        refine ⟨(h5 hnd).1, fun hk => hc.1 ((h5 hnd).2 (h6 (h2.nd hnd) hk q (List.mem_cons_self ..))), fun hmv hper => hc.1 ((h5 hnd).2 ?_)⟩
        have e1 := h1.still hmv
        have e2 := hd (h2.moved hmv)
        have e3 : (ptrAt srt m1.s a)[i] = q := by
          have h0 : ((ptrAt srt m0.s a).drop i)[0]? = some q := by rw [e2]; rfl
          rw [List.getElem?_drop, Nat.add_zero, ← e1, List.getElem?_eq_getElem hi] at h0
          exact Option.some.inj h0
        rw [← e3]; exact hper
      obtain ⟨k1, k2⟩ := J.point U hst h1 ((h1.ok a).2 ho) hi (h1.fwd h4) hpt
      obtain ⟨l1, l2, l3⟩ := ih k1 (h3.on k2 rfl fun _ hx => hx) ho hv' (fun hm => by cases hm) hl' fun hnd hk q hq => h6 (h2.nd (k2.nd hnd)) hk q (List.mem_cons_of_mem _ hq)
      exact ⟨l1, (h2.trans k2).trans l2, l3⟩
    · rw [if_neg hc] at hn ih
      obtain ⟨l1, l2, l3⟩ := ih h1 h3 ho hv' (fun hm => hdn (h2.moved hm)) hl' fun hnd hk q hq => h6 (h2.nd hnd) hk q (List.mem_cons_of_mem _ hq)
      exact ⟨l1, h2.trans l2, l3⟩
theorem Below'.j {most a : Int} {m m' : MK} (h : Below' srt most a m m') (hJ : J srt st m0 m) (hM : Mk srt m0 m) (ho : okAt srt m0.s a) (hp : ND srt m0 m → Per (inx srt m0.s) a) : J srt st m0 m' ∧ On srt m m' ∧ Mk srt m0 m' := by
  unfold Below' at h
  have hok := (hJ.ok a).2 ho
  rw [look_ok hok] at h
  refine Bel.j U hst hw0 h hJ hM ho (fun q hq => hJ.back (hJ.cl.cl a hok q hq)) (fun hm => by rw [← hJ.still hm]; rfl) (by rw [Nat.zero_add]; exact hJ.len a) fun hnd hk q hq => ?_
  obtain ⟨k1, k2, _, _⟩ := hJ.st hnd
  rw [k2 a hk] at hq
  obtain ⟨q1, e⟩ := ptr1_ind U hw0 hk
  rw [e, List.mem_singleton] at hq
  have hnx := (hp hnd).next
  rw [inx_ind hk, e] at hnx
  rw [hq]; exact hnx
theorem Dra.j {most : Int} {m m' : MK} (h : Dra srt most m m') : J srt st m0 m → Mk srt m0 m → J srt st m0 m' ∧ On srt m m' ∧ Mk srt m0 m' := by
  induction h with
  | stop h => exact fun hJ hM => ⟨hJ, On.refl _ _, hM⟩
  | @step m ws p m1 m' hw he h hn ih =>
    intro hJ hM
    have hpw : p ∈ m.wait := by rw [hw]; exact List.mem_append_right _ (List.mem_singleton_self _)
    obtain ⟨h1, h2⟩ := hM p (.inr hpw)
    have hon : On srt m { m with wait := ws } := On.same rfl rfl
    have hM2 : Mk srt m0 { m with wait := ws } := hM.on hon rfl fun x hx => by rw [hw]; exact List.mem_append_left _ hx
    obtain ⟨j1, j2, j3⟩ := Below'.j U hst hw0 h (hJ.same rfl hJ.e rfl) hM2 h1 (fun hnd => h2 (hon.nd hnd))
    obtain ⟨l1, l2, l3⟩ := ih j1 j3
    exact ⟨l1, (hon.trans j2).trans l2, l3⟩
theorem Rts.j {most : Int} {l os : List Int} {m m' : MK} (h : Rts srt most l m os m') : J srt st m0 m → Mk srt m0 m → (∀ r ∈ l, vok srt m0.s r) → J srt st m0 m' ∧ On srt m m' ∧ Mk srt m0 m' ∧ (∀ o ∈ os, vok srt m0.s o) ∧ os.length = l.length := by
  induction h with
  | nil => exact fun hJ hM _ => ⟨hJ, On.refl _ _, hM, fun _ h => (by cases h), rfl⟩
  | cons h hd hn ih =>
    intro hJ hM hv
    obtain ⟨h1, h2, h3, h4, _⟩ := h.j U hst hw0 hJ hM (hv _ (List.mem_cons_self ..))
    obtain ⟨k1, k2, k3⟩ := hd.j U hst hw0 h1 h3
    obtain ⟨l1, l2, l3, l4, l5⟩ := ih k1 k3 fun r hr => hv r (List.mem_cons_of_mem _ hr)
    refine ⟨l1, (h2.trans k2).trans l2, l3, fun o ho => ?_, by rw [List.length_cons, List.length_cons, l5]⟩
    rcases List.mem_cons.1 ho with rfl | ho
    · exact h4
    · exact l4 o ho
theorem Swp.j {most : Int} {l : List Int} {m m' : MK} (h : Swp srt most l m m') : J srt st m0 m → Mk srt m0 m → (∀ p ∈ l, okAt srt m0.s p ∧ (ND srt m0 m → Per (inx srt m0.s) p)) → J srt st m0 m' ∧ On srt m m' ∧ Mk srt m0 m' := by
  induction h with
  | nil => exact fun hJ hM _ => ⟨hJ, On.refl _ _, hM⟩
  | cons h hd hn ih =>
    intro hJ hM hv
    obtain ⟨h0, h0'⟩ := hv _ (List.mem_cons_self ..)
    obtain ⟨h1, h2, h3⟩ := Below'.j U hst hw0 h hJ hM h0 h0'
    obtain ⟨k1, k2, k3⟩ := hd.j U hst hw0 h1 h3
    obtain ⟨l1, l2, l3⟩ := ih k1 k3 fun r hr => ⟨(hv r (List.mem_cons_of_mem _ hr)).1, fun hnd => (hv r (List.mem_cons_of_mem _ hr)).2 ((h2.trans k2).nd hnd)⟩
    exact ⟨l1, (h2.trans k2).trans l2, l3⟩
theorem Agn.j {most : Int} {m m' : MK} (h : Agn srt most m m') : J srt st m0 m → Mk srt m0 m → J srt st m0 m' ∧ On srt m m' ∧ Mk srt m0 m' := by
  induction h with
  | stop h => exact fun hJ hM => ⟨hJ, On.refl _ _, hM⟩
  | @step m m1 m' ho he h hn ih =>
    intro hJ hM
    have hon : On srt m { m with over := false } := On.same rfl rfl
    obtain ⟨h1, h2, h3⟩ := h.j U hst hw0 (hJ.same rfl hJ.e rfl) (hM.on hon rfl fun _ hx => hx) fun p hp => ⟨(hM p (.inl (mem_sorted.1 hp))).1, fun hnd => (hM p (.inl (mem_sorted.1 hp))).2 (hon.nd hnd)⟩
    obtain ⟨l1, l2, l3⟩ := ih h1 h3
    exact ⟨l1, (hon.trans h2).trans l2, l3⟩
end

/-! ### Nobody waits behind a round -/
theorem Dra.wait {srt : List Inf} {most : Int} {m m' : MK} (h : Dra srt most m m') : m'.e = 0 → m'.wait = [] := by
  induction h with
  | stop h => exact fun he => h.resolve_right fun hn => hn he
  | step hw he h hn ih => exact ih
theorem Rts.wait {srt : List Inf} {most : Int} {l os : List Int} {m m' : MK} (h : Rts srt most l m os m') : m'.e = 0 → m.wait = [] → m'.wait = [] := by
  induction h with
  | nil => exact fun _ h => h
  | cons h hd hn ih => exact fun he _ => ih he (hd.wait (hn.e0 he))
theorem Swp.wait {srt : List Inf} {most : Int} {l : List Int} {m m' : MK} (h : Swp srt most l m m') : m'.e = 0 → m.wait = [] → m'.wait = [] := by
  induction h with
  | nil => exact fun _ h => h
  | cons h hd hn ih => exact fun he _ => ih he (hd.wait (hn.e0 he))
theorem Agn.wait {srt : List Inf} {most : Int} {m m' : MK} (h : Agn srt most m m') : m'.e = 0 → m.wait = [] → m'.wait = [] := by
  induction h with
  | stop h => exact fun _ h => h
  | step ho he h hn ih => exact fun he' hw => ih he' (h.wait (hn.e0 he') hw)
theorem Rnd.wait {srt : List Inf} {most : Int} {roots out : List Int} {m m' : MK} (h : Rnd srt most roots m out m') (he : m'.e = 0) (hw : m.wait = []) : m'.wait = [] := by
  obtain ⟨m1, h1, h2⟩ := h
  exact h2.wait he (h1.wait (h2.e0 he) hw)

/-! ### A round -/
def mu (stf : HS → Int → Bool) (srt : List Inf) (s : HS) : Nat := cntT srt s * 4000000 + cntU (stf s) srt s
theorem stf_is (srt : List Inf) : ∃ stf : HS → Int → Bool, ∀ s x, stf s x = true ↔ Per (inx srt s) x := ⟨fun s x => @decide (Per (inx srt s) x) (Classical.propDecidable _), fun s x => @decide_eq_true_iff (Per (inx srt s) x) (Classical.propDecidable _)⟩
/-- What a round leaves. -/
structure Downed (stf : HS → Int → Bool) (srt : List Inf) (roots out : List Int) (m m' : MK) : Prop where
  e : m'.e = 0
  cl : Cl srt m'.s
  n : m'.s.n = m.s.n
  ok : ∀ b, okAt srt m'.s b ↔ okAt srt m.s b
  wait : m.wait = [] → m'.wait = []
  less : m'.moved = true → mu stf srt m'.s < mu stf srt m.s
  outs : ∀ o ∈ out, vok srt m.s o
  len : out.length = roots.length
  same : m'.moved = false → m'.s = m.s
  seen : ∀ x ∈ m'.seen, okAt srt m.s x
theorem Rnd.down {srt : List Inf} (U : SortsUp srt) {stf : HS → Int → Bool} (hst : ∀ s x, stf s x = true ↔ Per (inx srt s) x) {most : Int} {roots out : List Int} {m m' : MK} (h : Rnd srt most roots m out m') (hc : Cl srt m.s) (he : m.e = 0) (hw : m.wait = []) (hr : ∀ r ∈ roots, vok srt m.s r) : Downed stf srt roots out m m' := by
  have hR := h
  obtain ⟨m1, h1, h2⟩ := h
  obtain ⟨m0, hm0⟩ : ∃ m0 : MK, m0 = { m with seen := [], over := false, moved := false } := ⟨_, rfl⟩
  rw [← hm0] at h1
  have hs0 : m0.s = m.s := by rw [hm0]
  have hst0 : ∀ x, stf m.s x = true ↔ Per (inx srt m0.s) x := fun x => by rw [hs0]; exact hst _ x
  have hmv0 : m0.moved = false := by rw [hm0]
  have hJ : J srt (stf m.s) m0 m0 := ⟨by rw [hs0]; exact hc, by rw [hm0]; exact he, rfl, fun _ => Iff.rfl, fun _ => rfl, fun _ h => h, fun _ => ⟨fun _ => rfl, fun _ _ => rfl, Nat.le_refl _, fun hm => (by rw [hmv0] at hm; cases hm)⟩, fun _ => rfl⟩
  have hM : Mk srt m0 m0 := fun x hx => by
    rcases hx with hx | hx
    · rw [hm0] at hx; cases hx
    · have hx' : x ∈ m.wait := by rw [hm0] at hx; exact hx
      rw [hw] at hx'; cases hx'
  obtain ⟨a1, a2, a3, a4, a5⟩ := h1.j U hst0 (by rw [hs0]; exact hc.wf) hJ hM fun r hr' => by rw [hs0]; exact hr r hr'
  obtain ⟨b1, b2, b3⟩ := h2.j U hst0 (by rw [hs0]; exact hc.wf) a1 a3
  refine ⟨b1.e, b1.cl, b1.n.trans (by rw [hs0]), fun b => (b1.ok b).trans (by rw [hs0]), fun hw => hR.wait b1.e hw, fun hmv => ?_, fun o ho => by rw [← hs0]; exact a4 o ho, a5, fun hmv => (b1.still hmv).trans hs0, fun x hx => by rw [← hs0]; exact (b3 x (.inl hx)).1⟩
  unfold mu
  by_cases hnd : ND srt m0 m'
  · obtain ⟨c1, c2, _, c4⟩ := b1.st hnd
    have e1 : stf m'.s = stf m.s := funext fun x => by
      have e2 : inx srt m'.s = inx srt m.s := funext fun y => by
        unfold inx
        rw [c1 y, hs0]
        by_cases h6 : (infAt srt m.s y).kind = 6
        · rw [if_pos h6, if_pos h6, c2 y (by rw [hs0]; exact h6), hs0]
        · rw [if_neg h6, if_neg h6]
      have h3 := hst m'.s x
      have h4 := hst m.s x
      rw [e2] at h3
      cases h5 : stf m.s x with
      | true => exact h3.2 (h4.1 h5)
      | false =>
        cases h6 : stf m'.s x with
        | false => rfl
        | true => have := h4.2 (h3.1 h6); rw [h5] at this; cases this
    have hT : cntT srt m'.s ≤ cntT srt m.s := by rw [← hs0]; exact cntT_le b1.n b1.sel
    have hU := c4 hmv
    rw [hs0] at hU
    rw [e1]
    have := Nat.mul_le_mul_right 4000000 hT
    omega
  · have hT : cntT srt m'.s < cntT srt m.s := by
      obtain ⟨b, hb⟩ := Classical.not_forall.1 hnd
      obtain ⟨h3, h4⟩ := Classical.not_imp.1 hb
      rw [← hs0]
      exact cntT_lt (by rw [hs0]; exact hc.wf) b1.n b1.sel h3 h4
    have hU := cntU_max U (stf m'.s) b1.cl.wf b1.cl.n
    have := Nat.mul_le_mul_right 4000000 (show cntT srt m'.s + 1 ≤ cntT srt m.s from hT)
    rw [Nat.add_mul] at this
    omega
/-- Rounds, to the last one. -/
theorem Rds.last {srt : List Inf} {most : Int} {roots out o' : List Int} {m m' : MK} {I : MK → Prop} {A : List Int → MK → Prop} (hI : ∀ m o m1, I m → m.e = 0 → Rnd srt most roots m o m1 → I m1 ∧ m1.e = 0 ∧ (m1.moved = false → A o m1)) (h : Rds srt most roots out m o' m') : I m → m.e = 0 → (m.moved = false → A out m) → I m' ∧ m'.e = 0 ∧ A o' m' := by
  induction h with
  | stop h => exact fun h1 h2 h3 => ⟨h1, h2, h3 (h.resolve_right fun hn => hn h2)⟩
  | step hm he h hn ih =>
    intro h1 h2 _
    obtain ⟨k1, k2, k3⟩ := hI _ _ _ h1 h2 h
    exact ih k1 k2 k3
end Go.Proofs.Ytjfpijoeddjgmaa
