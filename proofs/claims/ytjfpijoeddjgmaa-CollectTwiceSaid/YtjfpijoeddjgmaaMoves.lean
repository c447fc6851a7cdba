/- What a pointer set, or an Ind made, changes of a store's closures. Conditions: as each says. -/
import Derived.Test.YtjfpijoeddjgmaaSimp
namespace Go.Proofs.Ytjfpijoeddjgmaa
open Go.RowKit Hm
set_option linter.unusedVariables false

/-- Does a closure of a sort pick a field? -/
def Sel (i : Inf) : Prop := i.kind = 2 ∧ i.pick ≠ 0
/-- Sorts of which a marker's graphs are. -/
structure SortsUp (srt : List Inf) : Prop where
  ok : ∀ i ∈ srt, i.Ok
  few : srt.length ≤ 100
  ind : ∀ i ∈ srt, i.kind = 6 → i.ptrs = 1 ∧ i.nons = 0
  sel : ∀ i ∈ srt, i.kind = 2 → i.pick ≠ 0 → i.ptrs = 1 ∧ 1 ≤ i.pick
  pap : ∀ i ∈ srt, i.kind ≠ 3
  hole : ∀ i ∈ srt, i.kind = 7 → i.ptrs = 0
  ind6 : ∃ k, kindAt srt 6 = some k
theorem getD_mem' {srt : List Inf} {k : Nat} (h : k < srt.length) : srt.getD k noInf ∈ srt := by
  rw [List.getD_eq_getElem?_getD, List.getElem?_eq_getElem h]; exact List.getElem_mem _
/-- A closure: where it is, its sort's number, how many words are behind its head. -/
structure Clo (srt : List Inf) (s : HS) (a : Int) (A k n : Nat) : Prop where
  at' : a = (A : Int)
  used : s.used A = true
  pos : 1 ≤ A
  lt : A + s.cap A ≤ 1 + 32 * s.n
  kl : k < srt.length
  n1 : 1 ≤ n
  n60 : n ≤ 60
  cap : 1 + n ≤ s.cap A
  fits : (srt.getD k noInf).fits n = true
  head : s.word A = headOf k n
  look : lookM srt s a = ((k : Int), (n : Int), 0)
theorem HS.has_used {s : HS} {a i : Int} (h : HS.has s a i) : s.used a.toNat = true := by
  cases hu : s.used a.toNat with
  | true => rfl
  | false => unfold HS.has at h; rw [HS.cap_none hu] at h; omega
theorem okAt.clo {srt : List Inf} {s : HS} {a : Int} (h : okAt srt s a) (hw : s.WF) : ∃ A k n, Clo srt s a A k n := by
  obtain ⟨k, n, e, hk, h1, h2, hh, hc, hf⟩ := look_in h
  have hp := HS.has_pos hw hh
  have hu := HS.has_used hh
  have hin := hw.in_ hu
  refine ⟨a.toNat, k, n, by omega, hu, hin.1, hin.2, hk, h1, h2, hc, hf, ?_, e⟩
  unfold lookM at e
  rw [if_pos hh] at e
  by_cases hi : headIn srt (s.word a.toNat) (s.cap a.toNat) = true
  · rw [if_pos hi] at e
    simp only [Prod.mk.injEq] at e
    rw [← e.1, ← e.2.1]
    unfold headOf wordSort wordSize
    omega
  · rw [if_neg hi] at e
    simp only [Prod.mk.injEq] at e
    omega
theorem headOf_range' {k n : Nat} (hk : k < 100) (hn : n ≤ 60) : 0 ≤ headOf k n ∧ headOf k n < 18446744073709551616 := by unfold headOf; omega
theorem Clo.ok {srt : List Inf} {s : HS} {a : Int} {A k n : Nat} (h : Clo srt s a A k n) : okAt srt s a := by unfold okAt; rw [h.look]
theorem Clo.make {srt : List Inf} {s : HS} {A k n : Nat} (hw : s.WF) (hu : s.used A = true) (hk : k < srt.length) (hl : srt.length ≤ 100) (h1 : 1 ≤ n) (h60 : n ≤ 60) (hc : 1 + n ≤ s.cap A) (hf : (srt.getD k noInf).fits n = true) (hh : s.word A = headOf k n) : Clo srt s (A : Int) A k n :=
  ⟨rfl, hu, (hw.in_ hu).1, (hw.in_ hu).2, hk, h1, h60, hc, hf, hh, look_of hk hl hf h1 h60 hh hc⟩
theorem Clo.inf {srt : List Inf} {s : HS} {a : Int} {A k n : Nat} (h : Clo srt s a A k n) : infAt srt s a = srt.getD k noInf := by
  unfold infAt infoM; rw [h.look, if_pos rfl]; rfl
section
variable {srt : List Inf} (U : SortsUp srt) {s : HS}
include U
theorem Clo.room {a : Int} {A k n : Nat} (h : Clo srt s a A k n) : 0 ≤ (srt.getD k noInf).ptrs ∧ (srt.getD k noInf).ptrs ≤ n := by
  have hm := getD_mem' h.kl
  have ho := U.ok _ hm
  refine ⟨ho.p0, ?_⟩
  have hf := h.fits
  unfold Inf.fits Inf.size at hf
  rw [if_neg (U.pap _ hm)] at hf
  by_cases h7 : (srt.getD k noInf).kind = 7 ∨ (srt.getD k noInf).kind = 6
  · have := h.n1
    rcases h7 with h7 | h7
    · rw [U.hole _ hm h7]; omega
    · rw [(U.ind _ hm h7).1]; omega
  · rw [if_neg h7, if_neg (by have := U.pap _ hm; omega)] at hf
    have := of_decide_eq_true hf
    have := ho.n0
    omega
theorem Clo.count {a : Int} {A k n : Nat} (h : Clo srt s a A k n) : countM srt s a = ((srt.getD k noInf).ptrs, (srt.getD k noInf).nons, 0) := by
  rw [count_of h.look]
  unfold Inf.pointers
  rw [if_neg (U.pap _ (getD_mem' h.kl))]
theorem Clo.ptr {a : Int} {A k n : Nat} (h : Clo srt s a A k n) : ptrAt srt s a = (List.range (srt.getD k noInf).ptrs.toNat).map fun i => wrap64 (s.word (A + (1 + i))) := by
  unfold ptrAt ptrsM
  rw [h.count U, if_pos rfl]
  show ptrL s a (srt.getD k noInf).ptrs.toNat = _
  unfold ptrL
  refine List.map_congr_left fun q hq => ?_
  rw [List.mem_range] at hq
  have hr := h.room U
  have hc := h.cap
  rw [h.at', show (1 : Int) + (q : Int) = ((1 + q : Nat) : Int) by omega, rd_of (by omega)]
theorem ptrAt_len {a : Int} (hw : s.WF) (h : okAt srt s a) : ((ptrAt srt s a).length : Int) = (infAt srt s a).ptrs := by
  obtain ⟨A, k, n, hc⟩ := h.clo hw
  have hr := hc.room U
  rw [hc.ptr U, hc.inf, List.length_map, List.length_range]
  omega
end
/-- A word behind a head is written: the other words. -/
theorem write_word {s : HS} (hw : s.WF) {A x : Nat} {r : Int} (hu : s.used A = true) (hx : x < s.cap A) {B y : Nat} (hub : s.used B = true) (hy : y < s.cap B) : (s.write A x r).word (B + y) = if B = A ∧ y = x then r else s.word (B + y) := by
  show upd s.word (A + x) r (B + y) = _
  unfold upd
  by_cases h : B = A ∧ y = x
  · rw [if_pos h, if_pos (by rw [h.1, h.2])]
  · rw [if_neg h, if_neg]
    intro e
    rcases Nat.lt_trichotomy B A with hl | hl | hl
    · have := hw.apart hub hu hl; omega
    · exact h ⟨hl, by omega⟩
    · have := hw.apart hu hub hl; omega
theorem write_look {srt : List Inf} {s : HS} (hw : s.WF) {A x : Nat} {r : Int} (hu : s.used A = true) (hx : x < s.cap A) (hx1 : 1 ≤ x) (b : Int) : lookM srt (s.write A x r) b = lookM srt s b := by
  have hhas : HS.has (s.write A x r) b 0 ↔ HS.has s b 0 := Iff.rfl
  unfold lookM
  by_cases hh : HS.has s b 0
  · rw [if_pos hh, if_pos (hhas.2 hh)]
    have hub := HS.has_used hh
    have := hw.cap_pos hub
    have hwd := write_word hw hu hx (r := r) hub (y := 0) (by omega)
    rw [if_neg (by omega), Nat.add_zero] at hwd
    rw [hwd]
    rfl
  · rw [if_neg hh, if_neg (fun h => hh (hhas.1 h))]
theorem write_inf {srt : List Inf} {s : HS} (hw : s.WF) {A x : Nat} {r : Int} (hu : s.used A = true) (hx : x < s.cap A) (hx1 : 1 ≤ x) (b : Int) : infAt srt (s.write A x r) b = infAt srt s b := by
  unfold infAt infoM; rw [write_look hw hu hx hx1]
theorem write_ok {srt : List Inf} {s : HS} (hw : s.WF) {A x : Nat} {r : Int} (hu : s.used A = true) (hx : x < s.cap A) (hx1 : 1 ≤ x) (b : Int) : okAt srt (s.write A x r) b ↔ okAt srt s b := by
  unfold okAt; rw [write_look hw hu hx hx1]
theorem ptr_bad {srt : List Inf} {s : HS} {a : Int} (h : ¬ okAt srt s a) : ptrAt srt s a = [] := (info_bad h).2.2.2
/-- What turns when a pointer is set, or a closure becomes another one: only one closure. -/
structure Turned (srt : List Inf) (s t : HS) (a : Int) (i : Inf) (l : List Int) : Prop where
  wf : t.WF
  n : t.n = s.n
  used : t.used = s.used
  cap : ∀ x, t.cap x = s.cap x
  ok : ∀ b, okAt srt t b ↔ okAt srt s b
  inf : ∀ b, infAt srt t b = if b = a then i else infAt srt s b
  ptr : ∀ b, ptrAt srt t b = if b = a then l else ptrAt srt s b
  word : ∀ B y : Nat, (B : Int) ≠ a → s.used B = true → y < s.cap B → t.word (B + y) = s.word (B + y)
section
variable {srt : List Inf} (U : SortsUp srt) {s : HS}
include U
/-- Point. -/
theorem point_turned {a : Int} {i : Nat} {r : Int} (hw : s.WF) (ho : okAt srt s a) (hi : i < (ptrAt srt s a).length) (hr : 0 ≤ r ∧ r < 9223372036854775808) :
    ∃ t, pointM srt s a i r = (0, t) ∧ Turned srt s t a (infAt srt s a) ((ptrAt srt s a).set i r) := by
  obtain ⟨A, k, n, hc⟩ := ho.clo hw
  have hroom := hc.room U
  have hcap := hc.cap
  have hptr := hc.ptr U
  have hi' := hi
  rw [hptr, List.length_map, List.length_range] at hi'
  have hx : 1 + i < s.cap A := by omega
  refine ⟨s.write A (1 + i) r, ?_, ?_⟩
  · unfold pointM
    rw [hc.count U, if_pos rfl, if_neg (by omega), hc.at', show (1 : Int) + (i : Int) = ((1 + i : Nat) : Int) by omega]
    exact wr_of hx
  · have hok := fun b => write_ok (srt := srt) hw hc.used hx (r := r) (by omega) b
    have hinf := fun b => write_inf (srt := srt) hw hc.used hx (r := r) (by omega) b
    have hwf' := hw.write hx (v := r) (by omega)
    refine ⟨hwf', rfl, rfl, fun _ => rfl, hok, fun b => ?_, fun b => ?_, fun B y hb hu hy => ?_⟩
    · rw [hinf]
      by_cases h : b = a
      · rw [if_pos h, h]
      · rw [if_neg h]
    · by_cases hbo : okAt srt s b
      · obtain ⟨B, k', n', hc'⟩ := hbo.clo hw
        obtain ⟨B2, k2, n2, hc2⟩ := ((hok b).2 hbo).clo hwf'
        have e1 : B2 = B := by have := hc2.at'; have := hc'.at'; omega
        subst e1
        have e2 : srt.getD k2 noInf = srt.getD k' noInf := by rw [← hc2.inf, ← hc'.inf]; exact hinf b
        have hroom' := hc'.room U
        have hcap' := hc'.cap
        rw [hc2.ptr U, e2]
        have hw2 : ∀ j, j < (srt.getD k' noInf).ptrs.toNat → (s.write A (1 + i) r).word (B2 + (1 + j)) = if B2 = A ∧ 1 + j = 1 + i then r else s.word (B2 + (1 + j)) := fun j hj => write_word hw hc.used hx hc'.used (by omega)
        by_cases h : b = a
        · have e3 : B2 = A := by have := hc.at'; have := hc'.at'; omega
          subst e3
          have e4 : srt.getD k' noInf = srt.getD k noInf := by rw [← hc'.inf, ← hc.inf, h]
          rw [if_pos h, hptr, e4]
          refine List.ext_getElem (by simp) fun j hj1 hj2 => ?_
          rw [List.getElem_map, List.getElem_range, List.getElem_set]
          simp only [List.length_map, List.length_range] at hj1
          rw [hw2 j (by rw [e4]; exact hj1)]
          by_cases hji : i = j
          · subst hji
            rw [if_pos ⟨rfl, rfl⟩, if_pos rfl]
            exact wrap_fit (by omega) (by omega)
          · rw [if_neg (by omega), if_neg hji, List.getElem_map, List.getElem_range]
        · have e3 : B2 ≠ A := fun e => h (by rw [hc'.at', hc.at', e])
          rw [if_neg h, hc'.ptr U]
          refine List.map_congr_left fun j hj => ?_
          rw [List.mem_range] at hj
          rw [hw2 j hj, if_neg (fun h => e3 h.1)]
      · have hba : b ≠ a := fun e => hbo (by rw [e]; exact ho)
        rw [if_neg hba, ptr_bad hbo, ptr_bad (fun h => hbo ((hok b).1 h))]
    · have e3 : B ≠ A := fun e => hb (by rw [hc.at', e])
      rw [write_word hw hc.used hx hu hy, if_neg (fun h => e3 h.1)]
/-- Ind. -/
theorem ind_turned {a r : Int} (hw : s.WF) (ho : okAt srt s a) (hr : 0 ≤ r ∧ r < 9223372036854775808) :
    ∃ t i, indM srt s a r = (0, t) ∧ i ∈ srt ∧ i.kind = 6 ∧ Turned srt s t a i [r] := by
  obtain ⟨A, k, n, hc⟩ := ho.clo hw
  obtain ⟨ki, hki⟩ := U.ind6
  have hki' := hki
  unfold kindAt at hki'
  rw [List.find?_range_eq_some] at hki'
  obtain ⟨hk6, hkl, _⟩ := hki'
  simp only [beq_iff_eq] at hk6
  have hkl : ki < srt.length := by simpa using hkl
  have hm := getD_mem' hkl
  have hn1 := hc.n1
  have hn60 := hc.n60
  have hcap := hc.cap
  have hfew := U.few
  have hfits : (srt.getD ki noInf).fits n = true := by
    unfold Inf.fits
    rw [if_neg (by omega), if_pos (.inr hk6)]
    exact decide_eq_true (by omega)
  have hb : becomeM srt s a 6 = (0, s.write A 0 (headOf ki n)) := by
    unfold becomeM
    rw [hc.look, if_pos rfl, hki, hc.at']
    rfl
  have hhr := headOf_range' (k := ki) (n := n) (by omega) (by omega)
  have hw1 : (s.write A 0 (headOf ki n)).WF := hw.write (by omega) hhr
  obtain ⟨t1, ht1⟩ : ∃ t1, t1 = s.write A 0 (headOf ki n) := ⟨_, rfl⟩
  rw [← ht1] at hb hw1
  have hu1 : t1.used = s.used := by rw [ht1]; rfl
  have hn1e : t1.n = s.n := by rw [ht1]; rfl
  have hcap1 : ∀ x, t1.cap x = s.cap x := fun x => by rw [ht1]; rfl
  have hwd1 : ∀ B y : Nat, s.used B = true → y < s.cap B → t1.word (B + y) = if B = A ∧ y = 0 then headOf ki n else s.word (B + y) := fun B y hu hy => by rw [ht1]; exact write_word hw hc.used (by omega) hu hy
  have hx1 : 1 < t1.cap A := by rw [hcap1]; omega
  have huA1 : t1.used A = true := by rw [hu1]; exact hc.used
  have hw2 : (t1.write A 1 r).WF := hw1.write hx1 (by omega)
  have hind : indM srt s a r = (0, t1.write A 1 r) := by
    unfold indM
    rw [if_neg (by omega), hb, if_pos rfl, hc.at']
    exact wr_of (i := 1) hx1
  have hA1 : Clo srt t1 (A : Int) A ki n := Clo.make hw1 huA1 hkl hfew hn1 hn60 (by rw [hcap1]; exact hcap) hfits (by
    have := hwd1 A 0 hc.used (by omega)
    rw [if_pos ⟨rfl, rfl⟩, Nat.add_zero] at this
    exact this)
  have hother1 : ∀ b : Int, b ≠ a → lookM srt t1 b = lookM srt s b := fun b hb' => by
    have hhas : HS.has t1 b 0 ↔ HS.has s b 0 := by unfold HS.has; rw [hcap1]
    unfold lookM
    by_cases hh : HS.has s b 0
    · rw [if_pos hh, if_pos (hhas.2 hh)]
      have hub := HS.has_used hh
      have hp := HS.has_pos hw hh
      have := hw.cap_pos hub
      have hwd := hwd1 b.toNat 0 hub (by omega)
      rw [if_neg (fun h => hb' (by rw [hc.at', ← h.1]; omega)), Nat.add_zero] at hwd
      rw [hwd, hcap1]
    · rw [if_neg hh, if_neg (fun h => hh (hhas.1 h))]
  have hlook2 := fun b => write_look (srt := srt) hw1 huA1 hx1 (r := r) (by omega) b
  have hokb : ∀ b, okAt srt (t1.write A 1 r) b ↔ okAt srt s b := fun b => by
    unfold okAt
    rw [hlook2]
    by_cases h : b = a
    · subst h
      rw [hc.look, hc.at', hA1.look]
    · rw [hother1 b h]
  have hinfb : ∀ b, infAt srt (t1.write A 1 r) b = if b = a then srt.getD ki noInf else infAt srt s b := fun b => by
    by_cases h : b = a
    · rw [if_pos h, h, hc.at']
      unfold infAt infoM
      rw [hlook2, hA1.look, if_pos rfl]; rfl
    · rw [if_neg h]
      unfold infAt infoM
      rw [hlook2, hother1 b h]
  have hwd2 : ∀ B y : Nat, s.used B = true → y < s.cap B → (t1.write A 1 r).word (B + y) = if B = A ∧ y = 1 then r else if B = A ∧ y = 0 then headOf ki n else s.word (B + y) := fun B y hu hy => by
    rw [write_word hw1 huA1 hx1 (by rw [hu1]; exact hu) (by rw [hcap1]; exact hy), hwd1 B y hu hy]
  refine ⟨t1.write A 1 r, srt.getD ki noInf, hind, hm, hk6, ⟨hw2, hn1e, hu1, fun x => hcap1 x, hokb, hinfb, fun b => ?_, fun B y hb' hu hy => ?_⟩⟩
  · by_cases hbo : okAt srt s b
    · obtain ⟨B, k', n', hc'⟩ := hbo.clo hw
      obtain ⟨B2, k2, n2, hc2⟩ := ((hokb b).2 hbo).clo hw2
      have e1 : B2 = B := by have := hc2.at'; have := hc'.at'; omega
      subst e1
      have hcap' := hc'.cap
      have e2 := hinfb b
      rw [hc2.inf] at e2
      rw [hc2.ptr U, e2]
      by_cases h : b = a
      · have e3 : B2 = A := by have := hc.at'; have := hc'.at'; omega
        subst e3
        rw [if_pos h, if_pos h, (U.ind _ hm hk6).1]
        show [wrap64 ((t1.write B2 1 r).word (B2 + (1 + 0)))] = [r]
        rw [hwd2 B2 (1 + 0) hc.used (by omega), if_pos ⟨rfl, rfl⟩, wrap_fit (by omega) (by omega)]
      · have e3 : B2 ≠ A := fun e => h (by rw [hc'.at', hc.at', e])
        have hroom' := hc'.room U
        rw [if_neg h, if_neg h, hc'.ptr U, hc'.inf]
        refine List.map_congr_left fun j hj => ?_
        rw [List.mem_range] at hj
        rw [hwd2 B2 (1 + j) hc'.used (by omega), if_neg (fun h => e3 h.1), if_neg (fun h => e3 h.1)]
    · have hba : b ≠ a := fun e => hbo (by rw [e]; exact ho)
      rw [if_neg hba, ptr_bad hbo, ptr_bad (fun h => hbo ((hokb b).1 h))]
  · have e3 : B ≠ A := fun e => hb' (by rw [hc.at', e])
    rw [hwd2 B y hu hy, if_neg (fun h => e3 h.1), if_neg (fun h => e3 h.1)]
end
end Go.Proofs.Ytjfpijoeddjgmaa
