/- Reg, Reg2 in one text. Conditions: as each says. -/
import Derived.Test.YtjfpijoeddjgmaaRep
import Derived.Orders
/- A region that draws its order, proved by an invariant: each operation once, in whatever state its forerunners leave. No condition. -/
namespace Go.Proofs.Ytjfpijoeddjgmaa
open Go.RowKit Hm
set_option linter.unusedVariables false

section
variable {P : Program} {ops : Array Oper} {Q : Exit → Act → World → Prop}

/-- What a region's operations have left in the frame: S tells of each slot that has been written; all other slots are as they were. -/
structure FrameI (ops : Array Oper) (S : Nat → Value → World → Prop) (a0 : Act) (D : Nat → Bool) (a : Act) (w : World) : Prop where
  size : a.tmps.size = a0.tmps.size
  defers : a.defers = a0.defers
  mine : ∀ (j : Nat) (o : Oper) (d : Tmp), ops[j]? = some o → o.dst = some d → D j = true → S j (a.tmps.getD d undef) w
  other : ∀ t, (∀ (j : Nat) (o : Oper), ops[j]? = some o → o.dst ≠ some t) → a.tmps.getD t undef = a0.tmps.getD t undef
  closed : ∀ (j : Nat) (o : Oper), ops[j]? = some o → D j = true → ∀ e ∈ o.after, Region.binds .any e = true → D e.on = true

theorem FrameI.out {ops : Array Oper} {S : Nat → Value → World → Prop} {a0 a : Act} {D : Nat → Bool} {w : World} (h : FrameI ops S a0 D a w) (t : Tmp) (ht : (ops.toList.all fun o => o.dst != some t) = true) : a.tmps.getD t undef = a0.tmps.getD t undef :=
  h.other t fun j o ho => by
    have := (List.all_eq_true.1 ht) o (Array.mem_toList_iff.2 (Array.mem_of_getElem? ho))
    simpa using this
/-- What is not done yet keeps back what waits for it. -/
theorem FrameI.back {ops : Array Oper} {S : Nat → Value → World → Prop} {a0 a : Act} {D : Nat → Bool} {w : World} (h : FrameI ops S a0 D a w) {i : Nat} (hi : D i = false) (j : Nat) {o : Oper} (ho : ops[j]? = some o) (e : Edge) (he : e ∈ o.after) (hb : Region.binds .any e = true) (hon : e.on = i) : D j = false := by
  cases hj : D j with
  | false => rfl
  | true => rw [← hon, h.closed j o ho hj e he hb] at hi; cases hi
/-- How a step of such a region ends. -/
def RegPost (S : Nat → Value → World → Prop) (J : (Nat → Bool) → World → Prop) (D : Nat → Bool) (i : Nat) (dst : Option Tmp) (a : Act) (w : World) (a' : Act) (w' : World) : Prop :=
  ∃ v, a' = a.put dst v ∧ (dst ≠ none → S i v w') ∧ (∀ j u, D j = true → S j u w → S j u w') ∧ J (upd D i true) w'
theorem RegPost.mk {S : Nat → Value → World → Prop} {J : (Nat → Bool) → World → Prop} {D : Nat → Bool} {i : Nat} {dst : Option Tmp} {a : Act} {w w' : World} (v : Value) (h1 : S i v w') (h2 : ∀ j u, D j = true → S j u w → S j u w') (h3 : J (upd D i true) w') : RegPost S J D i dst a w (a.put dst v) w' :=
  ⟨v, rfl, fun _ => h1, h2, h3⟩
theorem RegPost.mk0 {S : Nat → Value → World → Prop} {J : (Nat → Bool) → World → Prop} {D : Nat → Bool} {i : Nat} {a : Act} {w w' : World} (h2 : ∀ j u, D j = true → S j u w → S j u w') (h3 : J (upd D i true) w') : RegPost S J D i none a w a w' :=
  ⟨undef, rfl, fun h => absurd rfl h, h2, h3⟩

/-- No slot is written twice, each lies in the frame, no guards, no edge goes forward. -/
def regOk (ops : Array Oper) (n : Nat) : Bool :=
  (List.range ops.size).all fun i => match ops[i]? with
    | some o => o.guard.isNone && (match o.dst with | some d => decide (d < n) && (List.range i).all (fun j => ((ops[j]?).bind (·.dst)) != some d) | none => true) &&
        o.after.all (fun e => !Region.binds .any e || decide (e.on < i))
    | none => true
theorem regOk_at {n i : Nat} {o : Oper} (h : regOk ops n = true) (ho : ops[i]? = some o) : o.guard = none ∧ (∀ d, o.dst = some d → d < n ∧ ∀ j oj, j < i → ops[j]? = some oj → oj.dst ≠ some d) ∧ ∀ e ∈ o.after, Region.binds .any e = true → e.on < i := by
  have hi : i < ops.size := (Array.getElem?_eq_some_iff.1 ho).1
  have h1 := List.all_eq_true.1 h i (List.mem_range.2 hi)
  rw [ho] at h1
  simp only [Bool.and_eq_true] at h1
  obtain ⟨⟨h1, h2⟩, h3⟩ := h1
  refine ⟨by simpa using h1, fun d hd => ?_, fun e he hb => ?_⟩
  · rw [hd] at h2
    simp only [Bool.and_eq_true, decide_eq_true_eq] at h2
    refine ⟨h2.1, fun j oj hj hoj hdj => ?_⟩
    have := List.all_eq_true.1 h2.2 j (List.mem_range.2 hj)
    rw [hoj] at this
    simp [hdj] at this
  · rw [Array.all_eq_true_iff_forall_mem] at h3
    have := h3 e he
    simpa [hb] using this

theorem FrameI.put {S : Nat → Value → World → Prop} {a0 a : Act} {D : Nat → Bool} {w w' : World} {i : Nat} {o : Oper} {v : Value} (hk : regOk ops a0.tmps.size = true) (h : FrameI ops S a0 D a w) (ho : ops[i]? = some o)
    (hS : o.dst ≠ none → S i v w') (hst : ∀ j u, D j = true → S j u w → S j u w') (hDi : D i = false) (hdep : ∀ e ∈ o.after, Region.binds .any e = true → D e.on = true) : FrameI ops S a0 (upd D i true) (a.put o.dst v) w' := by
  have hok := regOk_at hk ho
  have hput : ∀ t, (a.put o.dst v).tmps.getD t undef = if o.dst = some t then v else a.tmps.getD t undef := by
    intro t
    cases hd : o.dst with
    | none => simp [Act.put]
    | some d =>
      have hdn := (hok.2.1 d hd).1
      rw [← h.size] at hdn
      simp only [Act.put, Array.getD_eq_getD_getElem?, Array.getElem?_setIfInBounds, Option.some.injEq]
      by_cases e : d = t
      · subst e; simp [hdn]
      · simp [e]
  refine ⟨?_, ?_, ?_, ?_, ?_⟩
  · cases o.dst <;> simp [Act.put, h.size]
  · cases o.dst <;> simp [Act.put, h.defers]
  · intro j oj d hoj hd hD
    rw [hput]
    by_cases hji : j = i
    · subst hji
      have : oj = o := Option.some.inj (hoj.symm.trans ho)
      subst this
      rw [if_pos hd]
      exact hS (by rw [hd]; simp)
    · have hne : o.dst ≠ some d := fun e => by
        rcases Nat.lt_or_ge j i with hlt | hge
        · exact (hok.2.1 d e).2 j oj hlt hoj hd
        · exact ((regOk_at hk hoj).2.1 d hd).2 i o (by omega) ho e
      rw [if_neg hne]
      simp only [upd, if_neg hji] at hD
      exact hst j _ hD (h.mine j oj d hoj hd hD)
  · intro t ht
    rw [hput, if_neg (ht i o ho)]
    exact h.other t ht
  · intro j oj hoj hD e he hb
    simp only [upd] at hD ⊢
    by_cases hei : e.on = i
    · rw [if_pos hei]
    · rw [if_neg hei]
      by_cases hji : j = i
      · subst hji
        have : oj = o := Option.some.inj (hoj.symm.trans ho)
        subst this
        exact hdep e he hb
      · rw [if_neg hji] at hD
        exact h.closed j oj hoj hD e he hb

theorem mem_ready' {md : Region.Mode} {listed : Array Bool} {i : Nat} (h : i ∈ Region.ready md ops listed) : listed.getD i true = false ∧ ∃ o, ops[i]? = some o ∧ ∀ e ∈ o.after, Region.binds md e = true → listed.getD e.on false = true := by
  unfold Region.ready at h
  rw [List.mem_filter] at h
  obtain ⟨h1, h2⟩ := h
  simp only [Bool.and_eq_true, Bool.not_eq_true'] at h2
  refine ⟨h2.1, ?_⟩
  cases ho : ops[i]? with
  | none => rw [ho] at h2; simp at h2
  | some o =>
    rw [ho] at h2
    simp only [Option.map_some, Option.getD_some] at h2
    refine ⟨o, rfl, fun e he hb => ?_⟩
    have h3 := h2.2
    rw [Array.all_eq_true_iff_forall_mem] at h3
    have := h3 e he
    simpa [hb] using this

theorem wp_region_inv {id n : Nat} {a0 : Act} {w0 : World} (hm : P.follows .mixedOrders = true) (hn : a0.tmps.size = n) (hk : regOk ops n = true) (S : Nat → Value → World → Prop) (J : (Nat → Bool) → World → Prop)
    (h0 : J (fun _ => false) w0.drew)
    (hstep : ∀ i o, ops[i]? = some o → ∀ D a w, FrameI ops S a0 D a w → J D w → D i = false → (∀ e ∈ o.after, Region.binds .any e = true → D e.on = true) →
      o.wp P a w (RegPost S J D i o.dst a w) Q)
    (hend : ∀ D a w, FrameI ops S a0 D a w → J D w → (∀ i, i < ops.size → D i = true) → Q .normal a w) :
    (Code.region id ops true).wp P Q a0 w0 := by
  subst hn
  refine wp_region_any hm ?_
  have key : ∀ (fuel : Nat) (listed : Array Bool) (a : Act) (w : World), listed.size = ops.size → FrameI ops S a0 (fun i => listed.getD i false) a w → J (fun i => listed.getD i false) w →
      (List.range ops.size).countP (fun i => !listed.getD i false) ≤ fuel → wpAny P .any ops Q fuel listed a w := by
    intro fuel
    induction fuel with
    | zero =>
      intro listed a w hsz hF hJ hc
      have hall : ∀ i, i < ops.size → listed.getD i false = true := by
        intro i hi
        cases hl : listed.getD i false with
        | true => rfl
        | false =>
          have := (countP_pos_iff' (fun i => !listed.getD i false) ops.size).2 ⟨i, hi, by rw [hl]; rfl⟩
          omega
      refine ⟨?_, hend _ _ _ hF hJ hall⟩
      refine List.eq_nil_iff_forall_not_mem.2 fun i hi => ?_
      obtain ⟨h1, o, ho, _⟩ := mem_ready' hi
      have hi' := (Array.getElem?_eq_some_iff.1 ho).1
      have h2 := hall i hi'
      have hl : i < listed.size := by omega
      simp [Array.getD, hl] at h1 h2
      rw [h1] at h2; cases h2
    | succ fuel ih =>
      intro listed a w hsz hF hJ hc
      refine ⟨fun hr => ?_, fun i hi => ?_⟩
      · refine hend _ _ _ hF hJ ?_
        intro i
        induction i using Nat.strongRecOn with
        | _ i ih2 =>
          intro hi
          cases hl : listed.getD i false with
          | true => rfl
          | false =>
            exfalso
            have hmem : i ∈ Region.ready .any ops listed := by
              unfold Region.ready
              rw [List.mem_filter]
              refine ⟨List.mem_range.2 hi, ?_⟩
              have hls : i < listed.size := by omega
              have h1 : listed.getD i true = false := by simpa [Array.getD, hls] using hl
              rw [h1]
              obtain ⟨o, ho⟩ : ∃ o, ops[i]? = some o := ⟨_, Array.getElem?_eq_getElem hi⟩
              rw [ho]
              simp only [Bool.not_false, Bool.true_and, Option.map_some, Option.getD_some]
              rw [Array.all_eq_true_iff_forall_mem]
              intro e he
              cases hb : Region.binds .any e with
              | false => rfl
              | true =>
                have hlt := (regOk_at hk ho).2.2 e he hb
                simpa using ih2 e.on hlt (by omega)
            rw [hr] at hmem; cases hmem
      · obtain ⟨h1, o, ho, hdeps⟩ := mem_ready' hi
        have hi' := (Array.getElem?_eq_some_iff.1 ho).1
        have hls : i < listed.size := by omega
        have hl : listed.getD i false = false := by simpa [Array.getD, hls] using h1
        have hset : (fun j => (listed.setIfInBounds i true).getD j false) = upd (fun j => listed.getD j false) i true := by
          funext j
          simp only [upd, Array.getD_eq_getD_getElem?, Array.getElem?_setIfInBounds]
          by_cases e : i = j
          · subst e; simp [hls]
          · simp [e, show ¬ j = i by omega]
        unfold wpOp
        simp only [ho]
        rw [if_pos (by simp [Region.wanted, (regOk_at hk ho).1])]
        refine .inl (Oper.wp_mono (fun a' w' hh => ?_) (hstep i o ho _ a w hF hJ hl hdeps))
        obtain ⟨v, rfl, hS, hst, hJ'⟩ := hh
        refine ih _ _ _ (by simp [hsz]) ?_ ?_ ?_
        · rw [hset]; exact hF.put hk ho hS hst hl hdeps
        · rw [hset]; exact hJ'
        · have := countP_turn (fun j => !(listed.setIfInBounds i true).getD j false) (fun j => !listed.getD j false) i (by
            have := congrFun hset i
            simp only [this, upd, if_true]; rfl) (by rw [hl]; rfl) (fun j hj => by
            have := congrFun hset j
            simp only [this, upd, if_neg hj]) ops.size
          rw [if_pos hi'] at this
          omega
  refine key ops.size _ a0 _ (by simp) ⟨rfl, rfl, fun j o d _ _ h => ?_, fun _ _ => rfl, fun j o _ h => ?_⟩ ?_ ?_
  · simp [Array.getD_eq_getD_getElem?, Array.getElem?_replicate] at h
    split at h <;> simp at h
  · simp [Array.getD_eq_getD_getElem?, Array.getElem?_replicate] at h
    split at h <;> simp at h
  · have : (fun i => (Array.replicate ops.size false).getD i false) = fun _ => false := by
      funext i
      simp [Array.getD_eq_getD_getElem?, Array.getElem?_replicate]
      split <;> rfl
    rw [this]; exact h0
  · have := List.countP_le_length (p := fun i => !(Array.replicate ops.size false).getD i false) (l := List.range ops.size)
    simpa using this
end

/-- A frame of a known size, written out. -/
theorem act_lit (a : Act) (n : Nat) (h : a.tmps.size = n) : a = ⟨((List.range n).map fun t => a.tmps.getD t undef).toArray, a.defers⟩ := by
  obtain ⟨t, d⟩ := a
  simp only [Act.mk.injEq, and_true]
  apply Array.ext
  · simpa using h
  · intro i h1 h2
    simp [Array.getD, h1]
end Go.Proofs.Ytjfpijoeddjgmaa

/- A region that draws its order, by an invariant that also tells slots apart from each other. No condition. -/
namespace Go.Proofs.Ytjfpijoeddjgmaa
open Go.RowKit Hm
set_option linter.unusedVariables false
section
variable {P : Program} {ops : Array Oper} {Q : Exit → Act → World → Prop}
/-- What two slots have to do with each other. -/
def Pairs (ops : Array Oper) (T : Nat → Nat → Value → Value → Prop) (D : Nat → Bool) (a : Act) : Prop :=
  ∀ (i j : Nat) (oi oj : Oper) (di dj : Tmp), ops[i]? = some oi → ops[j]? = some oj → oi.dst = some di → oj.dst = some dj → D i = true → D j = true → i ≠ j → T i j (a.tmps.getD di undef) (a.tmps.getD dj undef)
def RegPost2 (S : Nat → Value → World → Prop) (J : (Nat → Bool) → World → Prop) (T : Nat → Nat → Value → Value → Prop) (D : Nat → Bool) (i : Nat) (dst : Option Tmp) (a : Act) (w : World) (a' : Act) (w' : World) : Prop :=
  ∃ v, a' = a.put dst v ∧ (dst ≠ none → S i v w') ∧ (∀ j u, D j = true → S j u w → S j u w') ∧ J (upd D i true) w' ∧ (∀ j u, D j = true → S j u w → T i j v u ∧ T j i u v)
theorem RegPost2.mk {S : Nat → Value → World → Prop} {J : (Nat → Bool) → World → Prop} {T : Nat → Nat → Value → Value → Prop} {D : Nat → Bool} {i : Nat} {dst : Option Tmp} {a : Act} {w w' : World} (v : Value) (h1 : S i v w') (h2 : ∀ j u, D j = true → S j u w → S j u w') (h3 : J (upd D i true) w')
    (h4 : ∀ j u, D j = true → S j u w → T i j v u ∧ T j i u v) : RegPost2 S J T D i dst a w (a.put dst v) w' :=
  ⟨v, rfl, fun _ => h1, h2, h3, h4⟩
theorem Pairs.put {S : Nat → Value → World → Prop} {T : Nat → Nat → Value → Value → Prop} {a0 a : Act} {D : Nat → Bool} {w : World} {i : Nat} {o : Oper} {v : Value} (h : Pairs ops T D a) (hk : regOk ops a0.tmps.size = true) (hF : FrameI ops S a0 D a w) (ho : ops[i]? = some o)
    (hpr : ∀ j u, D j = true → S j u w → T i j v u ∧ T j i u v) : Pairs ops T (upd D i true) (a.put o.dst v) := by
  have hok := regOk_at hk ho
  have hput : ∀ t, (a.put o.dst v).tmps.getD t undef = if o.dst = some t then v else a.tmps.getD t undef := by
    intro t
    cases hd : o.dst with
    | none => simp [Act.put]
    | some d =>
      have hdn := (hok.2.1 d hd).1
      rw [← hF.size] at hdn
      simp only [Act.put, Array.getD_eq_getD_getElem?, Array.getElem?_setIfInBounds, Option.some.injEq]
      by_cases e : d = t
      · subst e; simp [hdn]
      · simp [e]
  have hne : ∀ j oj d, j ≠ i → ops[j]? = some oj → oj.dst = some d → o.dst ≠ some d := fun j oj d hji hoj hd e => by
    rcases Nat.lt_or_ge j i with hlt | hge
    · exact (hok.2.1 d e).2 j oj hlt hoj hd
    · exact ((regOk_at hk hoj).2.1 d hd).2 i o (by omega) ho e
  intro x y ox oy dx dy hox hoy hdx hdy hDx hDy hxy
  rw [hput, hput]
  by_cases hxi : x = i
  · subst hxi
    have : ox = o := Option.some.inj (hox.symm.trans ho)
    subst this
    have hyi : y ≠ x := fun e => hxy e.symm
    rw [if_pos hdx, if_neg (hne y oy dy hyi hoy hdy)]
    simp only [upd, if_neg hyi] at hDy
    exact (hpr y _ hDy (hF.mine y oy dy hoy hdy hDy)).1
  · simp only [upd, if_neg hxi] at hDx
    rw [if_neg (hne x ox dx hxi hox hdx)]
    by_cases hyi : y = i
    · subst hyi
      have : oy = o := Option.some.inj (hoy.symm.trans ho)
      subst this
      rw [if_pos hdy]
      exact (hpr x _ hDx (hF.mine x ox dx hox hdx hDx)).2
    · simp only [upd, if_neg hyi] at hDy
      rw [if_neg (hne y oy dy hyi hoy hdy)]
      exact h x y ox oy dx dy hox hoy hdx hdy hDx hDy hxy
theorem wp_region_inv2 {id n : Nat} {a0 : Act} {w0 : World} (hm : P.follows .mixedOrders = true) (hn : a0.tmps.size = n) (hk : regOk ops n = true) (S : Nat → Value → World → Prop) (J : (Nat → Bool) → World → Prop) (T : Nat → Nat → Value → Value → Prop)
    (h0 : J (fun _ => false) w0.drew)
    (hstep : ∀ i o, ops[i]? = some o → ∀ D a w, FrameI ops S a0 D a w → Pairs ops T D a → J D w → D i = false → (∀ e ∈ o.after, Region.binds .any e = true → D e.on = true) →
      o.wp P a w (RegPost2 S J T D i o.dst a w) Q)
    (hend : ∀ D a w, FrameI ops S a0 D a w → Pairs ops T D a → J D w → (∀ i, i < ops.size → D i = true) → Q .normal a w) :
    (Code.region id ops true).wp P Q a0 w0 := by
  subst hn
  refine wp_region_any hm ?_
  have key : ∀ (fuel : Nat) (listed : Array Bool) (a : Act) (w : World), listed.size = ops.size → FrameI ops S a0 (fun i => listed.getD i false) a w → Pairs ops T (fun i => listed.getD i false) a → J (fun i => listed.getD i false) w →
      (List.range ops.size).countP (fun i => !listed.getD i false) ≤ fuel → wpAny P .any ops Q fuel listed a w := by
    intro fuel
    induction fuel with
    | zero =>
      intro listed a w hsz hF hT hJ hc
      have hall : ∀ i, i < ops.size → listed.getD i false = true := by
        intro i hi
        cases hl : listed.getD i false with
        | true => rfl
        | false =>
          have := (countP_pos_iff' (fun i => !listed.getD i false) ops.size).2 ⟨i, hi, by rw [hl]; rfl⟩
          omega
      refine ⟨?_, hend _ _ _ hF hT hJ hall⟩
      refine List.eq_nil_iff_forall_not_mem.2 fun i hi => ?_
      obtain ⟨h1, o, ho, _⟩ := mem_ready' hi
      have hi' := (Array.getElem?_eq_some_iff.1 ho).1
      have h2 := hall i hi'
      have hl : i < listed.size := by omega
      simp [Array.getD, hl] at h1 h2
      rw [h1] at h2; cases h2
    | succ fuel ih =>
      intro listed a w hsz hF hT hJ hc
      refine ⟨fun hr => ?_, fun i hi => ?_⟩
      · refine hend _ _ _ hF hT hJ ?_
        intro i
        induction i using Nat.strongRecOn with
        | _ i ih2 =>
          intro hi
          cases hl : listed.getD i false with
          | true => rfl
          | false =>
            exfalso
            have hmem : i ∈ Region.ready .any ops listed := by
              unfold Region.ready
              rw [List.mem_filter]
              refine ⟨List.mem_range.2 hi, ?_⟩
              have hls : i < listed.size := by omega
              have h1 : listed.getD i true = false := by simpa [Array.getD, hls] using hl
              rw [h1]
              obtain ⟨o, ho⟩ : ∃ o, ops[i]? = some o := ⟨_, Array.getElem?_eq_getElem hi⟩
              rw [ho]
              simp only [Bool.not_false, Bool.true_and, Option.map_some, Option.getD_some]
              rw [Array.all_eq_true_iff_forall_mem]
              intro e he
              cases hb : Region.binds .any e with
              | false => rfl
              | true =>
                have hlt := (regOk_at hk ho).2.2 e he hb
                simpa using ih2 e.on hlt (by omega)
            rw [hr] at hmem; cases hmem
      · obtain ⟨h1, o, ho, hdeps⟩ := mem_ready' hi
        have hi' := (Array.getElem?_eq_some_iff.1 ho).1
        have hls : i < listed.size := by omega
        have hl : listed.getD i false = false := by simpa [Array.getD, hls] using h1
        have hset : (fun j => (listed.setIfInBounds i true).getD j false) = upd (fun j => listed.getD j false) i true := by
          funext j
          simp only [upd, Array.getD_eq_getD_getElem?, Array.getElem?_setIfInBounds]
          by_cases e : i = j
          · subst e; simp [hls]
          · simp [e, show ¬ j = i by omega]
        unfold wpOp
        simp only [ho]
        rw [if_pos (by simp [Region.wanted, (regOk_at hk ho).1])]
        refine .inl (Oper.wp_mono (fun a' w' hh => ?_) (hstep i o ho _ a w hF hT hJ hl hdeps))
        obtain ⟨v, rfl, hS, hst, hJ', hpr⟩ := hh
        refine ih _ _ _ (by simp [hsz]) ?_ ?_ ?_ ?_
        · rw [hset]; exact hF.put hk ho hS hst hl hdeps
        · rw [hset]; exact hT.put hk hF ho hpr
        · rw [hset]; exact hJ'
        · have := countP_turn (fun j => !(listed.setIfInBounds i true).getD j false) (fun j => !listed.getD j false) i (by
            have := congrFun hset i
            simp only [this, upd, if_true]; rfl) (by rw [hl]; rfl) (fun j hj => by
            have := congrFun hset j
            simp only [this, upd, if_neg hj]) ops.size
          rw [if_pos hi'] at this
          omega
  refine key ops.size _ a0 _ (by simp) ⟨rfl, rfl, fun j o d _ _ h => ?_, fun _ _ => rfl, fun j o _ h => ?_⟩ ?_ ?_ ?_
  · simp [Array.getD_eq_getD_getElem?, Array.getElem?_replicate] at h
    split at h <;> simp at h
  · simp [Array.getD_eq_getD_getElem?, Array.getElem?_replicate] at h
    split at h <;> simp at h
  · intro i j oi oj di dj _ _ _ _ hi
    simp [Array.getD_eq_getD_getElem?, Array.getElem?_replicate] at hi
    split at hi <;> simp at hi
  · have : (fun i => (Array.replicate ops.size false).getD i false) = fun _ => false := by
      funext i
      simp [Array.getD_eq_getD_getElem?, Array.getElem?_replicate]
      split <;> rfl
    rw [this]; exact h0
  · have := List.countP_le_length (p := fun i => !(Array.replicate ops.size false).getD i false) (l := List.range ops.size)
    simpa using this
end

end Go.Proofs.Ytjfpijoeddjgmaa
