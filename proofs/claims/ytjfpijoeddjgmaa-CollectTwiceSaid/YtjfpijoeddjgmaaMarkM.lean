/- The marker's plain model: what its functions do to a store of closures. No condition. -/
import Derived.Test.YtjfpijoeddjgmaaInfo
import Derived.Test.YtjfpijoeddjgmaaStoEq
namespace Go.Proofs.Ytjfpijoeddjgmaa
open Go.RowKit Hm
set_option linter.unusedVariables false

/-- A marker: the heap, which closures it has seen, which wait, does more wait than may, was a pointer changed, the error. -/
structure MK where
  s : HS
  seen : List Int
  wait : List Int
  over : Bool
  moved : Bool
  e : Int
def infAt (srt : List Inf) (s : HS) (a : Int) : Inf := (infoM srt s a).1
def ptrAt (srt : List Inf) (s : HS) (a : Int) : List Int := (ptrsM srt s a).1
def okAt (srt : List Inf) (s : HS) (a : Int) : Prop := (lookM srt s a).2.2 = 0
instance (srt : List Inf) (s : HS) (a : Int) : Decidable (okAt srt s a) := inferInstanceAs (Decidable (_ = _))
/-- Sorts that a marker may look into. -/
def SortsOk (srt : List Inf) : Prop := ∀ i ∈ srt, (i.kind = 6 → 1 ≤ i.ptrs) ∧ (i.kind = 2 → i.pick ≠ 0 → 1 ≤ i.ptrs ∧ 1 ≤ i.pick)

def MK.fail (m : MK) : MK := { m with e := if m.e = 0 then 12 else m.e }
def MK.look (srt : List Inf) (m : MK) (a : Int) : MK := if okAt srt m.s a then m else m.fail
def MK.point (srt : List Inf) (m : MK) (a i r : Int) : MK := { m with s := (pointM srt m.s a i r).2, moved := true }
def MK.ind (srt : List Inf) (m : MK) (a r : Int) : MK := { m with s := (indM srt m.s a r).2, moved := true }

/-- reaches. -/
inductive Rch (srt : List Inf) (q : Int) : List Int → Int → MK → Bool → MK → Prop
  | stop {seen p m} (h : p = 0 ∨ p = q ∨ p ∈ seen ∨ m.e ≠ 0) : Rch srt q seen p m (p == q) m
  | no {seen p m} (h : ¬ (p = 0 ∨ p = q ∨ p ∈ seen ∨ m.e ≠ 0)) (hk : (infAt srt m.s p).kind ≠ 6) : Rch srt q seen p m false (m.look srt p)
  | go {seen p m r m'} (h : ¬ (p = 0 ∨ p = q ∨ p ∈ seen ∨ m.e ≠ 0)) (hk : (infAt srt m.s p).kind = 6) (hn : Rch srt q (seen ++ [p]) ((ptrAt srt m.s p).getD 0 0) m r m') : Rch srt q seen p m r m'

/-- A thunk's pointer is set to what it tells of. -/
def MK.aim (srt : List Inf) (m : MK) (p l0 q : Int) : MK := if q ≠ l0 ∧ m.e = 0 then m.point srt p 0 q else m
def field (srt : List Inf) (s : HS) (q : Int) (i : Inf) : Int := (ptrAt srt s q).getD (i.pick - 1).toNat 0
/-- Can a field not be picked? -/
def cant (srt : List Inf) (m : MK) (q : Int) (i : Inf) : Prop :=
  (m.look srt q).e ≠ 0 ∨ (infAt srt m.s q).kind ≠ 0 ∨ (infAt srt m.s q).tag ≠ i.of ∨ ((ptrAt srt m.s q).length : Int) < i.pick
/-- through. -/
inductive Thr (srt : List Inf) : Nat → List Int → Int → MK → Int → MK → Prop
  | stop {d seen p m} (h : p = 0 ∨ m.e ≠ 0 ∨ p ∈ seen) : Thr srt d seen p m p m
  | bad {d seen p m} (h : ¬ (p = 0 ∨ m.e ≠ 0 ∨ p ∈ seen)) (hb : ¬ okAt srt m.s p) : Thr srt d seen p m p (m.look srt p)
  | ind {d seen p m r m'} (h : ¬ (p = 0 ∨ m.e ≠ 0 ∨ p ∈ seen)) (ok : okAt srt m.s p) (hk : (infAt srt m.s p).kind = 6) (hn : Thr srt d (seen ++ [p]) ((ptrAt srt m.s p).getD 0 0) m r m') : Thr srt d seen p m r m'
  | plain {d seen p m} (h : ¬ (p = 0 ∨ m.e ≠ 0 ∨ p ∈ seen)) (ok : okAt srt m.s p) (hk : (infAt srt m.s p).kind ≠ 6)
      (hp : (infAt srt m.s p).kind ≠ 2 ∨ (infAt srt m.s p).pick = 0 ∨ 20 ≤ d ∨ (ptrAt srt m.s p).getD 0 0 = 0) : Thr srt d seen p m p m
  | none {d seen p m m1} (h : ¬ (p = 0 ∨ m.e ≠ 0 ∨ p ∈ seen)) (ok : okAt srt m.s p) (hk : (infAt srt m.s p).kind = 2)
      (hp : ¬ ((infAt srt m.s p).pick = 0 ∨ 20 ≤ d ∨ (ptrAt srt m.s p).getD 0 0 = 0)) (h1 : Thr srt (d + 1) [] ((ptrAt srt m.s p).getD 0 0) m 0 m1) :
      Thr srt d seen p m p (m1.aim srt p ((ptrAt srt m.s p).getD 0 0) 0)
  | cant {d seen p m q m1} (h : ¬ (p = 0 ∨ m.e ≠ 0 ∨ p ∈ seen)) (ok : okAt srt m.s p) (hk : (infAt srt m.s p).kind = 2)
      (hp : ¬ ((infAt srt m.s p).pick = 0 ∨ 20 ≤ d ∨ (ptrAt srt m.s p).getD 0 0 = 0)) (h1 : Thr srt (d + 1) [] ((ptrAt srt m.s p).getD 0 0) m q m1) (hq : q ≠ 0)
      (hc : cant srt (m1.aim srt p ((ptrAt srt m.s p).getD 0 0) q) q (infAt srt m.s p)) :
      Thr srt d seen p m p ((m1.aim srt p ((ptrAt srt m.s p).getD 0 0) q).look srt q)
  | ring {d seen p m q m1 m2} (h : ¬ (p = 0 ∨ m.e ≠ 0 ∨ p ∈ seen)) (ok : okAt srt m.s p) (hk : (infAt srt m.s p).kind = 2)
      (hp : ¬ ((infAt srt m.s p).pick = 0 ∨ 20 ≤ d ∨ (ptrAt srt m.s p).getD 0 0 = 0)) (h1 : Thr srt (d + 1) [] ((ptrAt srt m.s p).getD 0 0) m q m1) (hq : q ≠ 0)
      (hc : ¬ cant srt (m1.aim srt p ((ptrAt srt m.s p).getD 0 0) q) q (infAt srt m.s p))
      (hr : Rch srt p [] (field srt (m1.aim srt p ((ptrAt srt m.s p).getD 0 0) q).s q (infAt srt m.s p)) (m1.aim srt p ((ptrAt srt m.s p).getD 0 0) q) true m2) :
      Thr srt d seen p m p m2
  | go {d seen p m q m1 m2 r m3} (h : ¬ (p = 0 ∨ m.e ≠ 0 ∨ p ∈ seen)) (ok : okAt srt m.s p) (hk : (infAt srt m.s p).kind = 2)
      (hp : ¬ ((infAt srt m.s p).pick = 0 ∨ 20 ≤ d ∨ (ptrAt srt m.s p).getD 0 0 = 0)) (h1 : Thr srt (d + 1) [] ((ptrAt srt m.s p).getD 0 0) m q m1) (hq : q ≠ 0)
      (hc : ¬ cant srt (m1.aim srt p ((ptrAt srt m.s p).getD 0 0) q) q (infAt srt m.s p))
      (hr : Rch srt p [] (field srt (m1.aim srt p ((ptrAt srt m.s p).getD 0 0) q).s q (infAt srt m.s p)) (m1.aim srt p ((ptrAt srt m.s p).getD 0 0) q) false m2)
      (hn : Thr srt d (seen ++ [p]) (field srt (m1.aim srt p ((ptrAt srt m.s p).getD 0 0) q).s q (infAt srt m.s p)) (m2.ind srt p (field srt (m1.aim srt p ((ptrAt srt m.s p).getD 0 0) q).s q (infAt srt m.s p))) r m3) :
      Thr srt d seen p m r m3

/-- A closure that is new is noted. -/
def MK.note (most : Int) (m : MK) (r : Int) : MK := if most ≤ (m.wait.length : Int) then { m with seen := m.seen ++ [r], over := true } else { m with seen := m.seen ++ [r], wait := m.wait ++ [r] }
/-- reach. -/
inductive Rea (srt : List Inf) (most : Int) : Int → MK → Int → MK → Prop
  | old {p m r m1} (h : Thr srt 0 [] p m r m1) (ho : r = 0 ∨ r ∈ m1.seen ∨ m1.e ≠ 0) : Rea srt most p m r m1
  | new {p m r m1} (h : Thr srt 0 [] p m r m1) (ho : ¬ (r = 0 ∨ r ∈ m1.seen ∨ m1.e ≠ 0)) : Rea srt most p m r (m1.note most r)
/-- below's loop: pointer i and all behind it. -/
inductive Bel (srt : List Inf) (most : Int) (p : Int) : Nat → List Int → MK → MK → Prop
  | nil {i m} : Bel srt most p i [] m m
  | cons {i q l m r m1 m'} (h : Rea srt most q m r m1) (hn : Bel srt most p (i + 1) l (if r ≠ q ∧ m1.e = 0 then m1.point srt p i r else m1) m') : Bel srt most p i (q :: l) m m'
def Below' (srt : List Inf) (most : Int) (p : Int) (m m' : MK) : Prop := Bel srt most p 0 (ptrAt srt m.s p) (m.look srt p) m'
/-- drain. -/
inductive Dra (srt : List Inf) (most : Int) : MK → MK → Prop
  | stop {m} (h : m.wait = [] ∨ m.e ≠ 0) : Dra srt most m m
  | step {m ws p m1 m'} (hw : m.wait = ws ++ [p]) (he : m.e = 0) (h : Below' srt most p { m with wait := ws } m1) (hn : Dra srt most m1 m') : Dra srt most m m'
/-- The roots. -/
inductive Rts (srt : List Inf) (most : Int) : List Int → MK → List Int → MK → Prop
  | nil {m} : Rts srt most [] m [] m
  | cons {r rs m o m1 m2 os m'} (h : Rea srt most r m o m1) (hd : Dra srt most m1 m2) (hn : Rts srt most rs m2 os m') : Rts srt most (r :: rs) m (o :: os) m'
/-- All that was seen, once more. -/
inductive Swp (srt : List Inf) (most : Int) : List Int → MK → MK → Prop
  | nil {m} : Swp srt most [] m m
  | cons {p ps m m1 m2 m'} (h : Below' srt most p m m1) (hd : Dra srt most m1 m2) (hn : Swp srt most ps m2 m') : Swp srt most (p :: ps) m m'
def sorted (l : List Int) : List Int := l.mergeSort (fun x y => decide (x ≤ y))
inductive Agn (srt : List Inf) (most : Int) : MK → MK → Prop
  | stop {m} (h : m.over = false ∨ m.e ≠ 0) : Agn srt most m m
  | step {m m1 m'} (ho : m.over = true) (he : m.e = 0) (h : Swp srt most (sorted m.seen) { m with over := false } m1) (hn : Agn srt most m1 m') : Agn srt most m m'
/-- A round. -/
def Rnd (srt : List Inf) (most : Int) (roots : List Int) (m : MK) (out : List Int) (m' : MK) : Prop :=
  ∃ m1, Rts srt most roots { m with seen := [], over := false, moved := false } out m1 ∧ Agn srt most m1 m'
/-- Rounds, till nothing moves. -/
inductive Rds (srt : List Inf) (most : Int) (roots : List Int) : List Int → MK → List Int → MK → Prop
  | stop {out m} (h : m.moved = false ∨ m.e ≠ 0) : Rds srt most roots out m out m
  | step {out m o1 m1 o' m'} (hm : m.moved = true) (he : m.e = 0) (h : Rnd srt most roots m o1 m1) (hn : Rds srt most roots o1 m1 o' m') : Rds srt most roots out m o' m'

/-! ### What stays -/
theorem wrM_n (s : HS) (a i v : Int) : (wrM s a i v).2.n = s.n := by unfold wrM; split <;> rfl
theorem pointM_n (srt : List Inf) (s : HS) (a i t : Int) : (pointM srt s a i t).2.n = s.n := by
  unfold pointM
  split
  · split
    · rfl
    · exact wrM_n _ _ _ _
  · rfl
theorem becomeM_n (srt : List Inf) (s : HS) (a k : Int) : (becomeM srt s a k).2.n = s.n := by
  unfold becomeM
  split
  · split <;> rfl
  · rfl
theorem indM_n (srt : List Inf) (s : HS) (a x : Int) : (indM srt s a x).2.n = s.n := by
  unfold indM
  split
  · rfl
  · split
    · rw [wrM_n, becomeM_n]
    · exact becomeM_n _ _ _ _

theorem look_s (srt : List Inf) (m : MK) (a : Int) : (m.look srt a).s = m.s := by unfold MK.look; split <;> rfl
theorem look_seen (srt : List Inf) (m : MK) (a : Int) : (m.look srt a).seen = m.seen := by unfold MK.look; split <;> rfl
theorem look_wait (srt : List Inf) (m : MK) (a : Int) : (m.look srt a).wait = m.wait := by unfold MK.look; split <;> rfl
theorem look_over (srt : List Inf) (m : MK) (a : Int) : (m.look srt a).over = m.over := by unfold MK.look; split <;> rfl
theorem look_moved (srt : List Inf) (m : MK) (a : Int) : (m.look srt a).moved = m.moved := by unfold MK.look; split <;> rfl
theorem look_ok {srt : List Inf} {m : MK} {a : Int} (h : okAt srt m.s a) : m.look srt a = m := by unfold MK.look; rw [if_pos h]
theorem look_bad {srt : List Inf} {m : MK} {a : Int} (h : ¬ okAt srt m.s a) : m.look srt a = m.fail := by unfold MK.look; rw [if_neg h]
theorem look_e {srt : List Inf} {m : MK} {a : Int} (he : m.e = 0) : (m.look srt a).e ≠ 0 ↔ ¬ okAt srt m.s a := by
  unfold MK.look MK.fail
  split
  · rename_i h; simp [he, h]
  · rename_i h; simp [h]
theorem fail_e (m : MK) : m.fail.e ≠ 0 := by unfold MK.fail; simp only; split <;> omega
/-- What through leaves as it was. -/
structure Kept (m m' : MK) : Prop where
  n : m'.s.n = m.s.n
  seen : m'.seen = m.seen
  wait : m'.wait = m.wait
  over : m'.over = m.over
theorem Kept.refl (m : MK) : Kept m m := ⟨rfl, rfl, rfl, rfl⟩
theorem Kept.trans {a b c : MK} (h : Kept a b) (k : Kept b c) : Kept a c := ⟨k.n.trans h.n, k.seen.trans h.seen, k.wait.trans h.wait, k.over.trans h.over⟩
theorem Kept.look (srt : List Inf) (m : MK) (a : Int) : Kept m (m.look srt a) := ⟨by rw [look_s], look_seen _ _ _, look_wait _ _ _, look_over _ _ _⟩
theorem Kept.point (srt : List Inf) (m : MK) (a i r : Int) : Kept m (m.point srt a i r) := ⟨pointM_n _ _ _ _ _, rfl, rfl, rfl⟩
theorem Kept.ind (srt : List Inf) (m : MK) (a r : Int) : Kept m (m.ind srt a r) := ⟨indM_n _ _ _ _, rfl, rfl, rfl⟩
theorem Kept.aim (srt : List Inf) (m : MK) (a l q : Int) : Kept m (m.aim srt a l q) := by
  unfold MK.aim; split
  · exact Kept.point _ _ _ _ _
  · exact Kept.refl m
theorem Rch.kept {srt : List Inf} {q p : Int} {seen : List Int} {m m' : MK} {r : Bool} (h : Rch srt q seen p m r m') : Kept m m' ∧ m'.s = m.s ∧ m'.moved = m.moved := by
  induction h with
  | stop h => exact ⟨Kept.refl _, rfl, rfl⟩
  | no h hk => exact ⟨Kept.look _ _ _, look_s _ _ _, look_moved _ _ _⟩
  | go h hk hn ih => exact ih
theorem Thr.kept {srt : List Inf} {d : Nat} {p r : Int} {seen : List Int} {m m' : MK} (h : Thr srt d seen p m r m') : Kept m m' := by
  induction h with
  | stop h => exact Kept.refl _
  | bad h hb => exact Kept.look _ _ _
  | ind h ok hk hn ih => exact ih
  | plain h ok hk hp => exact Kept.refl _
  | none h ok hk hp h1 ih => exact ih.trans (Kept.aim _ _ _ _ _)
  | cant h ok hk hp h1 hq hc ih => exact (ih.trans (Kept.aim _ _ _ _ _)).trans (Kept.look _ _ _)
  | ring h ok hk hp h1 hq hc hr ih => exact (ih.trans (Kept.aim _ _ _ _ _)).trans hr.kept.1
  | go h ok hk hp h1 hq hc hr hn ih1 ih2 => exact (((ih1.trans (Kept.aim _ _ _ _ _)).trans hr.kept.1).trans (Kept.ind _ _ _ _)).trans ih2

/-- An address where a closure may be. -/
def inR (n : Nat) (a : Int) : Prop := 1 ≤ a ∧ a ≤ 32 * n
theorem okAt.inR {srt : List Inf} {s : HS} {a : Int} (h : okAt srt s a) (hw : s.WF) : inR s.n a := by
  obtain ⟨k, n, _, _, _, _, hh, hc, _⟩ := look_in h
  have := HS.has_pos hw hh
  unfold Go.Proofs.Ytjfpijoeddjgmaa.inR
  omega
end Go.Proofs.Ytjfpijoeddjgmaa
