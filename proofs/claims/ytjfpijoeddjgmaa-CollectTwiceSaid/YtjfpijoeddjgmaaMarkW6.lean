/- A marker's round. Conditions: the marker's memory reads as the plain model says. -/
import Derived.Test.YtjfpijoeddjgmaaMarkW5
import Derived.Test.YtjfpijoeddjgmaaMarkS
namespace Go.Proofs.Ytjfpijoeddjgmaa
open Go.RowKit Hm
set_option linter.unusedVariables false

/-! ### What is over has grown -/
def Ovr (m m' : MK) : Prop := m.seen.length ≤ m'.seen.length ∧ (m'.over = true → m.over = true ∨ m.seen.length < m'.seen.length)
theorem Ovr.refl (m : MK) : Ovr m m := ⟨Nat.le_refl _, fun h => .inl h⟩
theorem Ovr.trans {a b c : MK} (h : Ovr a b) (k : Ovr b c) : Ovr a c := by
  refine ⟨Nat.le_trans h.1 k.1, fun ho => ?_⟩
  have := h.1; have := k.1
  rcases k.2 ho with h1 | h1
  · rcases h.2 h1 with h2 | h2
    · exact .inl h2
    · exact .inr (by omega)
  · exact .inr (by omega)
theorem Kept.ovr {m m' : MK} (h : Kept m m') : Ovr m m' := ⟨by rw [h.seen]; exact Nat.le_refl _, fun ho => .inl (by rw [← h.over]; exact ho)⟩
theorem Rea.ovr {srt : List Inf} {most a r : Int} {m m' : MK} (h : Rea srt most a m r m') : Ovr m m' := by
  cases h with
  | old h ho => exact h.kept.ovr
  | new h ho =>
    refine h.kept.ovr.trans ?_
    unfold MK.note
    split
    · exact ⟨by simp, fun _ => .inr (by simp)⟩
    · exact ⟨by simp, fun h => .inl h⟩
theorem Bel.ovr {srt : List Inf} {most a : Int} {i : Nat} {l : List Int} {m m' : MK} (h : Bel srt most a i l m m') : Ovr m m' := by
  induction h with
  | nil => exact Ovr.refl _
  | cons h hn ih =>
    refine h.ovr.trans (Ovr.trans ?_ ih)
    split
    · exact (Kept.point _ _ _ _ _).ovr
    · exact Ovr.refl _
theorem Below'.ovr {srt : List Inf} {most a : Int} {m m' : MK} (h : Below' srt most a m m') : Ovr m m' := (Kept.look srt m a).ovr.trans (Bel.ovr h)
theorem Dra.ovr {srt : List Inf} {most : Int} {m m' : MK} (h : Dra srt most m m') : Ovr m m' := by
  induction h with
  | stop h => exact Ovr.refl _
  | step hw he h hn ih =>
    have h1 := Below'.ovr h
    exact Ovr.trans ⟨h1.1, h1.2⟩ ih
theorem Swp.ovr {srt : List Inf} {most : Int} {l : List Int} {m m' : MK} (h : Swp srt most l m m') : Ovr m m' := by
  induction h with
  | nil => exact Ovr.refl _
  | cons h hd hn ih => exact (h.ovr.trans hd.ovr).trans ih
theorem Swp.n {srt : List Inf} {most : Int} {l : List Int} {m m' : MK} (h : Swp srt most l m m') : m'.s.n = m.s.n := by
  induction h with
  | nil => rfl
  | cons h hd hn ih => rw [ih, hd.grows.1, h.grows.n]
theorem Rts.n {srt : List Inf} {most : Int} {l os : List Int} {m m' : MK} (h : Rts srt most l m os m') : m'.s.n = m.s.n := by
  induction h with
  | nil => rfl
  | cons h hd hn ih => rw [ih, hd.grows.1, h.grows.n]

/-- A row of numbers that no marker turns. -/
def RootsAt (w : World) (p : HP) (C : Nat) (ro : Option Addr) (zs : List Int) : Prop :=
  (zs.length = 0 ∨ ∃ b off, ro = some ⟨b, off, none⟩ ∧ b < C ∧ ¬ p.mine b ∧ ∀ j, j < zs.length → w.cell? ⟨b, off + j, none⟩ = some (.int .i64 (zs.getD j 0))) ∧ (∀ z ∈ zs, z < 9223372036854775808) ∧ zs.length ≤ 1000000
/-- A marker ahead of a round. -/
structure MkPre (w : World) (q : SPl) (p : HP) (srt : List Inf) (most : Int) (C mp : Nat) (v : Value) (m : MK) : Prop where
  heap : HeapAt w p m.s
  sto : StoreAt w q p srt
  st : ∃ (mv : Value) (a b c : Int), BlkAt w mp 151 10 (upd (mcells q 0 v most m a b c) 1 mv) ∧ 0 ≤ a ∧ a ≤ most
  wait : IntsAt w C v []
  sep : ∀ k, p.mine k → k ≠ q.sp ∧ k ≠ q.sb ∧ k < C
  low : q.sp < C ∧ q.sb < C ∧ C ≤ mp
  own : ∀ k, v.ownBlock = some k → k ≠ mp
  sorts : SortsOk srt
  most1 : 1 ≤ most
  nowait : m.wait = []
theorem MkAt.pre {w : World} {q : SPl} {p : HP} {srt : List Inf} {most : Int} {K : MkP} {v : Value} {m : MK} (h : MkAt w q p srt most K v m) (hw : m.wait = []) : MkPre w q p srt most K.C K.mp v m := by
  obtain ⟨a, b, c, hb, hab⟩ := h.st
  refine ⟨h.heap, h.sto, ⟨.map (some K.mb), a, b, c, hb.congr fun i hi => ?_, hab⟩, by rw [← hw]; exact h.wait, h.sep, ⟨h.low.1, h.low.2.1, h.low.2.2.1⟩, fun k hk => (h.own k hk).1, h.sorts, h.most1, hw⟩
  refine (upd_cells (i := 1) rfl (fun j hj hne => ?_) i hi).symm
  match j, hj, hne with
  | 0, _, _ => rfl
  | 2, _, _ => rfl
  | 3, _, _ => rfl
  | 4, _, _ => rfl
  | 5, _, _ => rfl
  | 6, _, _ => rfl
  | 7, _, _ => rfl
  | 8, _, _ => rfl
  | 9, _, _ => rfl
/-- A round begins. -/
theorem MkPre.start {w : World} {q : SPl} {p : HP} {srt : List Inf} {most : Int} {C mp : Nat} {v : Value} {m : MK} (h : MkPre w q p srt most C mp v m) :
    MkAt ((((w.alloc (.map #[] 0)).setCell ⟨mp, 1, none⟩ (.map (some w.heap.size))).setCell ⟨mp, 4, none⟩ (.bool false)).setCell ⟨mp, 5, none⟩ (.bool false)) q p srt most ⟨C, mp, w.heap.size⟩ v { m with seen := [], over := false, moved := false } := by
  obtain ⟨mv, a, b, c, hb, hab⟩ := h.st
  have h1 := h.low
  have hlt := hb.lt
  have hf : Fr (fun k => k = mp) w ((((w.alloc (.map #[] 0)).setCell ⟨mp, 1, none⟩ (.map (some w.heap.size))).setCell ⟨mp, 4, none⟩ (.bool false)).setCell ⟨mp, 5, none⟩ (.bool false)) :=
    ((((Fr.refl (fun k => k = mp) w).alloc _).setCell (S := fun k => k = mp) rfl _).setCell (S := fun k => k = mp) rfl _).setCell (S := fun k => k = mp) rfl _
  have hf1 : Fr (fun k => k = mp) (w.alloc (.map #[] 0)) ((((w.alloc (.map #[] 0)).setCell ⟨mp, 1, none⟩ (.map (some w.heap.size))).setCell ⟨mp, 4, none⟩ (.bool false)).setCell ⟨mp, 5, none⟩ (.bool false)) :=
    (((Fr.refl (fun k => k = mp) _).setCell (S := fun k => k = mp) rfl _).setCell (S := fun k => k = mp) rfl _).setCell (S := fun k => k = mp) rfl _
  refine ⟨h.heap.fr hf fun k hk (he : k = mp) => by have := (h.sep _ hk).2.2; omega, h.sto.fr hf (fun (he : _ = _) => by omega) (fun (he : _ = _) => by omega), ⟨a, b, c, ((((hb.alloc _).store 1 _).store 4 _).store 5 _).congr fun i hi => ?_, hab⟩,
    (SetAt.new w).fr hf1 (fun (he : _ = _) => by omega), fun x hx => (by cases hx), by rw [h.nowait]; exact h.wait.fr hf fun k hk (he : k = mp) => h.own k hk he, by rw [h.nowait]; have := h.most1; simp; omega, h.sep, ⟨h1.1, h1.2.1, h1.2.2, by show C ≤ w.heap.size; omega, by show mp ≠ w.heap.size; omega⟩, fun k hk => ⟨h.own k hk, by have := (h.wait.lt k hk).2; show k ≠ w.heap.size; omega⟩, h.sorts, h.most1⟩
  match i, hi with
  | 0, _ => rfl
  | 1, _ => rfl
  | 2, _ => rfl
  | 3, _ => rfl
  | 4, _ => rfl
  | 5, _ => rfl
  | 6, _ => rfl
  | 7, _ => rfl
  | 8, _ => rfl
  | 9, _ => rfl

/-- How far a marker has come, beside a row of its own: the answer. -/
structure RPost (w : World) (q : SPl) (p : HP) (srt : List Inf) (most : Int) (K : MkP) (v : Value) (wr : World) (vv : Value) (mm : MK) (B : Nat) (ao : Option Addr) (n cap : Nat) (os : List Int) : Prop where
  post : MPost w q p srt most K v wr vv mm
  few : Few mm
  out : IntsAt wr B (.slice ao n cap) os
  len : os.length = n
  apart : ∀ k, (Value.slice ao n cap).ownBlock = some k → vv.ownBlock ≠ some k
section
variable {w wr w1 : World} {q : SPl} {p : HP} {srt : List Inf} {most : Int} {K : MkP} {v vv v1 : Value} {mm m1 : MK} {B n cap : Nat} {ao : Option Addr} {os : List Int}
theorem RPost.step (h : RPost w q p srt most K v wr vv mm B ao n cap os) (hB : K.C ≤ B ∧ K.mp < B ∧ K.mb < B) (k : MPost wr q p srt most K vv w1 v1 m1) (hf : Few m1) : RPost w q p srt most K v w1 v1 m1 B ao n cap os := by
  refine ⟨h.post.trans k, hf, h.out.fr k.fr fun b hb hs => ?_, h.len, fun b hb he => ?_⟩
  · have h1 := (h.out.lt b hb).1
    rcases hs with hs | hs | hs | hs
    · have := (h.post.at'.sep b hs).2.2; omega
    · omega
    · omega
    · exact h.apart b hb hs
  · rcases k.grow b he with h1 | h1
    · exact h.apart b hb h1
    · have := (h.out.lt b hb).2; omega
theorem RPost.quiet (h : RPost w q p srt most K v wr vv mm B ao n cap os) (hf : Fr (fun _ => False) wr w1) : RPost w q p srt most K v w1 vv mm B ao n cap os :=
  ⟨h.post.quiet hf, h.few, h.out.fr hf fun _ _ => id, h.len, h.apart⟩
/-- The answer grows by one. -/
theorem RPost.app (h : RPost w q p srt most K v wr vv mm B ao n cap os) (hB : K.C ≤ B ∧ K.mp < B ∧ K.mb < B ∧ w.heap.size ≤ B) {v' : Value} {x : Int} {o : Obj}
    (hown : w1.ownsRow B 3 1 v' (os.length + 1) (os.map (Value.int .i64) ++ [.int .i64 x])) (hg : (wr.alloc o).grownBy w1 (Value.slice ao n cap).ownBlock) (hblk : ∀ k, v'.ownBlock = some k → (Value.slice ao n cap).ownBlock = some k ∨ (wr.alloc o).heap.size ≤ k) :
    ∃ ao' cap', v' = .slice ao' (n + 1) cap' ∧ RPost w q p srt most K v w1 vv mm B ao' (n + 1) cap' (os ++ [x]) := by
  have hi : IntsAt w1 B v' (os ++ [x]) := IntsAt.one hown
  obtain ⟨ao', cap', rfl, _⟩ := hi.shape
  have hl : (os ++ [x]).length = n + 1 := by simp [h.len]
  rw [hl] at hi hblk ⊢
  have hf : Fr (fun k => (Value.slice ao n cap).ownBlock = some k) wr w1 := ((Fr.refl _ wr).alloc _).trans (Fr.of_grown hg fun k hk => hk)
  have hlow := h.post.at'.low
  have hfree : ∀ k, (Value.slice ao n cap).ownBlock = some k → Free q p K vv k := fun k hk => by
    have h1 := (h.out.lt k hk).1
    refine ⟨fun hm => by have := (h.post.at'.sep k hm).2.2; omega, by omega, by omega, by omega, by omega, h.apart k hk⟩
  refine ⟨ao', cap', rfl, ⟨h.post.at'.fr hf hfree, ?_, h.post.grow⟩, h.few, hi, hl, fun k hk he => ?_⟩
  · refine ⟨hf.os.trans h.post.fr.os, hf.tape.trans h.post.fr.tape, hf.output.trans h.post.fr.output, Nat.le_trans h.post.fr.size hf.size, fun b hb hs => ?_⟩
    refine (hf.block b (Nat.lt_of_lt_of_le hb h.post.fr.size) fun he => ?_).trans (h.post.fr.block b hb hs)
    have := (h.out.lt b he).1
    omega
  · rcases hblk k hk with h1 | h1
    · exact h.apart k h1 he
    · have := (h.post.at'.wait.lt k he).2
      simp at h1
      omega
end
/-- Another row of the round's own: the keys. -/
def KRow (wr : World) (vv : Value) (B3 : Nat) (ko : Option Addr) (nk kcap : Nat) (ks : List Int) : Prop := IntsAt wr B3 (.slice ko nk kcap) ks ∧ ∀ k, (Value.slice ko nk kcap).ownBlock = some k → vv.ownBlock ≠ some k
theorem KRow.step {wr w1 : World} {q : SPl} {p : HP} {srt : List Inf} {most : Int} {K : MkP} {vv v1 : Value} {m1 : MK} {B3 nk kcap : Nat} {ko : Option Addr} {ks : List Int} (h : KRow wr vv B3 ko nk kcap ks) (hB : K.C ≤ B3 ∧ K.mp < B3 ∧ K.mb < B3) (k : MPost wr q p srt most K vv w1 v1 m1) : KRow w1 v1 B3 ko nk kcap ks := by
  refine ⟨h.1.fr k.fr fun b hb hs => ?_, fun b hb he => ?_⟩
  · have h1 := (h.1.lt b hb).1
    rcases hs with hs | hs | hs | hs
    · have := (k.at'.sep b hs).2.2; omega
    · omega
    · omega
    · exact h.2 b hb hs
  · rcases k.grow b he with h1 | h1
    · exact h.2 b hb h1
    · have := (h.1.lt b hb).2; omega
def overOf (w : World) (mp : Nat) : Nat := match w.cell? ⟨mp, 4, none⟩ with
  | some (.bool true) => 1
  | _ => 0
theorem MkAt.overOf {w : World} {q : SPl} {p : HP} {srt : List Inf} {most : Int} {K : MkP} {v : Value} {m : MK} (h : MkAt w q p srt most K v m) : overOf w K.mp = if m.over = true then 1 else 0 := by
  unfold Go.Proofs.Ytjfpijoeddjgmaa.overOf
  rw [h.ovr]
  cases m.over <;> rfl
theorem sorted_len (l : List Int) : (sorted l).length = l.length := by unfold sorted; exact List.length_mergeSort _

set_option maxRecDepth 100000 in
set_option maxHeartbeats 8000000 in
theorem round_any {w : World} {q : SPl} {p : HP} {srt : List Inf} {most : Int} {C mp : Nat} {v : Value} {m : MK} (h : MkPre w q p srt most C mp v m) {ro : Option Addr} {rcap : Nat} {zs : List Int} (hz : RootsAt w p C ro zs) :
    Calls Try.prog 86 #[.pointer (some ⟨mp, 0, none⟩), .slice ro zs.length rcap] w fun e w' => ∃ mb v' m' ao cap os, e = .returned (.slice ao zs.length cap) ∧
      Hid (Rnd srt most zs m os m' ∧ MkAt w' q p srt most ⟨C, mp, mb⟩ v' m' ∧ Few m' ∧ IntsAt w' w.heap.size (.slice ao zs.length cap) os ∧ os.length = zs.length ∧ Fr (fun k => p.mine k ∨ k = mp ∨ v.ownBlock = some k) w w' ∧ ∀ k, v'.ownBlock = some k → v.ownBlock = some k ∨ w.heap.size ≤ k) := by
  obtain ⟨i3, hi3, hz0, hz1, hz2⟩ := info_parts info3
  have hst := h.start
  obtain ⟨B, hB⟩ : ∃ B, B = w.heap.size := ⟨_, rfl⟩
  obtain ⟨w0, hw0⟩ : ∃ w0, w0 = (((w.alloc (.map #[] 0)).setCell ⟨mp, 1, none⟩ (.map (some w.heap.size))).setCell ⟨mp, 4, none⟩ (.bool false)).setCell ⟨mp, 5, none⟩ (.bool false) := ⟨_, rfl⟩
  have hw0s : w0.heap.size = B + 1 := by rw [hw0, hB]; simp
  have hF0 : Fr (fun k => k = mp) w w0 := by
    rw [hw0]
    exact ((((Fr.refl (fun k => k = mp) w).alloc _).setCell (S := fun k => k = mp) rfl _).setCell (S := fun k => k = mp) rfl _).setCell (S := fun k => k = mp) rfl _
  have hmk := run_makeMap (P := Try.prog) 67 w
  rw [← hw0, ← hB] at hst
  rw [← hB] at hmk hw0
  obtain ⟨K, hK⟩ : ∃ K : MkP, K = ⟨C, mp, B⟩ := ⟨_, rfl⟩
  rw [← hK] at hst
  obtain ⟨m0, hm0⟩ : ∃ m0 : MK, m0 = { m with seen := [], over := false, moved := false } := ⟨_, rfl⟩
  rw [← hm0] at hst
  have hblt : mp < B := by obtain ⟨mv, a, b, c, hb, _⟩ := h.st; rw [hB]; exact hb.lt
  have HKB : Hid (K.C ≤ B + 1 ∧ K.mp < B + 1 ∧ K.mb < B + 1 ∧ w0.heap.size ≤ B + 1) := by
    rw [hK, hw0s]
    have := h.low
    show C ≤ B + 1 ∧ mp < B + 1 ∧ B < B + 1 ∧ B + 1 ≤ B + 1
    omega
  have HR0 : Hid (RPost w0 q p srt most K v w0 v m0 (B + 1) none 0 0 []) := by
    refine ⟨MPost.refl hst, ?_, IntsAt.nil _ _, rfl, fun k hk => by cases hk⟩
    rw [hm0]
    show m.wait.length ≤ 0
    rw [h.nowait]; exact Nat.le_refl _
  obtain ⟨n, hn⟩ : ∃ n, n = zs.length := ⟨_, rfl⟩
  have hn6 : n ≤ 1000000 := by rw [hn]; exact hz.2.2
  have HZ := Lib.hid hz
  have HN := Lib.hid hn
  have HM0 := Lib.hid hm0
  have HK := Lib.hid hK
  have HW0 := Lib.hid hw0
  have HF0 := Lib.hid hF0
  have HB := Lib.hid hB
  have HOWN : Hid (∀ k, v.ownBlock = some k → k < B) := by rw [hB]; exact fun k hk => (h.wait.lt k hk).2
  have HSEP : Hid (∀ k, p.mine k → k < C ∧ C ≤ mp ∧ mp < B) := fun k hk => ⟨(h.sep k hk).2.2, h.low.2.2, hblt⟩
  obtain ⟨mv, a, b, c, hblk, _⟩ := h.st
  have hbA := hblk.alloc (.map #[] 0)
  have cA1 := hbA.cell (i := 1) (by omega)
  have cA4 := hbA.cell (i := 4) (by omega)
  have cA5 := hbA.cell (i := 5) (by omega)
  have fA1 := hbA.frozen 1
  have fA4 := hbA.frozen 4
  have fA5 := hbA.frozen 5
  have HKM : Hid (K.mp = mp ∧ K.mb = B ∧ K.C = C) := by rw [hK]; exact ⟨rfl, rfl, rfl⟩
  have HROOT : Hid (∀ wr, Fr (MS p K v) w0 wr → ∀ i, i < zs.length → ∃ b off, ro = some ⟨b, off, none⟩ ∧ wr.cell? ⟨b, off + i, none⟩ = some (.int .i64 (zs.getD i 0))) := by
    intro wr hf i hi
    obtain ⟨b, off, rfl, hb, hm, hc⟩ := hz.1.resolve_left (by omega)
    have h1 := h.low
    refine ⟨b, off, rfl, hf.cell (hF0.cell (hc i hi) (by show ¬ (b = mp); omega)) ?_⟩
    rintro (h2 | h2 | h2 | h2)
    · exact hm h2
    · have h2' : b = K.mp := h2
      rw [hK] at h2'
      have h3 : b = mp := h2'
      omega
    · have h2' : b = K.mb := h2
      rw [hK] at h2'
      have h3 : b = B := h2'
      omega
    · have := (h.wait.lt b h2).1; omega
  have HLOW := Lib.hid h.low
  have HSN : Hid (m0.s.n = m.s.n) := by show _ = _; rw [hm0]
  have hb' := hB.symm
  obtain ⟨N, hNN⟩ : ∃ N, N = 32 * m.s.n := ⟨_, rfl⟩
  have HNN := Lib.hid hNN
  have HN2 : Hid (m.s.n ≤ 2048) := by obtain ⟨_, _, _, _, _, _, _, _, h2⟩ := h.heap; exact h2
  have HW0S : Hid (w0.heap.size = B + 1) := hw0s
  rw [← hn]
  clear hst hw0 hF0 hK hm0 hn hz hB h hblk hbA hNN hw0s hblt
  go_enter Try.func86, Try.ntmps86
  go_wp2
  go_loopw [5, 22] (fun v5 v22 wr => ∃ ao cap, ∃ i : Nat, ∃ vv mm os, v5 = .slice ao i cap ∧ v22 = .int .i64 i ∧ i ≤ n ∧ Hid (RPost w0 q p srt most K v wr vv mm (B + 1) ao i cap os ∧ ∀ os' m', Rts srt most (zs.drop i) mm os' m' → Rts srt most zs m0 (os ++ os') m')) (fun _ v22 _ => n - (intOf v22).toNat)
  case atStart =>
    refine ⟨none, 0, 0, v, m0, [], rfl, rfl, by omega, ?_⟩
    rw [← HW0.out]
    exact ⟨HR0.out, fun os' m' h => by simpa using h⟩
  case round =>
    obtain ⟨ao, cap, i, vv, mm, os, rfl, rfl, hi, hI⟩ := hrel
    clear cA1 cA4 cA5 fA1 fA4 fA5 hmk hb'
    by_cases hin : i < n
    · have hil : i < zs.length := by rw [← HN.out]; exact hin
      obtain ⟨b, off, rfl, hc⟩ := HROOT.out wr hI.out.1.post.fr i hil
      obtain ⟨z, hz⟩ : ∃ z, z = zs.getD i 0 := ⟨_, rfl⟩
      rw [← hz] at hc
      have HREA := reach_any hI.out.1.post.at' hI.out.1.few z (by rw [hz]; exact HZ.out.2.1 _ (getD_mem hil))
      rw [HKM.out.1] at HREA
      have HREA := Lib.hid HREA
      have HZE := Lib.hid hz
      clear hz
      go_wp2_with fail
      refine HREA.out.mono ?_
      rintro e w2 ⟨r, v2, m2, rfl, hr⟩
      have HR2 : Hid (RPost w0 q p srt most K v w2 v2 m2 (B + 1) ao i cap os) := hI.out.1.step ⟨HKB.out.1, HKB.out.2.1, HKB.out.2.2.1⟩ hr.out.2.1 (hr.out.1.few hI.out.1.few)
      have HCT : Hid (∀ m3 os' m', Dra srt most m2 m3 → Rts srt most (zs.drop (i + 1)) m3 os' m' → Rts srt most zs m0 (os ++ r :: os') m') := fun m3 os' m' hd hn => by
        refine hI.out.2 _ _ ?_
        rw [drop_get hil, ← HZE.out]
        exact Rts.cons hr.out.1 hd hn
      have hosl := HR2.out.len
      clear hr HREA hc hI
      go_wp2_with (first
        | (at_builtin; refine wpList_append_blk _ rfl _ _ 29 rfl (B + 1) 3 i3 (.int .i64 0) 1 8 Try.underlying29 hi3 hz0 hz1 hz2 rfl (by decide) _ _ _ rfl (HR2.out.out.alloc _) ⟨w2.heap.size, 0, none⟩ 1 1 [.int .i64 r] rfl rfl (cell_one_new _ _ _) (fun u hu => by simp at hu; subst hu; rfl) (by rw [hosl]; unfold maxLen; omega) (by rw [hosl]; omega) (by have := HR2.out.post.fr.size; have := HW0S.out; simp; omega) ?_))
      intro v' w4 hown' hgrow hblk
      obtain ⟨ao4, cap4, rfl, hR4⟩ := HR2.out.app HKB.out (by rw [hosl]; exact hown') hgrow (fun k hk => (hblk k hk).imp id fun h => by first | exact h | (simp; omega))
      have HR4 := Lib.hid hR4
      have HDR := drain_any hR4.post.at' hR4.few
      rw [HKM.out.1] at HDR
      have HDR := Lib.hid HDR
      clear hR4 hown' hgrow hblk HR2 hosl
      go_wp2_with fail
      refine HDR.out.mono ?_
      rintro e w5 ⟨v5, m5, rfl, hd⟩
      have HR5 : Hid (RPost w0 q p srt most K v w5 v5 m5 (B + 1) ao4 (i + 1) cap4 (os ++ [r])) := HR4.out.step ⟨HKB.out.1, HKB.out.2.1, HKB.out.2.2.1⟩ hd.out.2.1 hd.out.2.2
      have HC5 : Hid (∀ os' m', Rts srt most (zs.drop (i + 1)) m5 os' m' → Rts srt most zs m0 (os ++ [r] ++ os') m') := fun os' m' hn => by
        have := HCT.out m5 os' m' hd.out.1 hn
        simpa using this
      clear hd HDR HR4 HCT
      go_wp2
      go_roundw
      case rel => exact ⟨ao4, cap4, i + 1, v5, m5, os ++ [r], by first | rfl | go_num, by go_num, by omega, HR5.out, HC5.out⟩
      case measure => simp [intOf]; omega
    · have hin2 : i = n := by omega
      subst hin2
      have hrts : Rts srt most zs m0 os mm := by
        have := hI.out.2 [] mm (by rw [List.drop_eq_nil_of_le (by rw [← HN.out]; exact Nat.le_refl _)]; exact Rts.nil)
        simpa using this
      have HRTS := Lib.hid hrts
      clear hrts
      have HR1 := Lib.hid hI.out.1
      have HMN : Hid (mm.s.n = m.s.n) := HRTS.out.n.trans HSN.out
      clear hI
      go_wp2
      go_loopw [9] (fun v9 wr => ∃ u9 vv m2, u9 = v9 ∧ Hid (RPost w0 q p srt most K v wr vv m2 (B + 1) ao i cap os ∧ m2.s.n = m.s.n ∧ ∀ m', Agn srt most m2 m' → Agn srt most mm m')) (fun _ wr => 2 * (N - setLen wr B) + overOf wr mp)
      case atStart => exact ⟨_, vv, mm, rfl, HR1.out, HMN.out, fun m' h => h⟩
      case round =>
        obtain ⟨u9, v2, m2, rfl, hJ⟩ := hrel
        clear HR1 HMN
        have hM := hJ.out.1.post.at'
        have h4 := hM.ovr
        have h9 := hM.err
        have z4 := hM.frz 4
        have z7 := hM.frz 7
        obtain ⟨pa, pb, pc, n6, n7, n8, hpab⟩ := hM.nums
        have h1c := hM.map
        rw [HKM.out.1] at h4 h9 z4 z7 n7 h1c
        rw [HKM.out.2.1] at h1c
        have hml : 2 * (N - setLen wr B) + overOf wr mp = 2 * (N - m2.seen.length) + (if m2.over = true then 1 else 0) := by
          have h1 := hM.seen.len
          have h2 := hM.overOf
          rw [HKM.out.2.1] at h1
          rw [HKM.out.1] at h2
          rw [h1, h2]
        have HML := Lib.hid hml
        obtain ⟨e, he⟩ : ∃ e, e = m2.e := ⟨_, rfl⟩
        obtain ⟨ov, hov⟩ : ∃ ov, ov = m2.over := ⟨_, rfl⟩
        rw [← he] at h9
        rw [← hov] at h4
        have HFINAL : Hid ((ov = false ∨ e ≠ 0) → ∃ mb v' m' cap' os', Hid (Rnd srt most zs m os' m' ∧ MkAt wr q p srt most ⟨C, mp, mb⟩ v' m' ∧ Few m' ∧ IntsAt wr w.heap.size (.slice ao i cap') os' ∧ os'.length = i ∧ Fr (fun k => p.mine k ∨ k = mp ∨ v.ownBlock = some k) w wr ∧ ∀ k, v'.ownBlock = some k → v.ownBlock = some k ∨ w.heap.size ≤ k) ∧ cap' = cap) := by
          intro hs
          refine ⟨B, v2, m2, cap, os, ⟨⟨mm, ?_, hJ.out.2.2 m2 (Agn.stop (by rw [← he, ← hov]; exact hs))⟩, ?_, hJ.out.1.few, hJ.out.1.out.mono ?_, hJ.out.1.len, ?_, fun k hk => ?_⟩, rfl⟩
          · rw [← HM0.out]; exact HRTS.out
          · rw [← HK.out]; exact hM
          · rw [← HB.out]; omega
          · refine ⟨hJ.out.1.post.fr.os.trans HF0.out.os, hJ.out.1.post.fr.tape.trans HF0.out.tape, hJ.out.1.post.fr.output.trans HF0.out.output, Nat.le_trans HF0.out.size hJ.out.1.post.fr.size, fun k hk hS => ?_⟩
            have hk' : k < w0.heap.size := Nat.lt_of_lt_of_le hk HF0.out.size
            refine (hJ.out.1.post.fr.block k hk' ?_).trans (HF0.out.block k hk fun (h : k = mp) => hS (.inr (.inl h)))
            rintro (h | h | h | h)
            · exact hS (.inl h)
            · rw [HKM.out.1] at h; exact hS (.inr (.inl h))
            · rw [HKM.out.2.1] at h; have := HB.out; omega
            · exact hS (.inr (.inr h))
          · rcases hJ.out.1.post.grow k hk with h | h
            · exact .inl h
            · have := HF0.out.size; exact .inr (by omega)
        have HE := Lib.hid he
        have HOV := Lib.hid hov
        have HJ := Lib.hid hJ.out
        clear hJ hM he hov hpab hml n6 n8
        cases ov with
        | false =>
          obtain ⟨mb, v', m', cap', os', hfin, rfl⟩ := HFINAL.out (.inl rfl)
          clear HFINAL
          go_wp2
          go_ret
          exact ⟨mb, v', m', _, _, os', rfl, hfin⟩
        | true =>
          by_cases he0 : e = 0
          · have hm3 : Hid (MPost wr q p srt most K v2 ((wr.setCell ⟨mp, 4, none⟩ (.bool false)).setCell ⟨mp, 7, none⟩ (.int .i64 (wrap64 (pb + 1)))) v2 { m2 with over := false }) := by
              have h1 := (HJ.out.1.post.at'.setOver false).setAgain (wrap64 (pb + 1))
              rw [HKM.out.1] at h1
              exact ⟨h1, ((Fr.refl _ wr).setCell (.inr (.inl HKM.out.1.symm)) _).setCell (.inr (.inl HKM.out.1.symm)) _, fun k hk => .inl hk⟩
            subst he0
            clear HFINAL
            obtain ⟨w3, hw3⟩ : ∃ w3, w3 = (wr.setCell ⟨mp, 4, none⟩ (.bool false)).setCell ⟨mp, 7, none⟩ (.int .i64 (wrap64 (pb + 1))) := ⟨_, rfl⟩
            rw [← hw3] at hm3
            obtain ⟨m3, hm3e⟩ : ∃ m3 : MK, m3 = { m2 with over := false } := ⟨_, rfl⟩
            rw [← hm3e] at hm3
            have HMP3 := Lib.hid hm3.out
            have HR3 : Hid (RPost w0 q p srt most K v w3 v2 m3 (B + 1) ao i cap os) := HJ.out.1.step ⟨HKB.out.1, HKB.out.2.1, HKB.out.2.2.1⟩ hm3.out (by rw [hm3e]; exact HJ.out.1.few)
            have h13 := HR3.out.post.at'.map
            rw [HKM.out.1, HKM.out.2.1] at h13
            have hs3 := HR3.out.post.at'.seen
            rw [HKM.out.2.1] at hs3
            have hm3n : m3.s.n = m.s.n := by rw [hm3e]; exact HJ.out.2.1
            have HSRT := Lib.hid (sorted_any hs3 HR3.out.post.at'.rng (by rw [hm3n]; exact HN2.out))
            have HKEYS : Hid (∀ W, Calls Try.prog 88 #[.map (some B)] W fun e w' => e = .returned (.func (.func 101) #[] #[.pointer (some ⟨W.heap.size, 0, none⟩)]) ∧ w' = W.alloc (.cells #[.map (some B)] 67)) := fun W => keys_any (some B) W
            obtain ⟨nk, hnk⟩ : ∃ nk, nk = m3.seen.length := ⟨_, rfl⟩
            rw [← hnk] at HSRT
            have hnk6 : nk ≤ 65536 := by
              have h1 := inR_len HR3.out.post.at'.seen.nodup HR3.out.post.at'.rng
              have h2 := HN2.out
              rw [hm3n] at h1
              omega
            have HNK : Hid ((sorted m3.seen).length = nk) := by show _ = _; rw [sorted_len, hnk]
            have HM3E := Lib.hid hm3e
            have HM3N := Lib.hid hm3n
            have HW3 := Lib.hid hw3
            have HWS : Hid (B + 1 ≤ w3.heap.size) := by
              have h1 := HR3.out.post.fr.size
              have h2 := HW0S.out
              show _ ≤ _
              omega
            clear hm3 hm3e hm3n hs3 hnk hw3
            go_upto_region 12 with fail
            rw [← HW3.out]
            clear z4 z7 n7 h4 h9 h1c
            go_wp2_with fail
            refine (HKEYS.out _).mono ?_
            rintro e w4 ⟨rfl, rfl⟩
            go_wp2_with fail
            refine HSRT.out.mono ?_
            rintro e w5 ⟨ko, kcap, rfl, hk5⟩
            have HR5 : Hid (RPost w0 q p srt most K v w5 v2 m3 (B + 1) ao i cap os ∧ KRow w5 v2 w3.heap.size ko nk kcap (sorted m3.seen)) := by
              have hf : Fr (fun _ => False) w3 w5 := Fr.of_below hk5.out.2.1
              refine ⟨HR3.out.quiet hf, hk5.out.1, fun k hk he => ?_⟩
              have h1 := (hk5.out.1.lt k hk).1
              have h2 := (HR3.out.post.at'.wait.lt k he).2
              omega
            clear hk5 HSRT HKEYS h13
            go_wp2
            go_loopw [65] (fun v65 wr => ∃ j : Nat, ∃ v6 m6, v65 = .int .i64 j ∧ j ≤ nk ∧ Hid (RPost w0 q p srt most K v wr v6 m6 (B + 1) ao i cap os ∧ KRow wr v6 w3.heap.size ko nk kcap (sorted m3.seen) ∧ ∀ m', Swp srt most ((sorted m3.seen).drop j) m6 m' → Swp srt most (sorted m3.seen) m3 m')) (fun v65 _ => nk - (intOf v65).toNat)
            case atStart => exact ⟨0, v2, m3, rfl, by omega, HR5.out.1, HR5.out.2, fun m' h => by simpa using h⟩
            case round =>
              obtain ⟨j, v6, m6, rfl, hj, hS⟩ := hrel
              clear HR5
              by_cases hjn : j < nk
              · have hjl : j < (sorted m3.seen).length := by rw [HNK.out]; exact hjn
                obtain ⟨g, rfl, hg, hc⟩ := IntsAt.elem hS.out.2.1.1 hjl
                obtain ⟨x, hx⟩ : ∃ x, x = (sorted m3.seen).getD j 0 := ⟨_, rfl⟩
                rw [← hx] at hc
                have HBEL := below_any hS.out.1.post.at' hS.out.1.few x
                rw [HKM.out.1] at HBEL
                have HBEL := Lib.hid HBEL
                have HX := Lib.hid hx
                clear hx hg
                go_wp2_with fail
                refine HBEL.out.mono ?_
                rintro e w6 ⟨v7, m7, rfl, hb7⟩
                have HR7 : Hid (RPost w0 q p srt most K v w6 v7 m7 (B + 1) ao i cap os ∧ KRow w6 v7 w3.heap.size (some ⟨g, 0, none⟩) nk kcap (sorted m3.seen)) :=
                  ⟨hS.out.1.step ⟨HKB.out.1, HKB.out.2.1, HKB.out.2.2.1⟩ hb7.out.2.1 hb7.out.2.2, hS.out.2.1.step (by have h1 := HKB.out; have h2 := HWS.out; omega) hb7.out.2.1⟩
                have HDR := drain_any HR7.out.1.post.at' HR7.out.1.few
                rw [HKM.out.1] at HDR
                have HDR := Lib.hid HDR
                have HC7 : Hid (∀ m8 m', Dra srt most m7 m8 → Swp srt most ((sorted m3.seen).drop (j + 1)) m8 m' → Swp srt most (sorted m3.seen) m3 m') := fun m8 m' hd hn => by
                  refine hS.out.2.2 m' ?_
                  rw [drop_get hjl, ← HX.out]
                  exact Swp.cons hb7.out.1 hd hn
                clear hb7 HBEL hc hS
                go_wp2_with fail
                refine HDR.out.mono ?_
                rintro e w8 ⟨v8, m8, rfl, hd8⟩
                have HR8 : Hid (RPost w0 q p srt most K v w8 v8 m8 (B + 1) ao i cap os ∧ KRow w8 v8 w3.heap.size (some ⟨g, 0, none⟩) nk kcap (sorted m3.seen)) :=
                  ⟨HR7.out.1.step ⟨HKB.out.1, HKB.out.2.1, HKB.out.2.2.1⟩ hd8.out.2.1 hd8.out.2.2, HR7.out.2.step (by have h1 := HKB.out; have h2 := HWS.out; omega) hd8.out.2.1⟩
                have HC8 := Lib.hid (fun m' hn => HC7.out m8 m' hd8.out.1 hn)
                clear hd8 HDR HR7 HC7
                go_wp2
                go_roundw
                case rel => exact ⟨j + 1, v8, m8, by go_num, by omega, HR8.out.1, HR8.out.2, HC8.out⟩
                case measure => simp [intOf]; omega
              · have hjn2 : j = nk := by omega
                have hsw : Swp srt most (sorted m3.seen) m3 m6 := hS.out.2.2 m6 (by rw [List.drop_eq_nil_of_le (by rw [HNK.out]; omega)]; exact Swp.nil)
                have HSW := Lib.hid hsw
                have HR6 := Lib.hid hS.out.1
                have HSN6 : Hid (m6.s.n = m.s.n) := hsw.n.trans HM3N.out
                have HMEAS : Hid (2 * (N - setLen wr B) + overOf wr mp < 2 * (N - m2.seen.length) + 1) := by
                  have h1 := HR6.out.post.at'.seen
                  have h2 := HR6.out.post.at'.overOf
                  have h3 := inR_len h1.nodup HR6.out.post.at'.rng
                  rw [HKM.out.2.1] at h1
                  rw [HKM.out.1] at h2
                  have h4 := h1.len
                  have h5 := hsw.ovr
                  rw [HSN6.out, ← HNN.out] at h3
                  rw [HM3E.out] at h5
                  have h6 := h5.1
                  have h7 := h5.2
                  show _ < _
                  rw [h2, h4]
                  simp only at h6 h7
                  by_cases ho : m6.over = true
                  · rw [if_pos ho]
                    rcases h7 ho with h8 | h8
                    · cases h8
                    · omega
                  · rw [if_neg ho]; omega
                clear hS hsw
                subst hjn2
                go_wp2
                go_roundw
                case rel => exact ⟨_, v6, m6, rfl, HR6.out, HSN6.out, fun m' h => HJ.out.2.2 m' (Agn.step HOV.out.symm HE.out.symm (by have := HSW.out; rw [HM3E.out] at this; exact this) h)⟩
                case measure =>
                  have h1 := HML.out
                  have h2 := HMEAS.out
                  rw [h1, ← HOV.out]
                  exact h2
          · have he0' : (e == 0) = false := by simpa using he0
            obtain ⟨mb, v', m', cap', os', hfin, rfl⟩ := HFINAL.out (.inr he0)
            clear HFINAL he0
            go_wp2
            go_ret
            exact ⟨mb, v', m', _, _, os', rfl, hfin⟩
end Go.Proofs.Ytjfpijoeddjgmaa
