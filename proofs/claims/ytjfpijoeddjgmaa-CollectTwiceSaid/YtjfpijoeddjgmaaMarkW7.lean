/- Mark. Conditions: the store's memory reads as the plain model says; the rounds come to an end. -/
import Derived.Test.YtjfpijoeddjgmaaMarkW6
import Derived.Deep.LoopGhost
namespace Go.Proofs.Ytjfpijoeddjgmaa
open Go.RowKit Hm
set_option linter.unusedVariables false

def statCell (a b c : Int) : Nat → Value
  | 0 => .int .i64 a
  | 1 => .int .i64 b
  | _ => .int .i64 c
/-- A marker between rounds: where it stands when it goes on, and when it has ended. -/
structure Mid (w wr : World) (q : SPl) (p : HP) (srt : List Inf) (most : Int) (mp : Nat) (ro : Option Addr) (zs : List Int) (Good : HS → Prop) (m0 : MK) (k : Nat) (μ : HS → Nat) (x : Value) (vv : Value) (mm : MK) : Prop where
  c5 : wr.cell? ⟨mp, 5, none⟩ = some (.bool mm.moved)
  c9 : wr.cell? ⟨mp, 9, none⟩ = some (.int .i64 mm.e)
  run : mm.moved = true → mm.e = 0 → MkPre wr q p srt most w.heap.size mp vv mm ∧ Good mm.s ∧ μ mm.s + 1 ≤ k ∧ ∀ o1 m1, Rnd srt most zs mm o1 m1 → ∀ o' m', Rds srt most zs o1 m1 o' m' → Rds srt most zs [] m0 o' m'
  fin : ¬ (mm.moved = true ∧ mm.e = 0) → ∃ mb ao cap out, x = .slice ao zs.length cap ∧ MkAt wr q p srt most ⟨w.heap.size, mp, mb⟩ vv mm ∧ IntsAt wr w.heap.size (.slice ao zs.length cap) out ∧ out.length = zs.length ∧ Rds srt most zs [] m0 out mm ∧ ∀ k, (Value.slice ao zs.length cap).ownBlock = some k → mp < k
  fr : Fr p.mine w wr
  tb : BlkAt wr w.heap.size 49 3 (statCell 0 0 0)
  own : ∀ k, vv.ownBlock = some k → mp < k
/-- What Mark answers. -/
def MarkPost (w : World) (p : HP) (srt : List Inf) (most : Int) (zs : List Int) (m0 : MK) (e : Ending) (w' : World) : Prop :=
  ∃ out m', Rds srt most zs [] m0 out m' ∧ HeapAt w' p m'.s ∧ Fr p.mine w w' ∧
    ((m'.e ≠ 0 ∧ e = .returned (.tuple #[.slice none 0 0, .slice none 0 0, .agg #[.int .i64 0, .int .i64 0, .int .i64 0], .int .i64 m'.e])) ∨
     (m'.e = 0 ∧ ∃ (a1 : Option Addr) (c1 : Nat) (a2 : Option Addr) (c2 : Nat) (pa pb pc : Int), e = .returned (.tuple #[.slice a1 m'.seen.length c1, .slice a2 zs.length c2, .agg #[.int .i64 pa, .int .i64 pb, .int .i64 pc], .int .i64 0]) ∧
        IntsAt w' w.heap.size (.slice a1 m'.seen.length c1) (sorted m'.seen) ∧ IntsAt w' w.heap.size (.slice a2 zs.length c2) out ∧ out.length = zs.length ∧ 0 ≤ pa ∧ pa ≤ most))

theorem RootsAt.fr {w w' : World} {p : HP} {C : Nat} {ro : Option Addr} {zs : List Int} (h : RootsAt w p C ro zs) (hf : Fr p.mine w w') : RootsAt w' p C ro zs := by
  obtain ⟨h1, h2, h3⟩ := h
  refine ⟨h1.imp id ?_, h2, h3⟩
  rintro ⟨b, off, rfl, hb, hm, hc⟩
  exact ⟨b, off, rfl, hb, hm, fun j hj => hf.cell (hc j hj) hm⟩
theorem mark_pre {w : World} {q : SPl} {p : HP} {srt : List Inf} {s : HS} {most : Int} (hA : HeapAt w p s) (hS : StoreAt w q p srt) (hsep : ∀ k, p.mine k → k ≠ q.sp ∧ k ≠ q.sb) (hso : SortsOk srt) (hmost : 1 ≤ most) :
    MkPre ((w.alloc (.cells #[.int .i64 0, .int .i64 0, .int .i64 0] 49)).alloc (.cells #[.pointer (some ⟨q.sp, 0, none⟩), .map none, .slice none 0 0, .int .i64 most, .bool false, .bool true, .int .i64 0, .int .i64 0, .int .i64 0, .int .i64 0] 151)) q p srt most w.heap.size (w.heap.size + 1) (.slice none 0 0) ⟨s, [], [], false, true, 0⟩ ∧
    BlkAt ((w.alloc (.cells #[.int .i64 0, .int .i64 0, .int .i64 0] 49)).alloc (.cells #[.pointer (some ⟨q.sp, 0, none⟩), .map none, .slice none 0 0, .int .i64 most, .bool false, .bool true, .int .i64 0, .int .i64 0, .int .i64 0, .int .i64 0] 151)) w.heap.size 49 3 (statCell 0 0 0) ∧
    Fr p.mine w ((w.alloc (.cells #[.int .i64 0, .int .i64 0, .int .i64 0] 49)).alloc (.cells #[.pointer (some ⟨q.sp, 0, none⟩), .map none, .slice none 0 0, .int .i64 most, .bool false, .bool true, .int .i64 0, .int .i64 0, .int .i64 0, .int .i64 0] 151)) := by
  have hf : Fr (fun _ => False) w ((w.alloc (.cells #[.int .i64 0, .int .i64 0, .int .i64 0] 49)).alloc (.cells #[.pointer (some ⟨q.sp, 0, none⟩), .map none, .slice none 0 0, .int .i64 most, .bool false, .bool true, .int .i64 0, .int .i64 0, .int .i64 0, .int .i64 0] 151)) := ((Fr.refl _ w).alloc _).alloc _
  have hl := hA.lt
  have h1 := hS.st.lt
  have h2 := hS.so.lt
  refine ⟨⟨hA.fr hf fun _ _ => id, hS.fr hf id id, ⟨.map none, 0, 0, 0, ?_, by omega, by omega⟩, IntsAt.nil _ _, fun k hk => ⟨(hsep k hk).1, (hsep k hk).2, hl k hk⟩, ⟨h1, h2, by omega⟩, (fun k hk => by cases hk), hso, hmost, rfl⟩, ?_, Fr.any hf⟩
  · have := blk_new (w.alloc (.cells #[.int .i64 0, .int .i64 0, .int .i64 0] 49)) 151 #[.pointer (some ⟨q.sp, 0, none⟩), .map none, .slice none 0 0, .int .i64 most, .bool false, .bool true, .int .i64 0, .int .i64 0, .int .i64 0, .int .i64 0] 10 (upd (mcells q 0 (.slice none 0 0) most ⟨s, [], [], false, true, 0⟩ 0 0 0) 1 (.map none)) rfl
    simpa using this
  · exact (blk_new w 49 _ 3 (statCell 0 0 0) rfl).alloc _

/-- What Mark's last region leaves in its slots. -/
def Smark (mp mb nk n : Nat) (ao : Option Addr) (cap : Nat) (pa pb pc : Int) (B : Nat) (ks : List Int) : Nat → Value → World → Prop
  | 0, v, _ => v = .pointer (some ⟨mp, 0, none⟩)
  | 1, v, _ => v = .pointer (some ⟨mp, 0, none⟩)
  | 2, v, _ => v = .pointer (some ⟨mp, 1, none⟩)
  | 3, v, _ => v = .map (some mb)
  | 4, v, _ => v = .func (.func 101) #[] #[.pointer (some ⟨B, 0, none⟩)]
  | 5, v, w => ∃ a1 c1, v = .slice a1 nk c1 ∧ IntsAt w B (.slice a1 nk c1) ks
  | 6, v, _ => v = .slice ao n cap
  | 7, v, _ => v = .pointer (some ⟨mp, 0, none⟩)
  | 8, v, _ => v = .pointer (some ⟨mp, 0, none⟩)
  | 9, v, _ => v = .pointer (some ⟨mp, 6, none⟩)
  | 10, v, _ => v = .agg #[.int .i64 pa, .int .i64 pb, .int .i64 pc]
  | 11, v, w => ∃ a1 c1, v = .slice a1 nk c1 ∧ IntsAt w B (.slice a1 nk c1) ks
  | 12, v, _ => v = .slice ao n cap
  | 14, v, _ => v = .int .i64 0
  | _, _, _ => True
theorem Smark.fr {mp mb nk n cap B tb : Nat} {ao : Option Addr} {pa pb pc : Int} {ks : List Int} {j : Nat} {v : Value} {w w' : World} (h : Smark mp mb nk n ao cap pa pb pc B ks j v w) (hf : Fr (fun k => k = tb) w w') (hB : tb < B) : Smark mp mb nk n ao cap pa pb pc B ks j v w' := by
  match j with
  | 0 => exact h
  | 1 => exact h
  | 2 => exact h
  | 3 => exact h
  | 4 => exact h
  | 5 =>
    obtain ⟨a1, c1, h1, h2⟩ := h
    exact ⟨a1, c1, h1, h2.kept hf fun k (hk : k = tb) => by omega⟩
  | 6 => exact h
  | 7 => exact h
  | 8 => exact h
  | 9 => exact h
  | 10 => exact h
  | 11 =>
    obtain ⟨a1, c1, h1, h2⟩ := h
    exact ⟨a1, c1, h1, h2.kept hf fun k (hk : k = tb) => by omega⟩
  | 12 => exact h
  | 13 => exact h
  | 14 => exact h
  | j + 15 => exact trivial
structure JMark (wr : World) (tb mb : Nat) (pa pb pc : Int) (D : Nat → Bool) (w' : World) : Prop where
  fr : Fr (fun k => k = tb) wr w'
  w0 : D 4 = false → w' = wr.drew
  w1 : D 4 = true → D 5 = false → w' = wr.drew.alloc (.cells #[.map (some mb)] 67)
  t0 : D 13 = false → BlkAt w' tb 49 3 (statCell 0 0 0)
  t1 : D 13 = true → BlkAt w' tb 49 3 (statCell pa pb pc)
section
variable {wr w' : World} {tb mb : Nat} {pa pb pc : Int} {D : Nat → Bool}
theorem JMark.other (h : JMark wr tb mb pa pb pc D w') {i : Nat} (h4 : 4 ≠ i) (h5 : 5 ≠ i) (h13 : 13 ≠ i) : JMark wr tb mb pa pb pc (upd D i true) w' :=
  ⟨h.fr, fun hd => h.w0 (by rwa [upd_other _ _ h4] at hd), fun hd he => h.w1 (by rwa [upd_other _ _ h4] at hd) (by rwa [upd_other _ _ h5] at he), fun hd => h.t0 (by rwa [upd_other _ _ h13] at hd), fun hd => h.t1 (by rwa [upd_other _ _ h13] at hd)⟩
theorem JMark.four (h : JMark wr tb mb pa pb pc D wr.drew) (h5 : D 5 = false) (h13 : D 13 = false) : JMark wr tb mb pa pb pc (upd D 4 true) (wr.drew.alloc (.cells #[.map (some mb)] 67)) :=
  ⟨h.fr.alloc _, fun hd => (by rw [upd_same] at hd; cases hd), fun _ _ => rfl, fun _ => (h.t0 h13).alloc _, fun hd => (by rw [upd_other _ _ (by decide), h13] at hd; cases hd)⟩
theorem JMark.five (h : JMark wr tb mb pa pb pc D (wr.drew.alloc (.cells #[.map (some mb)] 67))) (hf : Fr (fun _ => False) (wr.drew.alloc (.cells #[.map (some mb)] 67)) w') (h4 : D 4 = true) (h13 : D 13 = false) : JMark wr tb mb pa pb pc (upd D 5 true) w' :=
  ⟨h.fr.trans (Fr.any hf), fun hd => (by rw [upd_other _ _ (by decide), h4] at hd; cases hd), fun _ hd => (by rw [upd_same] at hd; cases hd), fun _ => (h.t0 h13).fr hf id, fun hd => (by rw [upd_other _ _ (by decide), h13] at hd; cases hd)⟩
theorem JMark.thirteen (h : JMark wr tb mb pa pb pc D w') (hb : BlkAt w' tb 49 3 (statCell 0 0 0)) (h4 : D 4 = true) (h5 : D 5 = true) : JMark wr tb mb pa pb pc (upd D 13 true) (((w'.setCell ⟨tb, 0, none⟩ (.int .i64 pa)).setCell ⟨tb, 1, none⟩ (.int .i64 pb)).setCell ⟨tb, 2, none⟩ (.int .i64 pc)) :=
  ⟨((h.fr.setCell (S := fun k => k = tb) rfl _).setCell (S := fun k => k = tb) rfl _).setCell (S := fun k => k = tb) rfl _, fun hd => (by rw [upd_other _ _ (by decide), h4] at hd; cases hd), fun _ hd => (by rw [upd_other _ _ (by decide), h5] at hd; cases hd), fun hd => (by rw [upd_same] at hd; cases hd), fun _ => (((hb.store 0 _).store 1 _).store 2 _).congr fun i hi => by
    match i, hi with
    | 0, _ => rfl
    | 1, _ => rfl
    | 2, _ => rfl⟩
end

set_option maxRecDepth 100000 in
set_option maxHeartbeats 8000000 in
theorem mark_any {w : World} {q : SPl} {p : HP} {srt : List Inf} {s : HS} {most : Int} (hA : HeapAt w p s) (hS : StoreAt w q p srt) (hsep : ∀ k, p.mine k → k ≠ q.sp ∧ k ≠ q.sb) (hso : SortsOk srt) (hmost : 1 ≤ most)
    {ro : Option Addr} {rcap : Nat} {zs : List Int} (hz : RootsAt w p w.heap.size ro zs) (Good : HS → Prop) (μ : HS → Nat) (hg : Good s)
    (hdec : ∀ m out m', Good m.s → m.e = 0 → m.wait = [] → Rnd srt most zs m out m' → m'.e = 0 → m'.wait = [] ∧ Good m'.s ∧ (m'.moved = true → μ m'.s < μ m.s)) :
    Calls Try.prog 51 #[.pointer (some ⟨q.sp, 0, none⟩), .slice ro zs.length rcap, .int .i64 most] w fun e w' => Hid (MarkPost w p srt most zs ⟨s, [], [], false, true, 0⟩ e w') := by
  obtain ⟨B, hB⟩ : ∃ B, B = w.heap.size := ⟨_, rfl⟩
  obtain ⟨m0, hm0⟩ : ∃ m0 : MK, m0 = ⟨s, [], [], false, true, 0⟩ := ⟨_, rfl⟩
  rw [← hm0]
  obtain ⟨n, hn⟩ : ∃ n, n = zs.length := ⟨_, rfl⟩
  have h0 := hS.h0
  have h0al : ∀ o, (w.alloc o).cell? ⟨q.sp, 0, none⟩ = some (.pointer (some ⟨p.h, 0, none⟩)) := fun o => ((Fr.refl (fun _ => False) w).alloc o).cell h0 id
  have HALL := Lib.hid (And.intro hA (And.intro hS (And.intro hsep (And.intro hso (And.intro hmost (And.intro hz (And.intro hg hdec)))))))
  have HM0 := Lib.hid hm0
  have HN := Lib.hid hn
  have HB := Lib.hid hB
  have hm1 : ¬ most < 1 := by omega
  have hm1' : decide (most < 1) = false := by simpa using hm1
  clear hA hS hsep hso hz hg hdec hm0 hB h0
  rw [← hn]
  clear hn
  go_enter Try.func51, Try.ntmps51
  go_wp2
  go_loopg [11] (μ s + 1) (fun k v11 wr => ∃ x vv mm, x = v11 ∧ Hid (Mid w wr q p srt most (w.heap.size + 1) ro zs Good m0 k μ x vv mm))
  case atStart =>
    obtain ⟨hA, hS, hsep, hso, _, hz, hg, hdec⟩ := HALL.out
    obtain ⟨hp, htb, hfr⟩ := mark_pre hA hS hsep hso hmost
    refine ⟨_, .slice none 0 0, m0, rfl, ?_⟩
    obtain ⟨mv, a, b, c, hb, _⟩ := hp.st
    refine ⟨?_, ?_, fun _ _ => ⟨by rw [HM0.out]; exact hp, by rw [HM0.out]; exact hg, by rw [HM0.out]; exact Nat.le_refl _, fun o1 m1 hr o' m' hd => ?_⟩, fun hn => ?_, hfr, htb, fun k hk => by cases hk⟩
    · rw [HM0.out]; exact hb.cell (i := 5) (by omega)
    · rw [HM0.out]; exact hb.cell (i := 9) (by omega)
    · exact Rds.step (by rw [HM0.out]) (by rw [HM0.out]) hr hd
    · exact absurd (by rw [HM0.out]; exact ⟨rfl, rfl⟩) hn
  case round =>
    obtain ⟨x, vv, mm, rfl, hI⟩ := hrel
    clear h0al
    have c5 := hI.out.c5
    have c9 := hI.out.c9
    obtain ⟨e, he⟩ : ∃ e, e = mm.e := ⟨_, rfl⟩
    obtain ⟨mo, hmo⟩ : ∃ mo, mo = mm.moved := ⟨_, rfl⟩
    rw [← he] at c9
    rw [← hmo] at c5
    have HE := Lib.hid he
    have HMO := Lib.hid hmo
    clear he hmo
    by_cases he0 : e = 0
    · subst he0
      cases mo with
      | true =>
        have hrun := hI.out.run HMO.out.symm HE.out.symm
        have hroots := HALL.out.2.2.2.2.2.1.fr hI.out.fr
        have HRND := round_any (rcap := rcap) hrun.1 hroots
        rw [← HN.out] at HRND
        have HRND := Lib.hid HRND
        have HRUN := Lib.hid hrun
        clear hrun hroots
        go_wp2_with fail
        refine HRND.out.mono ?_
        rintro e w2 ⟨mb, v2, m2, ao, cap, os, rfl, h2⟩
        have HNX : Hid (∃ k', k' < gk ∧ Mid w w2 q p srt most (w.heap.size + 1) ro zs Good m0 k' μ (.slice ao n cap) v2 m2) := by
          obtain ⟨hr1, hM2, hfew2, hio2, hlo2, hf2, hg2⟩ := h2.out
          obtain ⟨hp0, hg0, hk0, hc0⟩ := HRUN.out
          have hd := HALL.out.2.2.2.2.2.2.2 mm os m2 hg0 HE.out.symm hp0.nowait hr1
          have hblt : w.heap.size + 1 < wr.heap.size := World.block_lt_of_cell? wr _ hI.out.c9
          have hminelt := fun k hk => HALL.out.1.lt k hk
          have hF : Fr p.mine w w2 := by
            refine ⟨hf2.os.trans hI.out.fr.os, hf2.tape.trans hI.out.fr.tape, hf2.output.trans hI.out.fr.output, Nat.le_trans hI.out.fr.size hf2.size, fun b hb hS => ?_⟩
            refine (hf2.block b (Nat.lt_of_lt_of_le hb hI.out.fr.size) fun hs => ?_).trans (hI.out.fr.block b hb hS)
            rcases hs with hs | hs | hs
            · exact hS hs
            · omega
            · have := hI.out.own b hs; omega
          have htb2 : BlkAt w2 w.heap.size 49 3 (statCell 0 0 0) := hI.out.tb.fr hf2 (by
            rintro (hs | hs | hs)
            · have := hminelt _ hs; omega
            · omega
            · have := hI.out.own _ hs; omega)
          have hown2 : ∀ k, v2.ownBlock = some k → w.heap.size + 1 < k := fun k hk => by
            rcases hg2 k hk with h | h
            · exact hI.out.own k h
            · omega
          have hfin : ¬ (m2.moved = true ∧ m2.e = 0) → ∃ mb ao' cap' out, Value.slice ao n cap = .slice ao' zs.length cap' ∧ MkAt w2 q p srt most ⟨w.heap.size, w.heap.size + 1, mb⟩ v2 m2 ∧ IntsAt w2 w.heap.size (.slice ao' zs.length cap') out ∧ out.length = zs.length ∧ Rds srt most zs [] m0 out m2 ∧ ∀ k, (Value.slice ao' zs.length cap').ownBlock = some k → w.heap.size + 1 < k := by
            intro hn
            rw [← HN.out]
            refine ⟨mb, ao, cap, os, rfl, hM2, hio2.mono (by omega), hlo2, hc0 os m2 hr1 os m2 (Rds.stop ?_), fun k hk => by have := (hio2.lt k hk).1; omega⟩
            by_cases h : m2.moved = true
            · exact .inr fun he => hn ⟨h, he⟩
            · exact .inl (by simpa using h)
          by_cases hrn : m2.moved = true ∧ m2.e = 0
          · have hd2 := hd hrn.2
            refine ⟨μ m2.s + 1, by have := hd2.2.2 hrn.1; omega, ⟨hM2.mvd, hM2.err, fun hm he => ⟨hM2.pre hd2.1, hd2.2.1, Nat.le_refl _, fun o3 m3 hr3 o' m' hd3 => hc0 os m2 hr1 o' m' (Rds.step hm he hr3 hd3)⟩, hfin, hF, htb2, hown2⟩⟩
          · exact ⟨0, by omega, ⟨hM2.mvd, hM2.err, fun hm he => absurd ⟨hm, he⟩ hrn, hfin, hF, htb2, hown2⟩⟩
        obtain ⟨k', hk', hMid⟩ := HNX.out
        have HMID := Lib.hid hMid
        clear HNX hMid h2 hI HRND HRUN c5 c9
        go_wp2
        go_roundg k'
        case measure => exact hk'
        case rel => exact ⟨_, v2, m2, rfl, HMID.out⟩
      | false =>
        obtain ⟨mb, ao, cap, out, rfl, hM, hio, hlo, hrds, hown⟩ := hI.out.fin (fun h => by have := HMO.out; rw [h.1] at this; cases this)
        obtain ⟨pa, pb, pc, n6, n7, n8, hpab⟩ := hM.nums
        have h1 := hM.map
        obtain ⟨nk, hnk⟩ : ∃ nk, nk = mm.seen.length := ⟨_, rfl⟩
        have hs2 : mm.s.n ≤ 2048 := by obtain ⟨_, _, _, _, _, _, _, _, h2⟩ := hM.heap; exact h2
        have hsr := sorted_any (W := wr.drew) (hM.seen.fr (Fr.refl (fun _ => False) wr).drew id) hM.rng hs2
        rw [← hnk] at hsr
        have HSORT : Hid (Calls Try.prog 87 #[.func (.func 101) #[] #[.pointer (some ⟨wr.heap.size, 0, none⟩)]] (wr.drew.alloc (.cells #[.map (some mb)] 67)) fun e w' => ∃ ao cap, e = .returned (.slice ao nk cap) ∧ Hid (IntsAt w' wr.heap.size (.slice ao nk cap) (sorted mm.seen) ∧ Fr (fun _ => False) (wr.drew.alloc (.cells #[.map (some mb)] 67)) w')) := by
          refine hsr.mono ?_
          rintro e w' ⟨a1, c1, rfl, h2⟩
          exact ⟨a1, c1, rfl, h2.out.1, h2.out.2.2⟩
        have HBT : Hid (w.heap.size < wr.heap.size) := by have h : w.heap.size + 1 < wr.heap.size := World.block_lt_of_cell? wr _ hI.out.c9; show _ < _; omega
        have HTB := Lib.hid hI.out.tb
        have HPOST : Hid (∀ W a1 c1, Fr (fun k => k = w.heap.size) wr W → IntsAt W wr.heap.size (.slice a1 nk c1) (sorted mm.seen) → MarkPost w p srt most zs m0 (.returned (.tuple #[.slice a1 nk c1, .slice ao n cap, .agg #[.int .i64 pa, .int .i64 pb, .int .i64 pc], .int .i64 0])) W) := by
          intro W a1 c1 hW hi
          have hml := fun k hk => HALL.out.1.lt k hk
          rw [hnk, HN.out]
          refine ⟨out, mm, hrds, hM.heap.fr hW fun k hk (he : k = _) => by have := hml k hk; omega, ?_, .inr ⟨HE.out.symm, a1, c1, ao, cap, pa, pb, pc, rfl, ?_, hio.fr hW fun k hk (he : k = _) => by have := hown k hk; omega, hlo, hpab⟩⟩
          · refine ⟨hW.os.trans hI.out.fr.os, hW.tape.trans hI.out.fr.tape, hW.output.trans hI.out.fr.output, Nat.le_trans hI.out.fr.size hW.size, fun b hb hS => ?_⟩
            exact (hW.block b (Nat.lt_of_lt_of_le hb hI.out.fr.size) fun (he : b = _) => by omega).trans (hI.out.fr.block b hb hS)
          · rw [← hnk]; exact hi.mono hI.out.fr.size
        rw [← HN.out]
        clear hI hM hio hlo hrds hown hpab hs2 hsr hnk
        go_wp2_with fail
        refine wp_region_inv (n := 65) rfl rfl (by kernel_rfl) (Smark (w.heap.size + 1) mb nk n ao cap pa pb pc wr.heap.size (sorted mm.seen)) (fun D w' => Hid (JMark wr w.heap.size mb pa pb pc D w')) ⟨(Fr.refl _ wr).drew, (fun _ => rfl), (fun h => by cases h), (fun _ => HTB.out.of_heap rfl), (fun h => by cases h)⟩ ?step ?fin
        case step =>
          intro i o ho D a w' hF hJ hDi hdep
          match i, ho with
          | 0, ho =>
            obtain rfl := Option.some.inj ho
            have d10 := hF.out 10 (by rfl); simp only [Array.getD_eq_getD_getElem?, List.getElem?_toArray, List.getElem?_cons_succ, List.getElem?_cons_zero, Option.getD_some] at d10
            go_simp
            exact RegPost.mk _ (by simp only [Smark]) (fun _ _ _ h => h) (hJ.out.other (by decide) (by decide) (by decide))
          | 1, ho =>
            obtain rfl := Option.some.inj ho
            have d54 := hF.mine 0 _ _ rfl rfl (hdep ⟨0, .data⟩ (by simp) rfl); simp only [Smark] at d54
            go_simp
            exact RegPost.mk _ (by simp only [Smark]) (fun _ _ _ h => h) (hJ.out.other (by decide) (by decide) (by decide))
          | 2, ho =>
            obtain rfl := Option.some.inj ho
            have d55 := hF.mine 1 _ _ rfl rfl (hdep ⟨1, .data⟩ (by simp) rfl); simp only [Smark] at d55
            go_simp
            exact RegPost.mk _ (by simp only [Smark]) (fun _ _ _ h => h) (hJ.out.other (by decide) (by decide) (by decide))
          | 3, ho =>
            obtain rfl := Option.some.inj ho
            have d56 := hF.mine 2 _ _ rfl rfl (hdep ⟨2, .data⟩ (by simp) rfl); simp only [Smark] at d56
            have e1 := hJ.out.fr.cell h1 (by show ¬ (w.heap.size + 1 = w.heap.size); omega)
            go_simp
            exact RegPost.mk _ (by simp only [Smark]) (fun _ _ _ h => h) (hJ.out.other (by decide) (by decide) (by decide))
          | 4, ho =>
            obtain rfl := Option.some.inj ho
            have d57 := hF.mine 3 _ _ rfl rfl (hdep ⟨3, .data⟩ (by simp) rfl); simp only [Smark] at d57
            have hb5 := hF.back hDi 5 rfl ⟨4, .data⟩ (by simp) rfl rfl
            have hb13 := hF.back hDi 13 rfl ⟨4, .phase⟩ (by simp) rfl rfl
            have hw := hJ.out.w0 hDi
            subst hw
            go_simp
            refine (keys_any (some mb) wr.drew).mono ?_
            rintro e w3 ⟨rfl, rfl⟩
            exact RegPost.mk _ (by simp only [Smark]; rfl) (fun j u hj hS => hS.fr (Fr.any ((Fr.refl (fun _ => False) wr.drew).alloc _)) HBT.out) (hJ.out.four hb5 hb13)
          | 5, ho =>
            obtain rfl := Option.some.inj ho
            have d58 := hF.mine 4 _ _ rfl rfl (hdep ⟨4, .data⟩ (by simp) rfl); simp only [Smark] at d58
            have hb13 := hF.back hDi 13 rfl ⟨5, .phase⟩ (by simp) rfl rfl
            have hw := hJ.out.w1 (hdep ⟨4, .data⟩ (by simp) rfl) hDi
            subst hw
            go_simp
            refine (HSORT.out).mono ?_
            rintro e w3 ⟨a1, c1, rfl, h3⟩
            have hbel : Fr (fun _ => False) (wr.drew.alloc (.cells #[.map (some mb)] 67)) w3 := h3.out.2
            exact RegPost.mk _ ⟨a1, c1, rfl, h3.out.1⟩ (fun j u hj hS => hS.fr (Fr.any hbel) HBT.out) (hJ.out.five hbel (hdep ⟨4, .data⟩ (by simp) rfl) hb13)
          | 6, ho =>
            obtain rfl := Option.some.inj ho
            have d11 := hF.out 11 (by rfl); simp only [Array.getD_eq_getD_getElem?, List.getElem?_toArray, List.getElem?_cons_succ, List.getElem?_cons_zero, Option.getD_some] at d11
            go_simp
            exact RegPost.mk _ (by simp only [Smark]) (fun _ _ _ h => h) (hJ.out.other (by decide) (by decide) (by decide))
          | 7, ho =>
            obtain rfl := Option.some.inj ho
            have d10 := hF.out 10 (by rfl); simp only [Array.getD_eq_getD_getElem?, List.getElem?_toArray, List.getElem?_cons_succ, List.getElem?_cons_zero, Option.getD_some] at d10
            go_simp
            exact RegPost.mk _ (by simp only [Smark]) (fun _ _ _ h => h) (hJ.out.other (by decide) (by decide) (by decide))
          | 8, ho =>
            obtain rfl := Option.some.inj ho
            have d61 := hF.mine 7 _ _ rfl rfl (hdep ⟨7, .data⟩ (by simp) rfl); simp only [Smark] at d61
            go_simp
            exact RegPost.mk _ (by simp only [Smark]) (fun _ _ _ h => h) (hJ.out.other (by decide) (by decide) (by decide))
          | 9, ho =>
            obtain rfl := Option.some.inj ho
            have d62 := hF.mine 8 _ _ rfl rfl (hdep ⟨8, .data⟩ (by simp) rfl); simp only [Smark] at d62
            go_simp
            exact RegPost.mk _ (by simp only [Smark]) (fun _ _ _ h => h) (hJ.out.other (by decide) (by decide) (by decide))
          | 10, ho =>
            obtain rfl := Option.some.inj ho
            have d63 := hF.mine 9 _ _ rfl rfl (hdep ⟨9, .data⟩ (by simp) rfl); simp only [Smark] at d63
            have e6 := hJ.out.fr.cell n6 (by show ¬ (w.heap.size + 1 = w.heap.size); omega); have e7 := hJ.out.fr.cell n7 (by show ¬ (w.heap.size + 1 = w.heap.size); omega); have e8 := hJ.out.fr.cell n8 (by show ¬ (w.heap.size + 1 = w.heap.size); omega)
            go_simp
            exact RegPost.mk _ (by simp only [Smark]) (fun _ _ _ h => h) (hJ.out.other (by decide) (by decide) (by decide))
          | 11, ho =>
            obtain rfl := Option.some.inj ho
            have d59 := hF.mine 5 _ _ rfl rfl (hdep ⟨5, .data⟩ (by simp) rfl); simp only [Smark] at d59
            obtain ⟨a1, c1, hv, hi⟩ := d59
            go_simp
            exact RegPost.mk _ ⟨a1, c1, by first | rfl | exact hv, by first | exact hi | (rw [← hv]; exact hi)⟩ (fun _ _ _ h => h) (hJ.out.other (by decide) (by decide) (by decide))
          | 12, ho =>
            obtain rfl := Option.some.inj ho
            have d60 := hF.mine 6 _ _ rfl rfl (hdep ⟨6, .data⟩ (by simp) rfl); simp only [Smark] at d60
            go_simp
            exact RegPost.mk _ (by simp only [Smark]) (fun _ _ _ h => h) (hJ.out.other (by decide) (by decide) (by decide))
          | 13, ho =>
            obtain rfl := Option.some.inj ho
            have d8 := hF.out 8 (by rfl); simp only [Array.getD_eq_getD_getElem?, List.getElem?_toArray, List.getElem?_cons_succ, List.getElem?_cons_zero, Option.getD_some] at d8
            have d64 := hF.mine 10 _ _ rfl rfl (hdep ⟨10, .data⟩ (by simp) rfl); simp only [Smark] at d64
            have htb := hJ.out.t0 hDi
            have e0 := htb.cell (i := 0) (by omega); have e1 := htb.cell (i := 1) (by omega); have e2 := htb.cell (i := 2) (by omega); simp only [statCell] at e0 e1 e2
            have f0 := htb.frozen 0; have f1 := htb.frozen 1; have f2 := htb.frozen 2
            have HTB := Lib.hid htb
            clear htb
            go_simp
            refine RegPost.mk0 (fun j u hj hS => hS.fr ?_ HBT.out) (hJ.out.thirteen HTB.out (hdep ⟨4, .phase⟩ (by simp) rfl) (hdep ⟨5, .phase⟩ (by simp) rfl))
            exact (((Fr.refl (fun k => k = w.heap.size) w').setCell (S := fun k => k = w.heap.size) rfl _).setCell (S := fun k => k = w.heap.size) rfl _).setCell (S := fun k => k = w.heap.size) rfl _
          | 14, ho =>
            obtain rfl := Option.some.inj ho
            go_simp
            exact RegPost.mk _ (by simp only [Smark]) (fun _ _ _ h => h) (hJ.out.other (by decide) (by decide) (by decide))
          | i + 15, ho => simp at ho
        case fin =>
          intro D a w' hF hJ hall
          have s6 := hF.mine 11 _ _ rfl rfl (hall 11 (by decide)); simp only [Smark] at s6
          have s7 := hF.mine 12 _ _ rfl rfl (hall 12 (by decide)); simp only [Smark] at s7
          have s9 := hF.mine 14 _ _ rfl rfl (hall 14 (by decide)); simp only [Smark] at s9
          have s8 := hF.out 8 (by rfl); simp only [Array.getD_eq_getD_getElem?, List.getElem?_toArray, List.getElem?_cons_succ, List.getElem?_cons_zero, Option.getD_some] at s8
          obtain ⟨a1, c1, s6, hi1⟩ := s6
          have hl := act_lit a 65 hF.size
          rw [hF.defers] at hl
          simp only [List.range, List.range.loop, List.map_cons, List.map_nil, s6, s7, s9] at hl
          rw [hl]
          have htb := hJ.out.t1 (hall 13 (by decide))
          have e0 := htb.cell (i := 0) (by omega); have e1 := htb.cell (i := 1) (by omega); have e2 := htb.cell (i := 2) (by omega); simp only [statCell] at e0 e1 e2
          have HFIN := Lib.hid (HPOST.out w' a1 c1 hJ.out.fr hi1)
          clear hl hF hJ htb hi1
          go_wp2
          refine bodyPost_ret (v := .tuple #[.slice a1 nk c1, .slice ao n cap, .agg #[.int .i64 pa, .int .i64 pb, .int .i64 pc], .int .i64 0]) ?_ rfl HFIN
          unfold results
          go_simp
    · have he0' : (e != 0) = true := by simpa using he0
      have he0'' : (e == 0) = false := by simpa using he0
      obtain ⟨mb, ao, cap, out, hx, hM, hio, hlo, hrds, hown⟩ := hI.out.fin (fun h => he0 (HE.out.trans h.2))
      have HPOST : Hid (∀ W, Fr (fun k => k = w.heap.size) wr W → MarkPost w p srt most zs m0 (.returned (.tuple #[.slice none 0 0, .slice none 0 0, .agg #[.int .i64 0, .int .i64 0, .int .i64 0], .int .i64 e])) W) := by
        intro W hW
        have hml := fun k hk => HALL.out.1.lt k hk
        refine ⟨out, mm, hrds, hM.heap.fr hW fun k hk (he : k = _) => by have := hml k hk; omega, ?_, .inl ⟨by rw [← HE.out]; exact he0, by rw [HE.out]⟩⟩
        refine ⟨hW.os.trans hI.out.fr.os, hW.tape.trans hI.out.fr.tape, hW.output.trans hI.out.fr.output, Nat.le_trans hI.out.fr.size hW.size, fun b hb hS => ?_⟩
        exact (hW.block b (Nat.lt_of_lt_of_le hb hI.out.fr.size) fun (he : b = _) => by omega).trans (hI.out.fr.block b hb hS)
      have t0 := hI.out.tb.cell (i := 0) (by omega)
      have t1 := hI.out.tb.cell (i := 1) (by omega)
      have t2 := hI.out.tb.cell (i := 2) (by omega)
      simp only [statCell] at t0 t1 t2
      have f0 := hI.out.tb.frozen 0
      have f1 := hI.out.tb.frozen 1
      have f2 := hI.out.tb.frozen 2
      clear hI hM hio hlo hrds hown hx he0
      cases mo <;>
        (go_wp2_with fail
         go_region
         go_wp2
         refine bodyPost_ret (v := .tuple #[.slice none 0 0, .slice none 0 0, .agg #[.int .i64 0, .int .i64 0, .int .i64 0], .int .i64 e]) ?_ rfl (HPOST.out _ ?_)
         · unfold results
           go_simp
         · exact ((((Fr.refl (fun k => k = w.heap.size) wr).setCell (S := fun k => k = w.heap.size) rfl _).setCell (S := fun k => k = w.heap.size) rfl _).setCell (S := fun k => k = w.heap.size) rfl _).drew)

def badMark : Ending := .returned (.tuple #[.slice none 0 0, .slice none 0 0, .agg #[.int .i64 0, .int .i64 0, .int .i64 0], .int .i64 1])
set_option maxRecDepth 100000 in
/-- No room. -/
theorem mark_room {w : World} {sp : Nat} {h : Nat} (hc : w.cell? ⟨sp, 0, none⟩ = some (.pointer (some ⟨h, 0, none⟩))) (v : Value) {most : Int} (hm : most < 1) :
    Calls Try.prog 51 #[.pointer (some ⟨sp, 0, none⟩), v, .int .i64 most] w fun e w' => e = badMark ∧ Below w.heap.size w w' := by
  have h0al : ∀ o, (w.alloc o).cell? ⟨sp, 0, none⟩ = some (.pointer (some ⟨h, 0, none⟩)) := fun o => ((Fr.refl (fun _ => False) w).alloc o).cell hc id
  have hm' : decide (most < 1) = true := by simpa using hm
  clear hc
  go_enter Try.func51, Try.ntmps51
  go_wp2
  refine bodyPost_ret (v := .tuple #[.slice none 0 0, .slice none 0 0, .agg #[.int .i64 0, .int .i64 0, .int .i64 0], .int .i64 1]) ?_ rfl ⟨rfl, ?_⟩
  · unfold results
    go_simp
  · exact (Below.refl _ w).alloc (Nat.le_refl _) _
set_option maxRecDepth 100000 in
theorem mark_nil (w : World) (v : Value) (most : Int) :
    Calls Try.prog 51 #[.pointer none, v, .int .i64 most] w fun e w' => e = badMark ∧ Below w.heap.size w w' := by
  go_enter Try.func51, Try.ntmps51
  go_wp2
  refine bodyPost_ret (v := .tuple #[.slice none 0 0, .slice none 0 0, .agg #[.int .i64 0, .int .i64 0, .int .i64 0], .int .i64 1]) ?_ rfl ⟨rfl, ?_⟩
  · unfold results
    go_simp
  · exact (Below.refl _ w).alloc (Nat.le_refl _) _
set_option maxRecDepth 100000 in
theorem mark_bare {w : World} {sp : Nat} (hc : w.cell? ⟨sp, 0, none⟩ = some (.pointer none)) (v : Value) (most : Int) :
    Calls Try.prog 51 #[.pointer (some ⟨sp, 0, none⟩), v, .int .i64 most] w fun e w' => e = badMark ∧ Below w.heap.size w w' := by
  have h0al : ∀ o, (w.alloc o).cell? ⟨sp, 0, none⟩ = some (.pointer none) := fun o => ((Fr.refl (fun _ => False) w).alloc o).cell hc id
  clear hc
  go_enter Try.func51, Try.ntmps51
  go_wp2
  refine bodyPost_ret (v := .tuple #[.slice none 0 0, .slice none 0 0, .agg #[.int .i64 0, .int .i64 0, .int .i64 0], .int .i64 1]) ?_ rfl ⟨rfl, ?_⟩
  · unfold results
    go_simp
  · exact (Below.refl _ w).alloc (Nat.le_refl _) _
end Go.Proofs.Ytjfpijoeddjgmaa
