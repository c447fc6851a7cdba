/- A marker looks at a closure. Conditions: the marker's memory reads as the plain model says. -/
import Derived.Test.YtjfpijoeddjgmaaMarkR
namespace Go.Proofs.Ytjfpijoeddjgmaa
open Go.RowKit Hm
set_option linter.unusedVariables false

theorem info_err {srt : List Inf} {s : HS} {a : Int} (h : okAt srt s a) : (infoM srt s a).2 = 0 ∧ (ptrsM srt s a).2 = 0 := by
  have h' : (lookM srt s a).2.2 = 0 := h
  refine ⟨by unfold infoM; rw [if_pos h'], ?_⟩
  have hc : (countM srt s a).2.2 = 0 := by unfold countM; rw [if_pos h']
  unfold ptrsM; rw [if_pos hc]
theorem info_bad {srt : List Inf} {s : HS} {a : Int} (h : ¬ okAt srt s a) : (infoM srt s a).2 ≠ 0 ∧ (ptrsM srt s a).2 ≠ 0 ∧ infAt srt s a = noInf ∧ ptrAt srt s a = [] := by
  have h' : ¬ (lookM srt s a).2.2 = 0 := h
  have hc : countM srt s a = (0, 0, (lookM srt s a).2.2) := by unfold countM; rw [if_neg h']
  refine ⟨by unfold infoM; rw [if_neg h']; exact h', ?_, by unfold infAt infoM; rw [if_neg h'], ?_⟩
  · unfold ptrsM; rw [hc]; rw [if_neg h']; exact h'
  · unfold ptrAt ptrsM; rw [hc]; rw [if_neg h']
def zinfo : Obj := .cells #[.int .i64 0, .int .i64 0, .int .i64 0, .int .i64 0, .int .i64 0, .int .i64 0, .int .i64 0, .int .i64 0, .string ⟨#[]⟩] 80
/-- A sort is stored into a new block. -/
def putInfo (w : World) (b : Nat) (I : Inf) : World :=
  ((((((((w.setCell ⟨b, 0, none⟩ (.int .i64 I.kind)).setCell ⟨b, 1, none⟩ (.int .i64 I.ptrs)).setCell ⟨b, 2, none⟩ (.int .i64 I.nons)).setCell ⟨b, 3, none⟩ (.int .i64 I.ar)).setCell ⟨b, 4, none⟩ (.int .i64 I.tag)).setCell ⟨b, 5, none⟩ (.int .i64 I.code)).setCell ⟨b, 6, none⟩ (.int .i64 I.of)).setCell ⟨b, 7, none⟩ (.int .i64 I.pick)).setCell ⟨b, 8, none⟩ (.string ⟨#[]⟩)
theorem blk_put {w : World} {b : Nat} {f : Nat → Value} (h : BlkAt w b 80 9 f) (I : Inf) : BlkAt (putInfo w b I) b 80 9 I.cell := by
  refine (((((((((h.store 0 (.int .i64 I.kind)).store 1 (.int .i64 I.ptrs)).store 2 (.int .i64 I.nons)).store 3 (.int .i64 I.ar)).store 4 (.int .i64 I.tag)).store 5 (.int .i64 I.code)).store 6 (.int .i64 I.of)).store 7 (.int .i64 I.pick)).store 8 (.string ⟨#[]⟩)).congr fun i hi => ?_
  match i, hi with
  | 0, _ => rfl
  | 1, _ => rfl
  | 2, _ => rfl
  | 3, _ => rfl
  | 4, _ => rfl
  | 5, _ => rfl
  | 6, _ => rfl
  | 7, _ => rfl
  | 8, _ => rfl
theorem Fr.put {S : Nat → Prop} {a w : World} (h : Fr S a w) {b : Nat} (hb : S b) (I : Inf) : Fr S a (putInfo w b I) :=
  (((((((((h.setCell (x := ⟨b, 0, none⟩) hb _).setCell (x := ⟨b, 1, none⟩) hb _).setCell (x := ⟨b, 2, none⟩) hb _).setCell (x := ⟨b, 3, none⟩) hb _).setCell (x := ⟨b, 4, none⟩) hb _).setCell (x := ⟨b, 5, none⟩) hb _).setCell (x := ⟨b, 6, none⟩) hb _).setCell (x := ⟨b, 7, none⟩) hb _).setCell (x := ⟨b, 8, none⟩) hb _)

theorem Fr.fresh {S : Nat → Prop} {w w' : World} (h : Fr (fun k => w.heap.size ≤ k) w w') : Fr S w w' :=
  ⟨h.os, h.tape, h.output, h.size, fun k hk _ => h.block k hk (by omega)⟩
set_option maxRecDepth 100000 in
set_option maxHeartbeats 2000000 in
theorem mlook_any {w : World} {q : SPl} {p : HP} {srt : List Inf} {most : Int} {K : MkP} {v : Value} {m : MK} (h : MkAt w q p srt most K v m) (a : Int) :
    Calls Try.prog 104 #[.pointer (some ⟨K.mp, 0, none⟩), .int .i64 a] w fun e w' => ∃ ao cap, e = .returned (.tuple #[(infAt srt m.s a).val, .slice ao (ptrAt srt m.s a).length cap]) ∧
      Hid (MkAt w' q p srt most K v (m.look srt a) ∧ IntsAt w' w.heap.size (.slice ao (ptrAt srt m.s a).length cap) (ptrAt srt m.s a) ∧ Fr (fun k => k = K.mp) w w') := by
  have HINF : Hid (∀ W, Fr (fun k => w.heap.size ≤ k) w W → Calls Try.prog 41 #[.pointer (some ⟨q.sp, 0, none⟩), .int .i64 a] W fun e w' => e = .returned (.tuple #[(infAt srt m.s a).val, .int .i64 (infoM srt m.s a).2]) ∧ Hid (Fr (fun _ => False) W w')) := by
    intro W hW
    have h2 := h.new hW
    exact info_any a W h2.heap h2.sto
  have HPTR : Hid (∀ W, Fr (fun k => w.heap.size ≤ k) w W → Calls Try.prog 34 #[.pointer (some ⟨q.sp, 0, none⟩), .int .i64 a] W fun e w' => ∃ ao cap, e = .returned (.tuple #[.slice ao (ptrAt srt m.s a).length cap, .int .i64 (ptrsM srt m.s a).2]) ∧ Hid (IntsAt w' W.heap.size (.slice ao (ptrAt srt m.s a).length cap) (ptrAt srt m.s a) ∧ Fr (fun _ => False) W w')) := by
    intro W hW
    have h2 := h.new hW
    refine (ptrs_any a W h2.heap h2.sto).mono ?_
    rintro e w' ⟨v, rfl, h3, h4⟩
    obtain ⟨ao, cap, rfl, _⟩ := h3.shape
    exact ⟨ao, cap, rfl, h3, Fr.of_below h4⟩
  have HFAIL : Hid (∀ W, Fr (fun k => w.heap.size ≤ k) w W → Calls Try.prog 109 #[.pointer (some ⟨K.mp, 0, none⟩), .int .i64 12] W fun e w' => e = .returned (.tuple #[]) ∧ Hid (MkAt w' q p srt most K v m.fail ∧ Fr (fun k => k = K.mp) W w')) := fun W hW => fail_any (h.new hW)
  have HNEW : Hid (∀ W, Fr (fun k => w.heap.size ≤ k) w W → MkAt W q p srt most K v m) := fun W hW => h.new hW
  have h0 := h.ptr
  have hsz : Hid (K.mp < w.heap.size) := h.mp_lt
  have h0al : ∀ o, (w.alloc o).cell? ⟨K.mp, 0, none⟩ = some (.pointer (some ⟨q.sp, 0, none⟩)) := fun o => ((Fr.refl (fun _ => False) w).alloc o).cell h0 id
  obtain ⟨I, hI⟩ : ∃ I, I = infAt srt m.s a := ⟨_, rfl⟩
  obtain ⟨l, hl⟩ : ∃ l, l = ptrAt srt m.s a := ⟨_, rfl⟩
  obtain ⟨e1, he1⟩ : ∃ e1, e1 = (infoM srt m.s a).2 := ⟨_, rfl⟩
  obtain ⟨e2, he2⟩ : ∃ e2, e2 = (ptrsM srt m.s a).2 := ⟨_, rfl⟩
  rw [← hI, ← he1] at HINF
  rw [← hl, ← he2] at HPTR
  rw [← hI, ← hl]
  have HFR := Lib.hid (Fr.refl (fun k => w.heap.size ≤ k) w)
  by_cases hok : okAt srt m.s a
  · have hlk := Lib.hid (look_ok hok)
    have hee := info_err hok
    rw [← he1, ← he2] at hee
    obtain ⟨rfl, rfl⟩ := hee
    clear hI hl he1 he2 hok h HFAIL
    unfold Inf.val at HINF ⊢
    go_enter Try.func104, Try.ntmps104
    go_wp2_with fail
    refine (HINF.out _ (HFR.out.alloc _)).mono ?_
    rintro e w1 ⟨rfl, hF1⟩
    obtain ⟨tb, htb⟩ : ∃ tb, tb = w.heap.size := ⟨_, rfl⟩
    have HB0 : Hid (BlkAt w1 tb 80 9 (fun i => if i = 8 then .string ⟨#[]⟩ else .int .i64 0)) := by
      rw [htb]
      exact (blk_new w 80 _ 9 _ rfl).fr hF1.out id
    have HFR1 : Hid (Fr (fun k => w.heap.size ≤ k) w w1) := (Fr.any ((Fr.refl (fun _ => False) w).alloc _)).trans (Fr.any hF1.out)
    have h01 := HFR1.out.cell h0 (by have := hsz.out; show ¬ (w.heap.size ≤ K.mp); omega)
    have h0al1 : ∀ o, (w1.alloc o).cell? ⟨K.mp, 0, none⟩ = some (.pointer (some ⟨q.sp, 0, none⟩)) := fun o => ((Fr.refl (fun _ => False) w1).alloc o).cell h01 id
    have HSZ1 : Hid (w.heap.size < w1.heap.size) := by have := hF1.out.size; simp at this; show _ < _; omega
    have HT := Lib.hid htb
    rw [← htb]
    clear h0 h0al htb hF1 HINF
    go_wp2_with fail
    refine (HPTR.out _ (HFR1.out.alloc _)).mono ?_
    rintro e w2 ⟨ao, cap, rfl, hF2⟩
    obtain ⟨tc, htc⟩ : ∃ tc, tc = w1.heap.size := ⟨_, rfl⟩
    have hbc : BlkAt w2 tc 80 9 I.cell := by
      rw [htc]
      exact (blk_new w1 80 _ 9 I.cell rfl).fr hF2.out.2 id
    have hba := (HB0.out.alloc (.cells #[.int .i64 I.kind, .int .i64 I.ptrs, .int .i64 I.nons, .int .i64 I.ar, .int .i64 I.tag, .int .i64 I.code, .int .i64 I.of, .int .i64 I.pick, .string ⟨#[]⟩] 80)).fr hF2.out.2 id
    have HFR2 : Hid (Fr (fun k => w.heap.size ≤ k) w w2) := (HFR1.out.alloc _).trans (Fr.any hF2.out.2)
    have HI2 : Hid (IntsAt w2 (tb + 1) (.slice ao l.length cap) l) := hF2.out.1.mono (by have := HT.out; have := HSZ1.out; simp; omega)
    have c0 := hbc.cell (i := 0) (by omega)
    have c1 := hbc.cell (i := 1) (by omega)
    have c2 := hbc.cell (i := 2) (by omega)
    have c3 := hbc.cell (i := 3) (by omega)
    have c4 := hbc.cell (i := 4) (by omega)
    have c5 := hbc.cell (i := 5) (by omega)
    have c6 := hbc.cell (i := 6) (by omega)
    have c7 := hbc.cell (i := 7) (by omega)
    have c8 := hbc.cell (i := 8) (by omega)
    simp only [Inf.cell] at c0 c1 c2 c3 c4 c5 c6 c7 c8
    have f0 := hba.frozen 0
    have f1 := hba.frozen 1
    have f2 := hba.frozen 2
    have f3 := hba.frozen 3
    have f4 := hba.frozen 4
    have f5 := hba.frozen 5
    have f6 := hba.frozen 6
    have f7 := hba.frozen 7
    have f8 := hba.frozen 8
    have z0 := hba.cell (i := 0) (by omega)
    have z1 := hba.cell (i := 1) (by omega)
    have z2 := hba.cell (i := 2) (by omega)
    have z3 := hba.cell (i := 3) (by omega)
    have z4 := hba.cell (i := 4) (by omega)
    have z5 := hba.cell (i := 5) (by omega)
    have z6 := hba.cell (i := 6) (by omega)
    have z7 := hba.cell (i := 7) (by omega)
    have z8 := hba.cell (i := 8) (by omega)
    simp only [show ¬ ((0 : Nat) = 8) by omega, show ¬ ((1 : Nat) = 8) by omega, show ¬ ((2 : Nat) = 8) by omega, show ¬ ((3 : Nat) = 8) by omega, show ¬ ((4 : Nat) = 8) by omega, show ¬ ((5 : Nat) = 8) by omega, show ¬ ((6 : Nat) = 8) by omega, show ¬ ((7 : Nat) = 8) by omega, if_true, if_false] at z0 z1 z2 z3 z4 z5 z6 z7 z8
    have hne : Hid (tb ≠ tc) := by have := HT.out; have := HSZ1.out; show _ ≠ _; omega
    have hBA := Lib.hid hba
    rw [← htc]
    clear hbc hba htc h01 h0al1 hF2 HPTR HB0 HFR1 HSZ1
    go_wp2_with fail
    have hput : Fr (fun k => w.heap.size ≤ k) w (putInfo w2 tb I) := HFR2.out.put (by rw [HT.out]; exact Nat.le_refl _) I
    refine bodyPost_ret (v := .tuple #[I.val, .slice ao l.length cap]) ?_ rfl ⟨_, _, rfl, ?_⟩
    · unfold results
      go_simp
      rfl
    · have hk : IntsAt (putInfo w2 tb I) (tb + 1) (.slice ao l.length cap) l := HI2.out.kept (S := fun k => k = tb) ((Fr.refl _ w2).put (S := fun k => k = tb) rfl I) fun k (hk : k = tb) => by omega
      exact ⟨by rw [hlk.out]; exact HNEW.out _ hput, hk.mono (by rw [HT.out]; omega), Fr.fresh hput⟩
  · have hlk := Lib.hid (look_bad hok)
    have HFREE : Hid (∀ k, w.heap.size ≤ k → Free q p K v k) := fun k hk => h.fresh hk
    have hee := info_bad hok
    rw [← he1, ← he2] at hee
    obtain ⟨hn1, hn2, _, _⟩ := hee
    have hn1' : (e1 != 0) = true := by simpa using hn1
    clear hI hl he1 he2 hok h
    unfold Inf.val at HINF ⊢
    go_enter Try.func104, Try.ntmps104
    go_wp2_with fail
    refine (HINF.out _ (HFR.out.alloc _)).mono ?_
    rintro e w1 ⟨rfl, hF1⟩
    obtain ⟨tb, htb⟩ : ∃ tb, tb = w.heap.size := ⟨_, rfl⟩
    have HB0 : Hid (BlkAt w1 tb 80 9 (fun i => if i = 8 then .string ⟨#[]⟩ else .int .i64 0)) := by
      rw [htb]
      exact (blk_new w 80 _ 9 _ rfl).fr hF1.out id
    have HFR1 : Hid (Fr (fun k => w.heap.size ≤ k) w w1) := (Fr.any ((Fr.refl (fun _ => False) w).alloc _)).trans (Fr.any hF1.out)
    have h01 := HFR1.out.cell h0 (by have := hsz.out; show ¬ (w.heap.size ≤ K.mp); omega)
    have h0al1 : ∀ o, (w1.alloc o).cell? ⟨K.mp, 0, none⟩ = some (.pointer (some ⟨q.sp, 0, none⟩)) := fun o => ((Fr.refl (fun _ => False) w1).alloc o).cell h01 id
    have HSZ1 : Hid (w.heap.size < w1.heap.size) := by have := hF1.out.size; simp at this; show _ < _; omega
    have HT := Lib.hid htb
    rw [← htb]
    clear h0 h0al htb hF1 HINF
    go_wp2_with fail
    refine (HPTR.out _ (HFR1.out.alloc _)).mono ?_
    rintro e w2' ⟨ao, cap, rfl, hF2⟩
    have HFR2' : Hid (Fr (fun k => w.heap.size ≤ k) w w2') := (HFR1.out.alloc _).trans (Fr.any hF2.out.2)
    go_wp2_with fail
    refine (HFAIL.out _ HFR2'.out).mono ?_
    rintro e w2 ⟨rfl, hF3⟩
    obtain ⟨tc, htc⟩ : ∃ tc, tc = w1.heap.size := ⟨_, rfl⟩
    have hbc : BlkAt w2 tc 80 9 I.cell := by
      rw [htc]
      exact ((blk_new w1 80 _ 9 I.cell rfl).fr hF2.out.2 id).fr hF3.out.2 (by have := hsz.out; have := HSZ1.out; show ¬ (w1.heap.size = K.mp); omega)
    have hba := (HB0.out.alloc (.cells #[.int .i64 I.kind, .int .i64 I.ptrs, .int .i64 I.nons, .int .i64 I.ar, .int .i64 I.tag, .int .i64 I.code, .int .i64 I.of, .int .i64 I.pick, .string ⟨#[]⟩] 80)).fr hF2.out.2 id |>.fr hF3.out.2 (by have := hsz.out; have := HT.out; show ¬ (tb = K.mp); omega)
    have HFR2 : Hid (Fr (fun k => k = K.mp ∨ w.heap.size ≤ k) w w2) := (HFR2'.out.mono fun k hk => .inr hk).trans (hF3.out.2.mono fun k hk => .inl hk)
    have HI2 : Hid (IntsAt w2 (tb + 1) (.slice ao l.length cap) l) := (hF2.out.1.mono (B' := tb + 1) (by have := HT.out; have := HSZ1.out; simp; omega)).kept hF3.out.2 fun k (hk : k = K.mp) => by have := hsz.out; have := HT.out; omega
    have c0 := hbc.cell (i := 0) (by omega)
    have c1 := hbc.cell (i := 1) (by omega)
    have c2 := hbc.cell (i := 2) (by omega)
    have c3 := hbc.cell (i := 3) (by omega)
    have c4 := hbc.cell (i := 4) (by omega)
    have c5 := hbc.cell (i := 5) (by omega)
    have c6 := hbc.cell (i := 6) (by omega)
    have c7 := hbc.cell (i := 7) (by omega)
    have c8 := hbc.cell (i := 8) (by omega)
    simp only [Inf.cell] at c0 c1 c2 c3 c4 c5 c6 c7 c8
    have f0 := hba.frozen 0
    have f1 := hba.frozen 1
    have f2 := hba.frozen 2
    have f3 := hba.frozen 3
    have f4 := hba.frozen 4
    have f5 := hba.frozen 5
    have f6 := hba.frozen 6
    have f7 := hba.frozen 7
    have f8 := hba.frozen 8
    have z0 := hba.cell (i := 0) (by omega)
    have z1 := hba.cell (i := 1) (by omega)
    have z2 := hba.cell (i := 2) (by omega)
    have z3 := hba.cell (i := 3) (by omega)
    have z4 := hba.cell (i := 4) (by omega)
    have z5 := hba.cell (i := 5) (by omega)
    have z6 := hba.cell (i := 6) (by omega)
    have z7 := hba.cell (i := 7) (by omega)
    have z8 := hba.cell (i := 8) (by omega)
    simp only [show ¬ ((0 : Nat) = 8) by omega, show ¬ ((1 : Nat) = 8) by omega, show ¬ ((2 : Nat) = 8) by omega, show ¬ ((3 : Nat) = 8) by omega, show ¬ ((4 : Nat) = 8) by omega, show ¬ ((5 : Nat) = 8) by omega, show ¬ ((6 : Nat) = 8) by omega, show ¬ ((7 : Nat) = 8) by omega, if_true, if_false] at z0 z1 z2 z3 z4 z5 z6 z7 z8
    have hne : Hid (tb ≠ tc) := by have := HT.out; have := HSZ1.out; show _ ≠ _; omega
    have hBA := Lib.hid hba
    rw [← htc]
    have HMK := Lib.hid hF3.out.1
    have HMF := Lib.hid hF3.out.2
    have HF2 := Lib.hid HFR2'.out
    clear hbc hba htc h01 h0al1 hF2 hF3 HPTR HB0 HFR1 HSZ1 HFAIL
    go_wp2_with fail
    have hput : Fr (fun k => w.heap.size ≤ k ∨ k = K.mp) w (putInfo w2 tb I) := (HFR2.out.mono fun k hk => hk.symm).put (by rw [HT.out]; exact .inl (Nat.le_refl _)) I
    have hput2 : Fr (fun k => k = tb) w2 (putInfo w2 tb I) := (Fr.refl _ w2).put (S := fun k => k = tb) rfl I
    refine bodyPost_ret (v := .tuple #[I.val, .slice ao l.length cap]) ?_ rfl ⟨_, _, rfl, ?_⟩
    · unfold results
      go_simp
      rfl
    · have hk : IntsAt (putInfo w2 tb I) (tb + 1) (.slice ao l.length cap) l := HI2.out.kept (S := fun k => k = tb) hput2 fun k (hk : k = tb) => by omega
      refine ⟨by rw [hlk.out]; exact HMK.out.fr hput2 fun k (hk : k = tb) => HFREE.out k (by rw [hk, HT.out]; exact Nat.le_refl _), hk.mono (by rw [HT.out]; omega), ⟨hput.os, hput.tape, hput.output, hput.size, fun k hk hS => hput.block k hk fun h => ?_⟩⟩
      rcases h with h | h
      · omega
      · exact hS h
end Go.Proofs.Ytjfpijoeddjgmaa
