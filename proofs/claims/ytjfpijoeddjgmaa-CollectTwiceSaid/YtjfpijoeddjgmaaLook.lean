/- A store of closures in a heap: what its calls do. Conditions: the store's memory reads as the plain model says. -/
import Derived.Test.YtjfpijoeddjgmaaTab
namespace Go.Proofs.Ytjfpijoeddjgmaa
open Go.RowKit Hm
set_option linter.unusedVariables false

/-- Where a store's struct and its sorts lie. -/
structure SPl where
  sp : Nat
  sb : Nat
def Inf.cell (i : Inf) : Nat → Value
  | 0 => .int .i64 i.kind
  | 1 => .int .i64 i.ptrs
  | 2 => .int .i64 i.nons
  | 3 => .int .i64 i.ar
  | 4 => .int .i64 i.tag
  | 5 => .int .i64 i.code
  | 6 => .int .i64 i.of
  | 7 => .int .i64 i.pick
  | _ => .string ⟨#[]⟩
def noInf : Inf := ⟨0, 0, 0, 0, 0, 0, 0, 0⟩
def sortCell (srt : List Inf) (k : Nat) : Value := (srt.getD (k / 9) noInf).cell (k % 9)
def storeCell (p : HP) (q : SPl) (n : Nat) : Nat → Value
  | 0 => .pointer (some ⟨p.h, 0, none⟩)
  | _ => .slice (some ⟨q.sb, 0, none⟩) n n
structure StoreAt (w : World) (q : SPl) (p : HP) (srt : List Inf) : Prop where
  st : BlkAt w q.sp 47 2 (storeCell p q srt.length)
  so : BlkAt w q.sb 80 (9 * srt.length) (sortCell srt)
  ok : ∀ i ∈ srt, i.Ok
  few : srt.length ≤ 100
theorem StoreAt.fr {w w' : World} {q : SPl} {p : HP} {srt : List Inf} (h : StoreAt w q p srt) {S : Nat → Prop} (hf : Fr S w w') (h1 : ¬ S q.sp) (h2 : ¬ S q.sb) : StoreAt w' q p srt := ⟨h.st.fr hf h1, h.so.fr hf h2, h.ok, h.few⟩
theorem StoreAt.h0 {w : World} {q : SPl} {p : HP} {srt : List Inf} (h : StoreAt w q p srt) : w.cell? ⟨q.sp, 0, none⟩ = some (.pointer (some ⟨p.h, 0, none⟩)) := h.st.cell (by omega)
theorem StoreAt.h1 {w : World} {q : SPl} {p : HP} {srt : List Inf} (h : StoreAt w q p srt) : w.cell? ⟨q.sp, 1, none⟩ = some (.slice (some ⟨q.sb, 0, none⟩) srt.length srt.length) := h.st.cell (by omega)
theorem StoreAt.sort {w : World} {q : SPl} {p : HP} {srt : List Inf} (h : StoreAt w q p srt) {i : Nat} (hi : i < srt.length) {c : Nat} (hc : c < 9) : w.cell? ⟨q.sb, i * 9 + c, none⟩ = some ((srt.getD i noInf).cell c) := by
  have := h.so.cell (i := i * 9 + c) (by omega)
  rw [this]
  unfold sortCell
  rw [show (i * 9 + c) / 9 = i by omega, show (i * 9 + c) % 9 = c by omega]


/-- A law's store over its heap. -/
structure Sto (B : Nat) (w0 w : World) (q : SPl) (p : HP) (srt : List Inf) (s : HS) : Prop where
  own : Own B w0 w p s
  sto : StoreAt w q p srt
  sep : ∀ k, p.mine k → k ≠ q.sp ∧ k ≠ q.sb
  low : B ≤ q.sp ∧ B ≤ q.sb
theorem Sto.step {B : Nat} {w0 w w' : World} {q : SPl} {p : HP} {srt : List Inf} {s t : HS} (h : Sto B w0 w q p srt s) (hf : Fr p.mine w w') (ha : HeapAt w' p t) : Sto B w0 w' q p srt t :=
  ⟨h.own.step hf ha, h.sto.fr hf (fun hk => (h.sep _ hk).1 rfl) (fun hk => (h.sep _ hk).2 rfl), h.sep, h.low⟩
theorem Sto.other {B : Nat} {w0 w w' : World} {q : SPl} {p : HP} {srt : List Inf} {s : HS} (h : Sto B w0 w q p srt s) {S : Nat → Prop} (hf : Fr S w w') (hn : ∀ k, p.mine k → ¬ S k) (h1 : ¬ S q.sp) (h2 : ¬ S q.sb) (hS : ∀ k, S k → B ≤ k) : Sto B w0 w' q p srt s :=
  ⟨h.own.other hf hn hS, h.sto.fr hf h1 h2, h.sep, h.low⟩
theorem Sto.quiet {B : Nat} {w0 w w' : World} {q : SPl} {p : HP} {srt : List Inf} {s : HS} (h : Sto B w0 w q p srt s) (hf : Fr (fun _ => False) w w') : Sto B w0 w' q p srt s := h.other hf (fun _ _ => id) id id (fun _ h => h.elim)

/-- Is a word the head of a closure that fits into so many words? -/
def headIn (srt : List Inf) (x : Int) (c : Nat) : Bool :=
  decide (headOk (wordSort x) (wordSize x)) && (decide (wordSort x < srt.length) && ((srt.getD (wordSort x).toNat noInf).fits (wordSize x) && decide (1 + wordSize x ≤ c)))
/-- What Look tells: a sort, how many words are behind the head, the error. -/
def lookM (srt : List Inf) (s : HS) (a : Int) : Int × Int × Int :=
  if HS.has s a 0 then (if headIn srt (s.word a.toNat) (s.cap a.toNat) = true then (wordSort (s.word a.toNat), wordSize (s.word a.toNat), 0) else (0, 0, 12)) else (0, 0, 1)

theorem HeapAt.range {w : World} {p : HP} {s : HS} (h : HeapAt w p s) (a : Nat) : 0 ≤ s.word a ∧ s.word a < 18446744073709551616 := by
  obtain ⟨_, _, _, _, h, _⟩ := h
  exact h.range a
theorem getD_ok {srt : List Inf} (h : ∀ i ∈ srt, i.Ok) {k : Nat} (hk : k < srt.length) : (srt.getD k noInf).Ok := by
  rw [List.getD_eq_getElem?_getD, List.getElem?_eq_getElem hk]; exact h _ (List.getElem_mem _)

set_option maxRecDepth 100000 in
set_option maxHeartbeats 1000000 in
theorem look_any {q : SPl} {p : HP} {srt : List Inf} {s : HS} (a : Int) (w : World) (hA : HeapAt w p s) (hS : StoreAt w q p srt) :
    Calls Try.prog 33 #[.pointer (some ⟨q.sp, 0, none⟩), .int .i64 a] w fun e w' => e = .returned (.tuple #[.int .i64 (lookM srt s a).1, .int .i64 (lookM srt s a).2.1, .int .i64 (lookM srt s a).2.2]) ∧ Fr (fun _ => False) w w' := by
  have h0 := hS.h0
  have h1 := hS.h1
  have hread := read_any a 0 w hA
  have HF := Lib.hid (Fr.refl (fun _ => False) w)
  obtain ⟨R, hR⟩ : ∃ R, R = lookM srt s a := ⟨_, rfl⟩
  rw [← hR]
  unfold lookM at hR
  by_cases hh : HS.has s a 0
  · rw [if_pos hh] at hread hR
    simp only [Int.toNat_zero, Nat.add_zero] at hread
    have hx := hA.range a.toNat
    have hspl := split_any (s.word a.toNat) hx
    have hcap := fun W (hW : Fr (fun _ => False) w W) => cap_of a W (hA.fr hW fun _ _ => id)
    generalize s.word a.toNat = x at hread hspl hx hR
    have hC64 : s.cap a.toNat ≤ 64 := hA.wf.cap_le _
    generalize s.cap a.toNat = C at hcap hC64 hR
    unfold headIn at hR
    generalize wordSort x = S at hspl hR
    generalize wordSize x = Z at hspl hR
    have HREAD := Lib.hid hread
    have HCAP := Lib.hid hcap
    obtain ⟨n, hn⟩ : ∃ n, n = srt.length := ⟨_, rfl⟩
    have hfew : n ≤ 100 := by rw [hn]; exact hS.few
    by_cases hk : headOk S Z
    · rw [if_pos hk] at hspl
      have HSPL := Lib.hid hspl
      rw [decide_eq_true hk, Bool.true_and] at hR
      by_cases hn1 : S < srt.length
      · rw [decide_eq_true hn1, Bool.true_and] at hR
        obtain ⟨hk0, hk1, hk2, hk3⟩ := hk
        obtain ⟨k, rfl⟩ := Int.eq_ofNat_of_zero_le hk0
        have hkl : k < srt.length := by omega
        have c0 := hS.sort hkl (c := 0) (by omega)
        have c1 := hS.sort hkl (c := 1) (by omega)
        have c2 := hS.sort hkl (c := 2) (by omega)
        have c3 := hS.sort hkl (c := 3) (by omega)
        have c4 := hS.sort hkl (c := 4) (by omega)
        have c5 := hS.sort hkl (c := 5) (by omega)
        have c6 := hS.sort hkl (c := 6) (by omega)
        have c7 := hS.sort hkl (c := 7) (by omega)
        have c8 := hS.sort hkl (c := 8) (by omega)
        simp only [Inf.cell, Nat.add_zero] at c0 c1 c2 c3 c4 c5 c6 c7 c8
        have hok := getD_ok hS.ok hkl
        rw [Int.toNat_natCast] at hR
        generalize srt.getD k noInf = I at *
        have hfits := fun W => fits_any I hok Z W
        generalize I.fits Z = ft at hfits hR
        unfold Inf.val at hfits
        have HFITS : Hid (∀ W, Fr (fun _ => False) w W → Calls Try.prog 68 #[.agg #[.int .i64 I.kind, .int .i64 I.ptrs, .int .i64 I.nons, .int .i64 I.ar, .int .i64 I.tag, .int .i64 I.code, .int .i64 I.of, .int .i64 I.pick, .string ⟨#[]⟩], .int .i64 Z] W fun e w' => e = .returned (.bool ft) ∧ Hid (Fr (fun _ => False) w w')) := by
          intro W hW
          refine (hfits W).mono ?_
          rintro e w' ⟨rfl, h⟩
          exact ⟨rfl, hW.trans (Fr.of_below h)⟩
        rw [← hn] at h1 hkl
        have hnk : decide (n ≤ k) = false := by simp; omega
        clear hread hcap hspl hS hA hx hfits hok hn hn1 hh
        cases ft
        · rw [Bool.false_and, if_neg (by simp)] at hR
          subst hR
          go_enter Try.func33, Try.ntmps33
          go_wp2_with (first
            | (go_at_call 23; refine HREAD.out.mono ?_; rintro e w1 ⟨rfl, rfl⟩)
            | (go_at_call 73; refine (HSPL.out _).mono ?_; rintro e w1 ⟨rfl, rfl⟩)
            | (go_at_call 68; refine (HFITS.out _ HF.out).mono ?_; rintro e w2 ⟨rfl, hF2⟩))
          go_ret3
          exact ⟨rfl, Hid.out (by assumption)⟩
        · rw [Bool.true_and] at hR
          by_cases hcz : 1 + Z ≤ (C : Int)
          · rw [if_pos (decide_eq_true hcz)] at hR
            subst hR
            have hczb : decide ((C : Int) < 1 + Z) = false := by simp; omega
            clear hcz
            go_enter Try.func33, Try.ntmps33
            go_wp2_with (first
              | (go_at_call 23; refine HREAD.out.mono ?_; rintro e w1 ⟨rfl, rfl⟩)
              | (go_at_call 73; refine (HSPL.out _).mono ?_; rintro e w1 ⟨rfl, rfl⟩)
              | (go_at_call 68; refine (HFITS.out _ HF.out).mono ?_; rintro e w2 ⟨rfl, hF2⟩; have h0 := hF2.out.cell h0 id)
              | (go_at_call 22; refine (HCAP.out _ hF2.out).mono ?_; rintro e w3 ⟨rfl, rfl⟩))
            go_ret3
            exact ⟨rfl, Hid.out (by assumption)⟩
          · rw [if_neg (by simpa using hcz)] at hR
            subst hR
            go_enter Try.func33, Try.ntmps33
            go_wp2_with (first
              | (go_at_call 23; refine HREAD.out.mono ?_; rintro e w1 ⟨rfl, rfl⟩)
              | (go_at_call 73; refine (HSPL.out _).mono ?_; rintro e w1 ⟨rfl, rfl⟩)
              | (go_at_call 68; refine (HFITS.out _ HF.out).mono ?_; rintro e w2 ⟨rfl, hF2⟩; have h0 := hF2.out.cell h0 id)
              | (go_at_call 22; refine (HCAP.out _ hF2.out).mono ?_; rintro e w3 ⟨rfl, rfl⟩))
            go_ret3
            exact ⟨rfl, Hid.out (by assumption)⟩
      · rw [decide_eq_false hn1, Bool.false_and, if_neg (by simp)] at hR
        subst hR
        rw [← hn] at h1 hn1
        clear hread hcap hspl hS hA hx hn hk hh
        go_enter Try.func33, Try.ntmps33
        go_wp2_with (first
          | (go_at_call 23; refine HREAD.out.mono ?_; rintro e w1 ⟨rfl, rfl⟩)
          | (go_at_call 73; refine (HSPL.out _).mono ?_; rintro e w1 ⟨rfl, rfl⟩))
        go_ret3
        exact ⟨rfl, HF.out⟩
    · rw [if_neg hk] at hspl
      rw [decide_eq_false hk, Bool.false_and, if_neg (by simp)] at hR
      subst hR
      have HSPL := Lib.hid hspl
      clear hread hcap hspl hS hA hx hn hk hh
      go_enter Try.func33, Try.ntmps33
      go_wp2_with (first
        | (go_at_call 23; refine HREAD.out.mono ?_; rintro e w1 ⟨rfl, rfl⟩)
        | (go_at_call 73; refine (HSPL.out _).mono ?_; rintro e w1 ⟨rfl, rfl⟩))
      go_ret3
      exact ⟨rfl, HF.out⟩
  · rw [if_neg hh] at hread hR
    subst hR
    have HREAD := Lib.hid hread
    clear hread hh hS hA
    go_enter Try.func33, Try.ntmps33
    go_wp2_with (first | (go_at_call 23; refine HREAD.out.mono ?_; rintro e w1 ⟨rfl, rfl⟩))
    go_ret3
    exact ⟨rfl, HF.out⟩
end Go.Proofs.Ytjfpijoeddjgmaa
