/- A law's store: what each call does, by equations of the plain model. Conditions: as each says. -/
import Derived.Test.YtjfpijoeddjgmaaPtrs
import Derived.Test.YtjfpijoeddjgmaaArgs
namespace Go.Proofs.Ytjfpijoeddjgmaa
open Go.RowKit Hm
set_option linter.unusedVariables false
theorem sort_of {k n : Int} (hk : 0 ≤ k ∧ k < 4294967296) : wordSort (headOf k n) = k := by unfold wordSort headOf; omega
theorem size_of {k n : Int} (hk : 0 ≤ k ∧ k < 4294967296) : wordSize (headOf k n) = n := by unfold wordSize headOf; omega
/-- A closure whose head stands. -/
theorem look_of {srt : List Inf} {s : HS} {a k n : Nat} (hk : k < srt.length) (hl : srt.length ≤ 100) (hf : (srt.getD k noInf).fits n = true) (h1 : 1 ≤ n) (h60 : n ≤ 60) (hw : s.word a = headOf k n) (hc : 1 + n ≤ s.cap a) : lookM srt s (a : Int) = ((k : Int), (n : Int), 0) := by
  unfold lookM
  have hh : HS.has s (a : Int) 0 := by unfold HS.has; rw [Int.toNat_natCast]; omega
  have hs : wordSort (headOf k n) = k := sort_of (by omega)
  have hz : wordSize (headOf k n) = n := size_of (by omega)
  rw [if_pos hh, Int.toNat_natCast, hw]
  have hi : headIn srt (headOf k n) (s.cap a) = true := by
    unfold headIn headOk
    rw [hs, hz, Int.toNat_natCast, hf]
    simp
    omega
  rw [if_pos hi, hs, hz]
theorem count_of {srt : List Inf} {s : HS} {a : Int} {k n : Nat} (h : lookM srt s a = ((k : Int), (n : Int), 0)) : countM srt s a = ((srt.getD k noInf).pointers n, (srt.getD k noInf).nons, 0) := by
  unfold countM; rw [h, if_pos rfl, Int.toNat_natCast]
theorem wr_of {s : HS} {a i : Nat} {v : Int} (h : i < s.cap a) : wrM s (a : Int) (i : Int) v = (0, s.write a i v) := by
  unfold wrM
  rw [if_pos (by unfold HS.has; rw [Int.toNat_natCast]; omega), Int.toNat_natCast, Int.toNat_natCast]
theorem rd_of {s : HS} {a i : Nat} (h : i < s.cap a) : rdM s (a : Int) (i : Int) = s.word (a + i) := by
  unfold rdM
  rw [if_pos (by unfold HS.has; rw [Int.toNat_natCast]; omega), Int.toNat_natCast, Int.toNat_natCast]
theorem write_cap (s : HS) (a i : Nat) (v : Int) (x : Nat) : (s.write a i v).cap x = s.cap x := rfl

section
variable {B : Nat} {w0 w : World} {q : SPl} {p : HP} {srt : List Inf} {s t : HS}
theorem Sto.point (h : Sto B w0 w q p srt s) (a i tt : Int) (hv : tt < 9223372036854775808) {e : Int} (he : pointM srt s a i tt = (e, t)) :
    Calls Try.prog 42 #[.pointer (some ⟨q.sp, 0, none⟩), .int .i64 a, .int .i64 i, .int .i64 tt] w fun x w' => x = .returned (.int .i64 e) ∧ Hid (Sto B w0 w' q p srt t ∧ Fr p.mine w w') := by
  have hc := point_any a i tt w h.own.at' h.sto hv
  rw [he] at hc
  refine hc.mono ?_
  rintro x w' ⟨rfl, h3, h4⟩
  exact ⟨rfl, h.step h4 h3, h4⟩
theorem Sto.set' (h : Sto B w0 w q p srt s) (a v : Int) (hv : 0 ≤ v ∧ v < 18446744073709551616) {e : Int} (he : setM srt s a v = (e, t)) :
    Calls Try.prog 43 #[.pointer (some ⟨q.sp, 0, none⟩), .int .i64 a, .int .u64 v] w fun x w' => x = .returned (.int .i64 e) ∧ Hid (Sto B w0 w' q p srt t ∧ Fr p.mine w w') := by
  have hc := set_any a v w h.own.at' h.sto hv
  rw [he] at hc
  refine hc.mono ?_
  rintro x w' ⟨rfl, h3, h4⟩
  exact ⟨rfl, h.step h4 h3, h4⟩
theorem Sto.new' (h : Sto B w0 w q p srt s) (sort size : Int) {a : Nat} {e : Int} (he : newM srt s sort size = (a, e, t)) :
    Calls Try.prog 29 #[.pointer (some ⟨q.sp, 0, none⟩), .int .i64 sort, .int .i64 size] w fun x w' => x = .returned (.tuple #[.int .i64 a, .int .i64 e]) ∧ Hid (Sto B w0 w' q p srt t ∧ Fr p.mine w w') := by
  have hc := new_obj sort size w h.own.at' h.sto h.sep
  rw [he] at hc
  refine hc.mono ?_
  rintro x w' ⟨rfl, h3, h4⟩
  exact ⟨rfl, h.step h4 h3, h4⟩
theorem Sto.hole (h : Sto B w0 w q p srt s) (a : Int) {e : Int} (he : becomeM srt s a 7 = (e, t)) :
    Calls Try.prog 44 #[.pointer (some ⟨q.sp, 0, none⟩), .int .i64 a] w fun x w' => x = .returned (.int .i64 e) ∧ Hid (Sto B w0 w' q p srt t ∧ Fr p.mine w w') := by
  have hc := hole_any a w h.own.at' h.sto
  rw [he] at hc
  refine hc.mono ?_
  rintro x w' ⟨rfl, h3, h4⟩
  exact ⟨rfl, h.step h4 h3, h4⟩
theorem Sto.ind (h : Sto B w0 w q p srt s) (a v : Int) (hv : v < 9223372036854775808) {e : Int} (he : indM srt s a v = (e, t)) :
    Calls Try.prog 45 #[.pointer (some ⟨q.sp, 0, none⟩), .int .i64 a, .int .i64 v] w fun x w' => x = .returned (.int .i64 e) ∧ Hid (Sto B w0 w' q p srt t ∧ Fr p.mine w w') := by
  have hc := ind_any a v w h.own.at' h.sto h.sep hv
  rw [he] at hc
  refine hc.mono ?_
  rintro x w' ⟨rfl, h3, h4⟩
  exact ⟨rfl, h.step h4 h3, h4⟩
theorem Sto.look (h : Sto B w0 w q p srt s) (a : Int) {k n e : Int} (he : lookM srt s a = (k, n, e)) :
    Calls Try.prog 33 #[.pointer (some ⟨q.sp, 0, none⟩), .int .i64 a] w fun x w' => x = .returned (.tuple #[.int .i64 k, .int .i64 n, .int .i64 e]) ∧ Hid (Sto B w0 w' q p srt s ∧ Fr (fun _ => False) w w') := by
  have hc := look_any a w h.own.at' h.sto
  rw [he] at hc
  refine hc.mono ?_
  rintro x w' ⟨rfl, h3⟩
  exact ⟨rfl, h.quiet h3, h3⟩
/-- Ptrs: a row of numbers that is new. -/
theorem Sto.ptrs (h : Sto B w0 w q p srt s) (a : Int) {l : List Int} {e : Int} (he : ptrsM srt s a = (l, e)) :
    Calls Try.prog 34 #[.pointer (some ⟨q.sp, 0, none⟩), .int .i64 a] w fun x w' => ∃ ao cap, x = .returned (.tuple #[.slice ao l.length cap, .int .i64 e]) ∧ Hid (Sto B w0 w' q p srt s ∧ Fr (fun _ => False) w w' ∧ IntsAt w' w.heap.size (.slice ao l.length cap) l) := by
  have hc := ptrs_any a w h.own.at' h.sto
  rw [he] at hc
  refine hc.mono ?_
  rintro x w' ⟨v, rfl, h3, h4⟩
  obtain ⟨ao, cap, rfl, _⟩ := h3.shape
  exact ⟨ao, cap, rfl, h.quiet (Fr.of_below h4), Fr.of_below h4, h3⟩
theorem Sto.world (h : Sto B w0 w q p srt s) : Fr (fun k => B ≤ k) w0 w := h.own.world
end
/-- A new row stays, whatever older blocks turn. -/
theorem IntsAt.kept {w w' : World} {C : Nat} {v : Value} {l : List Int} (h : IntsAt w C v l) {S : Nat → Prop} (hf : Fr S w w') (hS : ∀ k, S k → k < C) : IntsAt w' C v l :=
  h.fr hf fun k hk hs => by have := (h.lt k hk).1; have := hS k hs; omega
/-- Element j of a row, as a walk reads it. -/
theorem IntsAt.elem {w : World} {C : Nat} {ao : Option Addr} {n cap : Nat} {l : List Int} (h : IntsAt w C (.slice ao n cap) l) {j : Nat} (hj : j < l.length) : ∃ g, ao = some ⟨g, 0, none⟩ ∧ C ≤ g ∧ w.cell? ⟨g, j, none⟩ = some (.int .i64 (l.getD j 0)) := by
  rcases h.form with ⟨h1, h2⟩ | ⟨g, cap', h1, hg, _, hc⟩
  · rw [h2] at hj; exact absurd hj (by simp)
  · cases h1; exact ⟨g, rfl, hg, hc j hj⟩
end Go.Proofs.Ytjfpijoeddjgmaa
