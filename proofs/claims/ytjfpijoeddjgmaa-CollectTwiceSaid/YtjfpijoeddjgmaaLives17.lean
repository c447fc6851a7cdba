/- Law 17's sorts, its example. No condition. -/
import Derived.Test.YtjfpijoeddjgmaaObj3
namespace Go.Proofs.Ytjfpijoeddjgmaa
open Go.RowKit Hm
set_option linter.unusedVariables false

def sorts17 : List Inf := [⟨4, 0, 1, 0, 0, 0, 0, 0⟩, ⟨0, 2, 0, 0, 1, 0, 0, 0⟩, ⟨2, 3, 0, 0, 0, 0, 0, 0⟩, ⟨3, 0, 0, 0, 0, 0, 0, 0⟩, ⟨7, 0, 0, 0, 0, 0, 0, 0⟩, ⟨6, 1, 0, 0, 0, 0, 0, 0⟩, ⟨0, 0, 0, 0, 0, 0, 0, 0⟩, ⟨1, 0, 0, 2, 0, 0, 0, 0⟩, ⟨0, 40, 0, 0, 0, 0, 0, 0⟩]
theorem sorts17_ok : ∀ i ∈ sorts17, i.Ok := by
  intro i hi
  simp only [sorts17, List.mem_cons, List.not_mem_nil, or_false] at hi
  rcases hi with rfl | rfl | rfl | rfl | rfl | rfl | rfl | rfl | rfl <;> exact ⟨by decide, by decide, by decide, by decide, by decide⟩
/-- A new row of sorts. -/
def SortsAt (w : World) (sb : Nat) (srt : List Inf) : Prop := BlkAt w sb 80 (9 * srt.length) (sortCell srt)
theorem blk_new (w : World) (T : TypeId) (cs : Array Value) (n : Nat) (f : Nat → Value) (h : cs = ((List.range n).map f).toArray) : BlkAt (w.alloc (.cells cs T)) w.heap.size T n f := by
  refine ⟨cs, by show (w.heap.push _)[w.heap.size]? = _; rw [Array.getElem?_push_size], ?_, fun i hi => ?_⟩
  · rw [h]; simp
  · rw [h]; simp [hi]
set_option maxRecDepth 100000 in
theorem sorts17_any (w : World) : Calls Try.prog 46 #[] w fun e w' => ∃ sb, e = .returned (.slice (some ⟨sb, 0, none⟩) 9 9) ∧ w.heap.size ≤ sb ∧ SortsAt w' sb sorts17 ∧ Below w.heap.size w w' := by
  go_enter Try.func46, Try.ntmps46
  go_wp2
  go_ret
  exact ⟨_, rfl, Nat.le_refl _, blk_new w 80 _ 81 (sortCell sorts17) (by kernel_rfl), (Below.refl _ _).alloc (Nat.le_refl _) _⟩

/-- A law lays a store over its heap. -/
theorem Sto.make {B : Nat} {w0 w : World} {p : HP} {s : HS} {sb : Nat} {srt : List Inf} (h : Own B w0 w p s) (hs : SortsAt w sb srt) (ok : ∀ i ∈ srt, i.Ok) (few : srt.length ≤ 100) (hne : ∀ k, p.mine k → k ≠ sb) (hB : B ≤ sb) :
    Sto B w0 (w.alloc (.cells #[.pointer (some ⟨p.h, 0, none⟩), .slice (some ⟨sb, 0, none⟩) srt.length srt.length] 47)) ⟨w.heap.size, sb⟩ p srt s := by
  have hf := (Fr.refl (fun _ => False) w).alloc (.cells #[.pointer (some ⟨p.h, 0, none⟩), .slice (some ⟨sb, 0, none⟩) srt.length srt.length] 47)
  refine ⟨h.other hf (fun _ _ => id) (fun _ h => h.elim), ⟨blk_new w 47 _ 2 _ rfl, hs.fr hf id, ok, few⟩, fun k hk => ⟨?_, hne k hk⟩, ⟨h.size, hB⟩⟩
  have := h.at'.lt k hk
  show k ≠ w.heap.size
  omega
theorem Own.quiet {B : Nat} {w0 w w' : World} {p : HP} {s : HS} (h : Own B w0 w p s) (hf : Fr (fun _ => False) w w') : Own B w0 w' p s := h.other hf (fun _ _ => id) (fun _ h => h.elim)

set_option maxHeartbeats 4000000 in
set_option maxRecDepth 100000 in
theorem live17_nums : (newM sorts17 (HS.empty 2) 0 1).1 = 1 ∧ (newM sorts17 (HS.empty 2) 0 1).2.1 = 0 ∧ (setM sorts17 (newM sorts17 (HS.empty 2) 0 1).2.2 1 7).1 = 0 ∧
    numM sorts17 (setM sorts17 (newM sorts17 (HS.empty 2) 0 1).2.2 1 7).2 1 = (7, 0) := by decide

theorem Sto.new {B : Nat} {w0 w : World} {q : SPl} {p : HP} {srt : List Inf} {s : HS} (h : Sto B w0 w q p srt s) (sort size : Int) {a : Nat} {e : Int} {t : HS} (he : newM srt s sort size = (a, e, t)) :
    Calls Try.prog 29 #[.pointer (some ⟨q.sp, 0, none⟩), .int .i64 sort, .int .i64 size] w fun x w' => x = .returned (.tuple #[.int .i64 a, .int .i64 e]) ∧ Hid (Sto B w0 w' q p srt t) := by
  have hc := new_obj sort size w h.own.at' h.sto h.sep
  rw [he] at hc
  refine hc.mono ?_
  rintro x w' ⟨rfl, h3, h4⟩
  exact ⟨rfl, h.step h4 h3⟩
theorem Sto.set {B : Nat} {w0 w : World} {q : SPl} {p : HP} {srt : List Inf} {s : HS} (h : Sto B w0 w q p srt s) (a v : Int) (hv : 0 ≤ v ∧ v < 18446744073709551616) {e : Int} {t : HS} (he : setM srt s a v = (e, t)) :
    Calls Try.prog 43 #[.pointer (some ⟨q.sp, 0, none⟩), .int .i64 a, .int .u64 v] w fun x w' => x = .returned (.int .i64 e) ∧ Hid (Sto B w0 w' q p srt t) := by
  have hc := set_any a v w h.own.at' h.sto hv
  rw [he] at hc
  refine hc.mono ?_
  rintro x w' ⟨rfl, h3, h4⟩
  exact ⟨rfl, h.step h4 h3⟩
theorem Sto.num {B : Nat} {w0 w : World} {q : SPl} {p : HP} {srt : List Inf} {s : HS} (h : Sto B w0 w q p srt s) (a : Int) {e v : Int} (he : numM srt s a = (v, e)) :
    Calls Try.prog 35 #[.pointer (some ⟨q.sp, 0, none⟩), .int .i64 a] w fun x w' => x = .returned (.tuple #[.int .u64 v, .int .i64 e]) ∧ Hid (Sto B w0 w' q p srt s) := by
  have hc := num_any a w h.own.at' h.sto
  rw [he] at hc
  refine hc.mono ?_
  rintro x w' ⟨rfl, h3⟩
  exact ⟨rfl, h.quiet h3⟩
set_option maxRecDepth 100000 in
theorem lives17 (w : World) : Calls Try.prog 40 #[] w fun e w' => e = .returned (.bool true) ∧ Below w.heap.size w w' := by
  obtain ⟨B, hB⟩ : ∃ B, B = w.heap.size := ⟨_, rfl⟩
  rw [← hB]
  have H1 : Hid (Calls Try.prog 20 #[.int .i64 64] w fun e w' => ∃ p : HP, e = .returned (.tuple #[.pointer (some ⟨p.h, 0, none⟩), .int .i64 0]) ∧ Hid (Own B w w' p (HS.empty 2))) := by
    refine (new_any 64 2 w (by decide) (by decide) (by decide) B w (Below.refl _ _) (by omega)).mono ?_
    rintro e w' ⟨p, rfl, h1, h2, h3, h4⟩
    exact ⟨p, rfl, h1, h2, h3, h4⟩
  clear hB
  obtain ⟨n1, n2, n3, n4⟩ := live17_nums
  obtain ⟨r1, hr1⟩ : ∃ r, r = newM sorts17 (HS.empty 2) 0 1 := ⟨_, rfl⟩
  rw [← hr1] at n1 n2 n3 n4
  obtain ⟨r2, hr2⟩ : ∃ r, r = setM sorts17 r1.2.2 1 7 := ⟨_, rfl⟩
  rw [← hr2] at n3 n4
  obtain ⟨a1, e1, s1⟩ := r1
  obtain ⟨e2, s2⟩ := r2
  simp only at n1 n2 n3 n4 hr2
  subst n1 n2 n3
  have HR1 := Lib.hid hr1.symm
  have HR2 := Lib.hid hr2.symm
  have HN4 := Lib.hid n4
  clear hr1 hr2 n4
  go_enter Try.func40, Try.ntmps40
  go_wp2_with fail
  refine H1.out.mono ?_
  rintro e w1 ⟨p, rfl, h1⟩
  go_wp2_with fail
  refine (sorts17_any w1).mono ?_
  rintro e w2 ⟨sb, rfl, hsb, hso, hbl⟩
  have hS : Hid (Sto B w (w2.alloc (.cells #[.pointer (some ⟨p.h, 0, none⟩), .slice (some ⟨sb, 0, none⟩) 9 9] 47)) ⟨w2.heap.size, sb⟩ p sorts17 (HS.empty 2)) :=
    Sto.make (h1.out.quiet (Fr.of_below hbl)) hso sorts17_ok (by decide) (fun k hk => by have := h1.out.at'.lt k hk; omega) (by have := h1.out.size; omega)
  obtain ⟨W, hW⟩ : ∃ W, W = w2.alloc (.cells #[.pointer (some ⟨p.h, 0, none⟩), .slice (some ⟨sb, 0, none⟩) 9 9] 47) := ⟨_, rfl⟩
  obtain ⟨sp, hsp⟩ : ∃ sp, sp = w2.heap.size := ⟨_, rfl⟩
  rw [← hW, ← hsp] at hS
  clear hsb hso hbl h1
  have HC1 := Lib.hid (hS.out.new 0 1 HR1.out)
  clear hS
  have HW2 := Lib.hid (And.intro hW hsp)
  clear hW hsp
  go_wp2_with fail
  obtain ⟨hW, hsp⟩ := HW2.out
  rw [← hW, ← hsp]
  clear hW hsp
  refine HC1.out.mono ?_
  rintro e w3 ⟨rfl, hS3⟩
  have HC2 := Lib.hid (hS3.out.set 1 7 ⟨by decide, by decide⟩ HR2.out)
  clear HC1
  go_wp2_with fail
  refine HC2.out.mono ?_
  rintro e w4 ⟨rfl, hS4⟩
  have HC3 := Lib.hid (hS4.out.num 1 HN4.out)
  clear HC2
  go_wp2_with (first | (go_at_call 35; refine HC3.out.mono ?_; rintro e w5 ⟨rfl, hF⟩))
  go_ret
  exact ⟨rfl, hF.out.own.below⟩
end Go.Proofs.Ytjfpijoeddjgmaa
