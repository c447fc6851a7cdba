/- A set's numbers, sorted: maps.Keys and slices.Sorted by the library's contracts. Conditions: the set holds small numbers. -/
import Derived.Shelf.SlIterI.Nil
import Derived.Shelf.SortM.Plain
import Derived.Shelf.SortM.SortNone
import Derived.Test.YtjfpijoeddjgmaaMarkR
namespace Go.Proofs.Ytjfpijoeddjgmaa
open Go.RowKit Go.Maps Go.Sort Go.Shelf
def keysA_ren : Go.Shelf.Ren := ⟨fun | 7 => 88 | 10 => 101 | n => n, fun | 23 => 67 | 26 => 3 | 3 => 4 | 28 => 155 | 0 => 0 | 27 => 154 | 33 => 55 | 4 => 4 | n => n, fun n => n⟩
theorem keysA : SlLaysZI.n7 Try.prog keysA_ren := {
  mixed := by kernel_rfl,
  f7 := ⟨Try.f88.name, by decide, Try.func88.trans (congrArg some (by kernel_rfl))⟩,
  f10 := ⟨Try.f101.name, by decide, Try.func101.trans (congrArg some (by kernel_rfl))⟩,
  t0 := Try.underlying0,
  a0 := Try.isAgg0,
  z0 := Try.sizeOf0,
  v0 := Try.zeroValue0,
  t4 := Try.underlying4,
  a4 := Try.isAgg4,
  z4 := Try.sizeOf4,
  v4 := Try.zeroValue4,
  t23 := Try.underlying67,
  a23 := Try.isAgg67,
  z23 := Try.sizeOf67,
  v23 := Try.zeroValue67,
  t26 := Try.underlying3,
  a26 := Try.isAgg3,
  z26 := Try.sizeOf3,
  v26 := Try.zeroValue3,
  t27 := Try.underlying154,
  a27 := Try.isAgg154,
  z27 := Try.sizeOf154,
  v27 := Try.zeroValue154,
  t28 := Try.underlying155,
  a28 := Try.isAgg155,
  z28 := Try.sizeOf155,
  v28 := Try.zeroValue155,
  t33 := Try.underlying55,
  a33 := Try.isAgg55,
  z33 := Try.sizeOf55,
  v33 := Try.zeroValue55 }
def sortedA_ren : Go.Shelf.Ren := ⟨fun | 6 => 87 | 8 => 99 | 9 => 100 | 11 => 105 | 13 => 107 | 12 => 106 | 23 => 119 | 24 => 120 | 14 => 110 | 15 => 111 | 16 => 112 | 17 => 113 | 18 => 114 | 19 => 115 | 20 => 116 | 21 => 117 | 22 => 118 | 25 => 121 | 26 => 122 | 27 => 123 | 28 => 124 | 29 => 125 | 30 => 126 | 31 => 127 | n => n, fun | 26 => 3 | 28 => 155 | 24 => 29 | 0 => 0 | 3 => 3 | 37 => 28 | 48 => 179 | 50 => 33 | 4 => 4 | 40 => 173 | 39 => 172 | 45 => 158 | 5 => 5 | 9 => 9 | 51 => 181 | 55 => 185 | 57 => 187 | 58 => 137 | 33 => 55 | n => n, fun n => n⟩
theorem sortedA : SlLaysZI.n6 Try.prog sortedA_ren := {
  mixed := by kernel_rfl,
  f6 := ⟨Try.f87.name, by decide, Try.func87.trans (congrArg some (by kernel_rfl))⟩,
  f8 := ⟨Try.f99.name, by decide, Try.func99.trans (congrArg some (by kernel_rfl))⟩,
  f11 := ⟨Try.f105.name, by decide, Try.func105.trans (congrArg some (by kernel_rfl))⟩,
  t0 := Try.underlying0,
  a0 := Try.isAgg0,
  z0 := Try.sizeOf0,
  v0 := Try.zeroValue0,
  t24 := Try.underlying29,
  a24 := Try.isAgg29,
  z24 := Try.sizeOf29,
  v24 := Try.zeroValue29,
  t26 := Try.underlying3,
  a26 := Try.isAgg3,
  z26 := Try.sizeOf3,
  v26 := Try.zeroValue3,
  t28 := Try.underlying155,
  a28 := Try.isAgg155,
  z28 := Try.sizeOf155,
  v28 := Try.zeroValue155,
  i26 := by kernel_rfl }
def sortA_ren : Go.Shelf.Ren := ⟨fun | 5 => 100 | 8 => 107 | 7 => 106 | 19 => 119 | 20 => 120 | 10 => 110 | 11 => 111 | 12 => 112 | 13 => 113 | 14 => 114 | 15 => 115 | 16 => 116 | 17 => 117 | 18 => 118 | 30 => 121 | 31 => 122 | 32 => 123 | 33 => 124 | 34 => 125 | 35 => 126 | 40 => 127 | n => n, fun | 23 => 29 | 25 => 3 | 3 => 3 | 32 => 28 | 22 => 29 | 0 => 0 | 44 => 179 | 46 => 33 | 4 => 4 | 36 => 173 | 35 => 172 | 41 => 158 | 5 => 5 | 9 => 9 | 53 => 181 | 57 => 185 | 63 => 187 | 64 => 137 | n => n, fun n => n⟩
theorem sortA : SlLaysM.n5 Try.prog sortA_ren := {
  mixed := by kernel_rfl,
  f5 := ⟨Try.f100.name, by decide, Try.func100.trans (congrArg some (by kernel_rfl))⟩,
  f7 := ⟨Try.f106.name, by decide, Try.func106.trans (congrArg some (by kernel_rfl))⟩,
  f8 := Try.func107.trans (congrArg some (by kernel_rfl)),
  f10 := ⟨Try.f110.name, by decide, Try.func110.trans (congrArg some (by kernel_rfl))⟩,
  f11 := ⟨Try.f111.name, by decide, Try.func111.trans (congrArg some (by kernel_rfl))⟩,
  f12 := ⟨Try.f112.name, by decide, Try.func112.trans (congrArg some (by kernel_rfl))⟩,
  f13 := ⟨Try.f113.name, by decide, Try.func113.trans (congrArg some (by kernel_rfl))⟩,
  f14 := ⟨Try.f114.name, by decide, Try.func114.trans (congrArg some (by kernel_rfl))⟩,
  f15 := ⟨Try.f115.name, by decide, Try.func115.trans (congrArg some (by kernel_rfl))⟩,
  f16 := ⟨Try.f116.name, by decide, Try.func116.trans (congrArg some (by kernel_rfl))⟩,
  f17 := ⟨Try.f117.name, by decide, Try.func117.trans (congrArg some (by kernel_rfl))⟩,
  f18 := ⟨Try.f118.name, by decide, Try.func118.trans (congrArg some (by kernel_rfl))⟩,
  f19 := Try.func119.trans (congrArg some (by kernel_rfl)),
  f20 := Try.func120.trans (congrArg some (by kernel_rfl)),
  f30 := ⟨Try.f121.name, by decide, Try.func121.trans (congrArg some (by kernel_rfl))⟩,
  f31 := Try.func122.trans (congrArg some (by kernel_rfl)),
  f32 := Try.func123.trans (congrArg some (by kernel_rfl)),
  f33 := ⟨Try.f124.name, by decide, Try.func124.trans (congrArg some (by kernel_rfl))⟩,
  f34 := ⟨Try.f125.name, by decide, Try.func125.trans (congrArg some (by kernel_rfl))⟩,
  f35 := ⟨Try.f126.name, by decide, Try.func126.trans (congrArg some (by kernel_rfl))⟩,
  f40 := ⟨Try.f127.name, by decide, Try.func127.trans (congrArg some (by kernel_rfl))⟩,
  t0 := Try.underlying0,
  a0 := Try.isAgg0,
  z0 := Try.sizeOf0,
  v0 := Try.zeroValue0,
  t3 := Try.underlying3,
  a3 := Try.isAgg3,
  z3 := Try.sizeOf3,
  v3 := Try.zeroValue3,
  t4 := Try.underlying4,
  a4 := Try.isAgg4,
  z4 := Try.sizeOf4,
  v4 := Try.zeroValue4,
  t5 := Try.underlying5,
  a5 := Try.isAgg5,
  z5 := Try.sizeOf5,
  v5 := Try.zeroValue5,
  t9 := Try.underlying9,
  a9 := Try.isAgg9,
  z9 := Try.sizeOf9,
  v9 := Try.zeroValue9,
  t22 := Try.underlying29,
  a22 := Try.isAgg29,
  z22 := Try.sizeOf29,
  v22 := Try.zeroValue29,
  t23 := Try.underlying29,
  a23 := Try.isAgg29,
  z23 := Try.sizeOf29,
  v23 := Try.zeroValue29,
  t25 := Try.underlying3,
  a25 := Try.isAgg3,
  z25 := Try.sizeOf3,
  v25 := Try.zeroValue3,
  t32 := Try.underlying28,
  a32 := Try.isAgg28,
  z32 := Try.sizeOf28,
  v32 := Try.zeroValue28,
  t35 := Try.underlying172,
  a35 := Try.isAgg172,
  z35 := Try.sizeOf172,
  v35 := Try.zeroValue172,
  t36 := Try.underlying173,
  a36 := Try.isAgg173,
  z36 := Try.sizeOf173,
  v36 := Try.zeroValue173,
  t41 := Try.underlying158,
  a41 := Try.isAgg158,
  z41 := Try.sizeOf158,
  v41 := Try.zeroValue158,
  t44 := Try.underlying179,
  a44 := Try.isAgg179,
  z44 := Try.sizeOf179,
  v44 := Try.zeroValue179,
  t46 := Try.underlying33,
  a46 := Try.isAgg33,
  z46 := Try.sizeOf33,
  v46 := Try.zeroValue33,
  t53 := Try.underlying181,
  a53 := Try.isAgg181,
  z53 := Try.sizeOf181,
  v53 := Try.zeroValue181,
  t57 := Try.underlying185,
  a57 := Try.isAgg185,
  z57 := Try.sizeOf185,
  v57 := Try.zeroValue185,
  t63 := Try.underlying187,
  a63 := Try.isAgg187,
  z63 := Try.sizeOf187,
  v63 := Try.zeroValue187,
  t64 := Try.underlying137,
  a64 := Try.isAgg137,
  z64 := Try.sizeOf137,
  v64 := Try.zeroValue137 }
set_option maxRecDepth 100000 in
theorem sortsA (m : Nat) : AnyZI.SortsIn Try.prog sortedA_ren Fence.wide m :=
  ⟨fun blk off cap ss W hH hblk hsz => callsIn_wide.2 (AnyM.slices_Sort_int sortA blk off cap ss W hH hblk hsz),
   fun p cap W => callsIn_wide.2 (AnyM.slices_Sort_int_none sortA p cap W)⟩
set_option maxRecDepth 100000 in
theorem keys_any (mb : Option Nat) (W : World) : Calls Try.prog 88 #[.map mb] W fun e w' => e = .returned (.func (.func 101) #[] #[.pointer (some ⟨W.heap.size, 0, none⟩)]) ∧ w' = W.alloc (.cells #[.map mb] 67) :=
  (callsIn_wide (n := 5)).1 (AnyZI.keys_in keysA Fence.wide 5 trivial rfl mb W)
set_option maxRecDepth 100000 in
set_option maxHeartbeats 1000000 in
/-- The shelf's contract at a set that is not nil. -/
theorem sorted_raw {H : Type} (b nn : Nat) (D0 : DataW H) (R : Value → Option (DataW H × List MemPlace)) (w : World) (hown : w.ownsMap Try.prog 3 R b nn D0) (hmax : Maps.size D0 ≤ maxLen) (hbytes : Maps.size D0 * 8 ≤ 140737488355328) :
    Calls Try.prog 87 #[.func (.func 101) #[] #[.pointer (some ⟨w.heap.size, 0, none⟩)]] (w.alloc (.cells #[.map (some b)] 67)) fun e w' => ∃ (v : Value) (ss : List Int), e = .returned v ∧ ss.Perm (intKeys D0) ∧
      w'.ownsRow (w.alloc (.cells #[.map (some b)] 67)).heap.size 3 1 v ss.length ((ss.mergeSort (fun x y => decide (x ≤ y))).map encZ) ∧ (v = .slice none 0 0 ↔ ss = []) ∧ Below (w.alloc (.cells #[.map (some b)] 67)).heap.size (w.alloc (.cells #[.map (some b)] 67)) w' := by
  have hbl := hown.lt
  have hseq : SeqGives Fence.wide 2 Try.prog 101 #[.pointer (some ⟨w.heap.size, 0, none⟩)] encZ (fun ss => ss.Perm (intKeys D0)) (Maps.size D0) (w.alloc (.cells #[.map (some b)] 67)) :=
    AnyZI.keys_gives (ρ := keysA_ren) { keysA with } Fence.wide _ trivial rfl (by omega) w.heap.size b nn D0 _ (by simp) (by simp) (by
      obtain ⟨es, clock, hb, Ft, hs, hD⟩ := hown
      exact ⟨es, clock, (Below.heap_alloc _ _ b hbl).trans hb, Ft, hs, hD⟩)
  exact (callsIn_wide (n := 5)).1 (AnyZI.sorted_in sortedA Fence.wide 5 trivial trivial trivial trivial rfl (by omega) (sortsA _) (enters_of Try.func100 (by kernel_rfl) rfl) 101 #[.pointer (some ⟨w.heap.size, 0, none⟩)] trivial (enters_of Try.func101 (by kernel_rfl) rfl) _ _ hmax hbytes _ hseq)

theorem sorted_perm_eq {l l' : List Int} (h : l.Perm l') : sorted l = sorted l' := mergeSort_of_perm_i h
set_option maxRecDepth 100000 in
/-- A set of marks as the shelf reads it. -/
theorem SetAt.owns {w : World} {b : Nat} {K : List Int} {n : Nat} (h : SetAt w b K) (hr : ∀ x ∈ K, inR n x) (hn : n ≤ 2048) :
    ∃ (nn : Nat) (D0 : DataW Unit), w.ownsMap Try.prog 3 (plainElem Try.prog 4) b nn D0 ∧ Maps.size D0 = K.length ∧ (intKeys D0).Perm K := by
  have hlen := inR_len h.nodup hr
  obtain ⟨L, clk, hm, rfl⟩ := h
  have hkey : ∀ x ∈ L, (Lit.int .i64 x.1).wf = true := fun x hx => by
    have := hr x.1 (List.mem_map_of_mem hx)
    unfold inR at this
    simp only [Lit.wf, IntKind.min, IntKind.max, IntKind.signed, IntKind.bits, Bool.and_eq_true, decide_eq_true_eq, if_true]
    omega
  have hrd : ∀ x ∈ L, WideElems.rd (H := Unit) Try.prog 3 (plainElem Try.prog 4) (entOf yes x) = some (.int .i64 x.1, .lit (.bool true)) := fun x hx => by
    have h1 : keyOf Try.prog 3 (.int .i64 x.1) = some (.int .i64 x.1) := by
      unfold keyOf
      rw [Try.underlying3]
      show mapKey Try.prog 3 (.int .i64 x.1) = _
      unfold mapKey
      rw [Try.underlying3]
      simp [hkey x hx]
    have h2 : plainElem (H := Unit) Try.prog 4 (.bool true) = some (.lit (.bool true), []) := plainElem_bool Try.underlying4 true
    unfold WideElems.rd entOf yes
    simp only
    rw [h1, h2]
    rfl
  have hfit : WideElems.Fit (H := Unit) Try.prog 3 (plainElem Try.prog 4) (L.map (entOf yes)).toArray clk := by
    refine ⟨by simp [maxLen] at *; omega, ⟨fun x hx => ?_, ?_, ?_⟩, fun x hx => ?_⟩
    · simp only [List.mem_map] at hx
      obtain ⟨y, hy, rfl⟩ := hx
      exact hm.lt y hy
    · simp only [List.map_map]
      exact hm.borns
    · have h1 := hm.keys
      simp only [List.map_map]
      unfold List.Nodup at h1 ⊢
      rw [List.pairwise_map] at h1 ⊢
      refine h1.imp fun {x y} hne e => hne ?_
      simp only [Function.comp_apply, entOf, Value.int.injEq, true_and] at e
      exact e
    · simp only [List.mem_map] at hx
      obtain ⟨y, hy, rfl⟩ := hx
      exact ⟨_, hrd y hy⟩
  have hmap : (L.map (entOf yes)).map (WideElems.rg (H := Unit) Try.prog 3 (plainElem Try.prog 4)) = L.map fun x => (.int .i64 x.1, .lit (.bool true)) := by
    rw [List.map_map]
    refine List.map_congr_left fun x hx => ?_
    show (WideElems.rd (H := Unit) Try.prog 3 (plainElem Try.prog 4) (entOf yes x)).getD _ = _
    rw [hrd x hx]; rfl
  refine ⟨_, _, ⟨_, clk, hm.heap, hfit, Nat.le_refl _, rfl⟩, ?_, ?_⟩
  · rw [hmap]
    show (List.foldr DataW.insert [] _).length = _
    rw [(WideShapes.sorted_perm _).length_eq]
    simp
  · rw [hmap]
    show (List.map (fun p => Go.intOf p.1) (List.foldr DataW.insert [] _)).Perm _
    refine ((WideShapes.sorted_perm _).map _).trans ?_
    rw [List.map_map]
    exact List.Perm.refl _
set_option maxRecDepth 100000 in
theorem sorted_any {W : World} {b : Nat} {K : List Int} {n : Nat} (h : SetAt W b K) (hr : ∀ x ∈ K, inR n x) (hn : n ≤ 2048) :
    Calls Try.prog 87 #[.func (.func 101) #[] #[.pointer (some ⟨W.heap.size, 0, none⟩)]] (W.alloc (.cells #[.map (some b)] 67)) fun e w' => ∃ ao cap, e = .returned (.slice ao K.length cap) ∧ Hid (IntsAt w' W.heap.size (.slice ao K.length cap) (sorted K) ∧ Below W.heap.size W w' ∧ Fr (fun _ => False) (W.alloc (.cells #[.map (some b)] 67)) w') := by
  have hlen := inR_len h.nodup hr
  obtain ⟨nn, D0, hown, hs, hp⟩ := h.owns hr hn
  refine (sorted_raw b nn D0 _ W hown (by rw [hs]; unfold maxLen; omega) (by rw [hs]; omega)).mono ?_
  rintro e w' ⟨v, ss, rfl, hss, hrow, _, hb⟩
  have hpk : ss.Perm K := hss.trans hp
  have h0 : IntsAt w' (W.alloc (.cells #[.map (some b)] 67)).heap.size v (sorted ss) := by
    unfold IntsAt sorted
    rw [List.length_mergeSort]
    exact hrow
  have hi : IntsAt w' W.heap.size v (sorted K) := by
    rw [← sorted_perm_eq hpk]
    exact h0.mono (by simp)
  obtain ⟨ao, cap, rfl, _⟩ := hi.shape
  have hl : (sorted K).length = K.length := by unfold sorted; exact List.length_mergeSort _
  rw [hl] at hi ⊢
  exact ⟨ao, cap, rfl, hi, ((Below.refl _ W).alloc (Nat.le_refl _) _).trans (hb.mono (by simp)), Fr.of_below hb⟩
end Go.Proofs.Ytjfpijoeddjgmaa
