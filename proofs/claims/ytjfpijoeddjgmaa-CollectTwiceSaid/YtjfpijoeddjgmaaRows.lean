/-
  No cell of these rows narrows 'for every input' (looked for: loops, veiled, ifaces, maps, wideKeys, modest, calm, conditions, laid).
  DERIVED. THE GIVEN ROWS OF THIS SEAT. 16 by the template 'for every input the law returns true; each argument reads behind the call as it read before'; 0 by the template 'total and deterministic' (their statements: YtjfpijoeddjgmaaTotals.lean).
  GIVEN WITH THE SEED: the statements are not yours to turn. If you find one false, say at which input.
  Laid BY PROGRAM, IN A SANDBOX (cutbox-rows.mjs): the forced cells as the released guide's own fill.sh prints them over the translation 6dca79155b0a0c00… (all of the seat's roots in one cut). By AI agents, Wed Nov 11 2026. No macro, syntax, notation, axiom, sorry.
-/
import Derived.Test.YtjfpijoeddjgmaaChecked
import GoSem.Claim
import GoSem.ClaimJoined
import GoSem.ClaimMapViews
import Derived.JoinedTies
import Derived.KernelRfl
namespace Go.Proofs.Ytjfpijoeddjgmaa
/- THE CELL 'sum', in the pinned program and in every row, IS THE sha256 OF THE DUMP (.gsa) THAT YtjfpijoeddjgmaaProg.lean LOADS. Nothing in Lean hashes anything: it is a label: what it is worth is what the hold of that sum in a sandbox is worth. -/
noncomputable def Try.pinned : Pinned := { name := "ytjfpijoeddjgmaa", sum := "6dca79155b0a0c00ca5175e45bc06739fc2877e0e0d2edb59a0bd6e82614c531", checked := Try.checked }
namespace Rows
def none {H : Type} : Left H := { results := [], args := [] }

/-- 'reverielaw16.HeapAgain': WHATEVER THE INPUT: true; the input reads as it did. -/
def heapAgainSpec : ChangeSpec := { name := "heapAgain", fn := fun _ => fun
  | [d1, d2] => { results := [.lit (.bool true)], args := [d1, d2] }
  | _ => none }
def heapAgainRow : OpenClaim := { program := "ytjfpijoeddjgmaa", sum := "6dca79155b0a0c00ca5175e45bc06739fc2877e0e0d2edb59a0bd6e82614c531", func := "reverie/reverielaw16.HeapAgain", spec := "heapAgain", apart := false }
def HeapAgainSaid : Prop := heapAgainRow.holds Try.pinned (OpenSpec.ofChange heapAgainSpec)

/-- ITS FALSE NEIGHBOUR: 'it returns false'. Refute it at one input. -/
def heapAgainWrong : ChangeSpec := { name := "heapAgain", fn := fun _ => fun
  | [d1, d2] => { results := [.lit (.bool false)], args := [d1, d2] }
  | _ => none }
def HeapAgainWrongFalsely : Prop := heapAgainRow.holds Try.pinned (OpenSpec.ofChange heapAgainWrong)

/-- 'reverielaw20.CollectRoom': WHATEVER THE INPUT: true; the input reads as it did. -/
def collectRoomSpec : ChangeSpec := { name := "collectRoom", fn := fun _ => fun
  | [d1, d2, d3] => { results := [.lit (.bool true)], args := [d1, d2, d3] }
  | _ => none }
def collectRoomRow : OpenClaim := { program := "ytjfpijoeddjgmaa", sum := "6dca79155b0a0c00ca5175e45bc06739fc2877e0e0d2edb59a0bd6e82614c531", func := "reverie/reverielaw20.CollectRoom", spec := "collectRoom", unfollowed := true, recurses := true, apart := false }
def CollectRoomSaid : Prop := collectRoomRow.holds Try.pinned (OpenSpec.ofChange collectRoomSpec)

/-- ITS FALSE NEIGHBOUR: 'it returns false'. Refute it at one input. -/
def collectRoomWrong : ChangeSpec := { name := "collectRoom", fn := fun _ => fun
  | [d1, d2, d3] => { results := [.lit (.bool false)], args := [d1, d2, d3] }
  | _ => none }
def CollectRoomWrongFalsely : Prop := collectRoomRow.holds Try.pinned (OpenSpec.ofChange collectRoomWrong)

/-- 'reverielaw16.HeapJoins': WHATEVER THE INPUT: true; the input reads as it did. -/
def heapJoinsSpec : ChangeSpec := { name := "heapJoins", fn := fun _ => fun
  | [d1, d2] => { results := [.lit (.bool true)], args := [d1, d2] }
  | _ => none }
def heapJoinsRow : OpenClaim := { program := "ytjfpijoeddjgmaa", sum := "6dca79155b0a0c00ca5175e45bc06739fc2877e0e0d2edb59a0bd6e82614c531", func := "reverie/reverielaw16.HeapJoins", spec := "heapJoins", unfollowed := true, recurses := true, apart := false }
def HeapJoinsSaid : Prop := heapJoinsRow.holds Try.pinned (OpenSpec.ofChange heapJoinsSpec)

/-- ITS FALSE NEIGHBOUR: 'it returns false'. Refute it at one input. -/
def heapJoinsWrong : ChangeSpec := { name := "heapJoins", fn := fun _ => fun
  | [d1, d2] => { results := [.lit (.bool false)], args := [d1, d2] }
  | _ => none }
def HeapJoinsWrongFalsely : Prop := heapJoinsRow.holds Try.pinned (OpenSpec.ofChange heapJoinsWrong)

/-- 'reverielaw20.CollectKeeps': WHATEVER THE INPUT: true; the input reads as it did. -/
def collectKeepsSpec : ChangeSpec := { name := "collectKeeps", fn := fun _ => fun
  | [d1, d2, d3] => { results := [.lit (.bool true)], args := [d1, d2, d3] }
  | _ => none }
def collectKeepsRow : OpenClaim := { program := "ytjfpijoeddjgmaa", sum := "6dca79155b0a0c00ca5175e45bc06739fc2877e0e0d2edb59a0bd6e82614c531", func := "reverie/reverielaw20.CollectKeeps", spec := "collectKeeps", unfollowed := true, recurses := true, apart := false }
def CollectKeepsSaid : Prop := collectKeepsRow.holds Try.pinned (OpenSpec.ofChange collectKeepsSpec)

/-- ITS FALSE NEIGHBOUR: 'it returns false'. Refute it at one input. -/
def collectKeepsWrong : ChangeSpec := { name := "collectKeeps", fn := fun _ => fun
  | [d1, d2, d3] => { results := [.lit (.bool false)], args := [d1, d2, d3] }
  | _ => none }
def CollectKeepsWrongFalsely : Prop := collectKeepsRow.holds Try.pinned (OpenSpec.ofChange collectKeepsWrong)

/-- 'reverielaw16.HeapFull': WHATEVER THE INPUT: true; the input reads as it did. -/
def heapFullSpec : ChangeSpec := { name := "heapFull", fn := fun _ => fun
  | [d1, d2, d3] => { results := [.lit (.bool true)], args := [d1, d2, d3] }
  | _ => none }
def heapFullRow : OpenClaim := { program := "ytjfpijoeddjgmaa", sum := "6dca79155b0a0c00ca5175e45bc06739fc2877e0e0d2edb59a0bd6e82614c531", func := "reverie/reverielaw16.HeapFull", spec := "heapFull", unfollowed := true, recurses := true, apart := false }
def HeapFullSaid : Prop := heapFullRow.holds Try.pinned (OpenSpec.ofChange heapFullSpec)

/-- ITS FALSE NEIGHBOUR: 'it returns false'. Refute it at one input. -/
def heapFullWrong : ChangeSpec := { name := "heapFull", fn := fun _ => fun
  | [d1, d2, d3] => { results := [.lit (.bool false)], args := [d1, d2, d3] }
  | _ => none }
def HeapFullWrongFalsely : Prop := heapFullRow.holds Try.pinned (OpenSpec.ofChange heapFullWrong)

/-- 'reverielaw16.HeapActs': WHATEVER THE INPUT: true; the input reads as it did. -/
def heapActsSpec : ChangeSpec := { name := "heapActs", fn := fun _ => fun
  | [d1, d2] => { results := [.lit (.bool true)], args := [d1, d2] }
  | _ => none }
def heapActsRow : OpenClaim := { program := "ytjfpijoeddjgmaa", sum := "6dca79155b0a0c00ca5175e45bc06739fc2877e0e0d2edb59a0bd6e82614c531", func := "reverie/reverielaw16.HeapActs", spec := "heapActs", unfollowed := true, recurses := true, apart := false }
def HeapActsSaid : Prop := heapActsRow.holds Try.pinned (OpenSpec.ofChange heapActsSpec)

/-- ITS FALSE NEIGHBOUR: 'it returns false'. Refute it at one input. -/
def heapActsWrong : ChangeSpec := { name := "heapActs", fn := fun _ => fun
  | [d1, d2] => { results := [.lit (.bool false)], args := [d1, d2] }
  | _ => none }
def HeapActsWrongFalsely : Prop := heapActsRow.holds Try.pinned (OpenSpec.ofChange heapActsWrong)

/-- 'reverielaw16.HeapNil': WHATEVER THE INPUT: true; the input reads as it did. -/
def heapNilSpec : ChangeSpec := { name := "heapNil", fn := fun _ => fun
  | [d] => { results := [.lit (.bool true)], args := [d] }
  | _ => none }
def heapNilRow : OpenClaim := { program := "ytjfpijoeddjgmaa", sum := "6dca79155b0a0c00ca5175e45bc06739fc2877e0e0d2edb59a0bd6e82614c531", func := "reverie/reverielaw16.HeapNil", spec := "heapNil", unfollowed := true, recurses := true, apart := false }
def HeapNilSaid : Prop := heapNilRow.holds Try.pinned (OpenSpec.ofChange heapNilSpec)

/-- ITS FALSE NEIGHBOUR: 'it returns false'. Refute it at one input. -/
def heapNilWrong : ChangeSpec := { name := "heapNil", fn := fun _ => fun
  | [d] => { results := [.lit (.bool false)], args := [d] }
  | _ => none }
def HeapNilWrongFalsely : Prop := heapNilRow.holds Try.pinned (OpenSpec.ofChange heapNilWrong)

/-- 'reverielaw17.ObjectNil': WHATEVER THE INPUT: true; the input reads as it did. -/
def objectNilSpec : ChangeSpec := { name := "objectNil", fn := fun _ => fun
  | [d1, d2] => { results := [.lit (.bool true)], args := [d1, d2] }
  | _ => none }
def objectNilRow : OpenClaim := { program := "ytjfpijoeddjgmaa", sum := "6dca79155b0a0c00ca5175e45bc06739fc2877e0e0d2edb59a0bd6e82614c531", func := "reverie/reverielaw17.ObjectNil", spec := "objectNil", apart := false }
def ObjectNilSaid : Prop := objectNilRow.holds Try.pinned (OpenSpec.ofChange objectNilSpec)

/-- ITS FALSE NEIGHBOUR: 'it returns false'. Refute it at one input. -/
def objectNilWrong : ChangeSpec := { name := "objectNil", fn := fun _ => fun
  | [d1, d2] => { results := [.lit (.bool false)], args := [d1, d2] }
  | _ => none }
def ObjectNilWrongFalsely : Prop := objectNilRow.holds Try.pinned (OpenSpec.ofChange objectNilWrong)

/-- 'reverielaw17.ObjectTurns': WHATEVER THE INPUT: true; the input reads as it did. -/
def objectTurnsSpec : ChangeSpec := { name := "objectTurns", fn := fun _ => fun
  | [d1, d2] => { results := [.lit (.bool true)], args := [d1, d2] }
  | _ => none }
def objectTurnsRow : OpenClaim := { program := "ytjfpijoeddjgmaa", sum := "6dca79155b0a0c00ca5175e45bc06739fc2877e0e0d2edb59a0bd6e82614c531", func := "reverie/reverielaw17.ObjectTurns", spec := "objectTurns", apart := false }
def ObjectTurnsSaid : Prop := objectTurnsRow.holds Try.pinned (OpenSpec.ofChange objectTurnsSpec)

/-- ITS FALSE NEIGHBOUR: 'it returns false'. Refute it at one input. -/
def objectTurnsWrong : ChangeSpec := { name := "objectTurns", fn := fun _ => fun
  | [d1, d2] => { results := [.lit (.bool false)], args := [d1, d2] }
  | _ => none }
def ObjectTurnsWrongFalsely : Prop := objectTurnsRow.holds Try.pinned (OpenSpec.ofChange objectTurnsWrong)

/-- 'reverielaw17.ObjectActs': WHATEVER THE INPUT: true; the input reads as it did. -/
def objectActsSpec : ChangeSpec := { name := "objectActs", fn := fun _ => fun
  | [d1, d2] => { results := [.lit (.bool true)], args := [d1, d2] }
  | _ => none }
def objectActsRow : OpenClaim := { program := "ytjfpijoeddjgmaa", sum := "6dca79155b0a0c00ca5175e45bc06739fc2877e0e0d2edb59a0bd6e82614c531", func := "reverie/reverielaw17.ObjectActs", spec := "objectActs", apart := false }
def ObjectActsSaid : Prop := objectActsRow.holds Try.pinned (OpenSpec.ofChange objectActsSpec)

/-- ITS FALSE NEIGHBOUR: 'it returns false'. Refute it at one input. -/
def objectActsWrong : ChangeSpec := { name := "objectActs", fn := fun _ => fun
  | [d1, d2] => { results := [.lit (.bool false)], args := [d1, d2] }
  | _ => none }
def ObjectActsWrongFalsely : Prop := objectActsRow.holds Try.pinned (OpenSpec.ofChange objectActsWrong)

/-- 'reverielaw19.MarkArgs': WHATEVER THE INPUT: true; the input reads as it did. -/
def markArgsSpec : ChangeSpec := { name := "markArgs", fn := fun _ => fun
  | [d1, d2] => { results := [.lit (.bool true)], args := [d1, d2] }
  | _ => none }
def markArgsRow : OpenClaim := { program := "ytjfpijoeddjgmaa", sum := "6dca79155b0a0c00ca5175e45bc06739fc2877e0e0d2edb59a0bd6e82614c531", func := "reverie/reverielaw19.MarkArgs", spec := "markArgs", unfollowed := true, recurses := true, apart := false }
def MarkArgsSaid : Prop := markArgsRow.holds Try.pinned (OpenSpec.ofChange markArgsSpec)

/-- ITS FALSE NEIGHBOUR: 'it returns false'. Refute it at one input. -/
def markArgsWrong : ChangeSpec := { name := "markArgs", fn := fun _ => fun
  | [d1, d2] => { results := [.lit (.bool false)], args := [d1, d2] }
  | _ => none }
def MarkArgsWrongFalsely : Prop := markArgsRow.holds Try.pinned (OpenSpec.ofChange markArgsWrong)

/-- 'reverielaw19.MarkLong': WHATEVER THE INPUT: true; the input reads as it did. -/
def markLongSpec : ChangeSpec := { name := "markLong", fn := fun _ => fun
  | [d1, d2] => { results := [.lit (.bool true)], args := [d1, d2] }
  | _ => none }
def markLongRow : OpenClaim := { program := "ytjfpijoeddjgmaa", sum := "6dca79155b0a0c00ca5175e45bc06739fc2877e0e0d2edb59a0bd6e82614c531", func := "reverie/reverielaw19.MarkLong", spec := "markLong", unfollowed := true, recurses := true, apart := false }
def MarkLongSaid : Prop := markLongRow.holds Try.pinned (OpenSpec.ofChange markLongSpec)

/-- ITS FALSE NEIGHBOUR: 'it returns false'. Refute it at one input. -/
def markLongWrong : ChangeSpec := { name := "markLong", fn := fun _ => fun
  | [d1, d2] => { results := [.lit (.bool false)], args := [d1, d2] }
  | _ => none }
def MarkLongWrongFalsely : Prop := markLongRow.holds Try.pinned (OpenSpec.ofChange markLongWrong)

/-- 'reverielaw19.MarkRooms': WHATEVER THE INPUT: true; the input reads as it did. -/
def markRoomsSpec : ChangeSpec := { name := "markRooms", fn := fun _ => fun
  | [d1, d2, d3] => { results := [.lit (.bool true)], args := [d1, d2, d3] }
  | _ => none }
def markRoomsRow : OpenClaim := { program := "ytjfpijoeddjgmaa", sum := "6dca79155b0a0c00ca5175e45bc06739fc2877e0e0d2edb59a0bd6e82614c531", func := "reverie/reverielaw19.MarkRooms", spec := "markRooms", unfollowed := true, recurses := true, apart := false }
def MarkRoomsSaid : Prop := markRoomsRow.holds Try.pinned (OpenSpec.ofChange markRoomsSpec)

/-- ITS FALSE NEIGHBOUR: 'it returns false'. Refute it at one input. -/
def markRoomsWrong : ChangeSpec := { name := "markRooms", fn := fun _ => fun
  | [d1, d2, d3] => { results := [.lit (.bool false)], args := [d1, d2, d3] }
  | _ => none }
def MarkRoomsWrongFalsely : Prop := markRoomsRow.holds Try.pinned (OpenSpec.ofChange markRoomsWrong)

/-- 'reverielaw19.MarkReaches': WHATEVER THE INPUT: true; the input reads as it did. -/
def markReachesSpec : ChangeSpec := { name := "markReaches", fn := fun _ => fun
  | [d1, d2, d3] => { results := [.lit (.bool true)], args := [d1, d2, d3] }
  | _ => none }
def markReachesRow : OpenClaim := { program := "ytjfpijoeddjgmaa", sum := "6dca79155b0a0c00ca5175e45bc06739fc2877e0e0d2edb59a0bd6e82614c531", func := "reverie/reverielaw19.MarkReaches", spec := "markReaches", unfollowed := true, recurses := true, apart := false }
def MarkReachesSaid : Prop := markReachesRow.holds Try.pinned (OpenSpec.ofChange markReachesSpec)

/-- ITS FALSE NEIGHBOUR: 'it returns false'. Refute it at one input. -/
def markReachesWrong : ChangeSpec := { name := "markReaches", fn := fun _ => fun
  | [d1, d2, d3] => { results := [.lit (.bool false)], args := [d1, d2, d3] }
  | _ => none }
def MarkReachesWrongFalsely : Prop := markReachesRow.holds Try.pinned (OpenSpec.ofChange markReachesWrong)

/-- 'reverielaw20.CollectTwice': WHATEVER THE INPUT: true; the input reads as it did. -/
def collectTwiceSpec : ChangeSpec := { name := "collectTwice", fn := fun _ => fun
  | [d1, d2, d3] => { results := [.lit (.bool true)], args := [d1, d2, d3] }
  | _ => none }
def collectTwiceRow : OpenClaim := { program := "ytjfpijoeddjgmaa", sum := "6dca79155b0a0c00ca5175e45bc06739fc2877e0e0d2edb59a0bd6e82614c531", func := "reverie/reverielaw20.CollectTwice", spec := "collectTwice", unfollowed := true, recurses := true, apart := false }
def CollectTwiceSaid : Prop := collectTwiceRow.holds Try.pinned (OpenSpec.ofChange collectTwiceSpec)

/-- ITS FALSE NEIGHBOUR: 'it returns false'. Refute it at one input. -/
def collectTwiceWrong : ChangeSpec := { name := "collectTwice", fn := fun _ => fun
  | [d1, d2, d3] => { results := [.lit (.bool false)], args := [d1, d2, d3] }
  | _ => none }
def CollectTwiceWrongFalsely : Prop := collectTwiceRow.holds Try.pinned (OpenSpec.ofChange collectTwiceWrong)

/-- 'reverielaw20.CollectArgs': WHATEVER THE INPUT: true; the input reads as it did. -/
def collectArgsSpec : ChangeSpec := { name := "collectArgs", fn := fun _ => fun
  | [d1, d2, d3] => { results := [.lit (.bool true)], args := [d1, d2, d3] }
  | _ => none }
def collectArgsRow : OpenClaim := { program := "ytjfpijoeddjgmaa", sum := "6dca79155b0a0c00ca5175e45bc06739fc2877e0e0d2edb59a0bd6e82614c531", func := "reverie/reverielaw20.CollectArgs", spec := "collectArgs", unfollowed := true, recurses := true, apart := false }
def CollectArgsSaid : Prop := collectArgsRow.holds Try.pinned (OpenSpec.ofChange collectArgsSpec)

/-- ITS FALSE NEIGHBOUR: 'it returns false'. Refute it at one input. -/
def collectArgsWrong : ChangeSpec := { name := "collectArgs", fn := fun _ => fun
  | [d1, d2, d3] => { results := [.lit (.bool false)], args := [d1, d2, d3] }
  | _ => none }
def CollectArgsWrongFalsely : Prop := collectArgsRow.holds Try.pinned (OpenSpec.ofChange collectArgsWrong)

/- THE SECOND FORM. 'bulk': how many values and letters a reading holds, each counted each time it is reached (what is shared counts as often as it is met; a slice's spare places count too). A statement '..UptoSaid' is the law's where the arguments, and the package variables that the reading takes, are together of bulk at most 1048576: NARROWER than '..Said'. Prove '..Said' where nothing that the law and all that it calls make is longer than what came in: it says more and counts as full. Else prove '..UptoSaid'. A law counts once. -/
mutual
def uptoBulk {H : Type} : DataW H → Nat
  | .lit (.string bytes) => bytes.length + 1
  | .lit _ => 1
  | .nil => 1
  | .ptr d => uptoBulk d + 1
  | .slice elems spare => uptoBulkAll elems + uptoBulkAll spare + 1
  | .agg parts => uptoBulkAll parts + 1
  | .iface _ d => uptoBulk d + 1
  | .map entries => uptoBulkEntries entries + 1
  | .held _ => 1
def uptoBulkAll {H : Type} : List (DataW H) → Nat
  | [] => 0
  | d :: r => uptoBulk d + uptoBulkAll r
def uptoBulkEntries {H : Type} : List (Lit × DataW H) → Nat
  | [] => 0
  | x :: r => uptoBulkEntry x + uptoBulkEntries r
def uptoBulkEntry {H : Type} : Lit × DataW H → Nat
  | (.string bytes, d) => bytes.length + uptoBulk d + 1
  | (_, d) => uptoBulk d + 1
 end
def uptoSmall : (H : Type) → List (DataW H) → Bool := fun _ ds => decide (uptoBulkAll ds ≤ 1048576)
def OpenSpec.upto (s : _root_.Go.ChangeSpec) : _root_.Go.OpenSpec := { _root_.Go.OpenSpec.ofChange s with cond := some uptoSmall }

/-- 'reverielaw16.HeapAgain', WHERE WHAT IT READS IS OF BULK AT MOST 1048576: true; the input reads as it did. -/
def heapAgainUptoRow : OpenClaim := { program := "ytjfpijoeddjgmaa", sum := "6dca79155b0a0c00ca5175e45bc06739fc2877e0e0d2edb59a0bd6e82614c531", func := "reverie/reverielaw16.HeapAgain", spec := "heapAgain", apart := false, narrowed := true }
def HeapAgainUptoSaid : Prop := heapAgainUptoRow.holds Try.pinned (OpenSpec.upto heapAgainSpec)

/-- 'reverielaw20.CollectRoom', WHERE WHAT IT READS IS OF BULK AT MOST 1048576: true; the input reads as it did. -/
def collectRoomUptoRow : OpenClaim := { program := "ytjfpijoeddjgmaa", sum := "6dca79155b0a0c00ca5175e45bc06739fc2877e0e0d2edb59a0bd6e82614c531", func := "reverie/reverielaw20.CollectRoom", spec := "collectRoom", unfollowed := true, recurses := true, apart := false, narrowed := true }
def CollectRoomUptoSaid : Prop := collectRoomUptoRow.holds Try.pinned (OpenSpec.upto collectRoomSpec)

/-- 'reverielaw16.HeapJoins', WHERE WHAT IT READS IS OF BULK AT MOST 1048576: true; the input reads as it did. -/
def heapJoinsUptoRow : OpenClaim := { program := "ytjfpijoeddjgmaa", sum := "6dca79155b0a0c00ca5175e45bc06739fc2877e0e0d2edb59a0bd6e82614c531", func := "reverie/reverielaw16.HeapJoins", spec := "heapJoins", unfollowed := true, recurses := true, apart := false, narrowed := true }
def HeapJoinsUptoSaid : Prop := heapJoinsUptoRow.holds Try.pinned (OpenSpec.upto heapJoinsSpec)

/-- 'reverielaw20.CollectKeeps', WHERE WHAT IT READS IS OF BULK AT MOST 1048576: true; the input reads as it did. -/
def collectKeepsUptoRow : OpenClaim := { program := "ytjfpijoeddjgmaa", sum := "6dca79155b0a0c00ca5175e45bc06739fc2877e0e0d2edb59a0bd6e82614c531", func := "reverie/reverielaw20.CollectKeeps", spec := "collectKeeps", unfollowed := true, recurses := true, apart := false, narrowed := true }
def CollectKeepsUptoSaid : Prop := collectKeepsUptoRow.holds Try.pinned (OpenSpec.upto collectKeepsSpec)

/-- 'reverielaw16.HeapFull', WHERE WHAT IT READS IS OF BULK AT MOST 1048576: true; the input reads as it did. -/
def heapFullUptoRow : OpenClaim := { program := "ytjfpijoeddjgmaa", sum := "6dca79155b0a0c00ca5175e45bc06739fc2877e0e0d2edb59a0bd6e82614c531", func := "reverie/reverielaw16.HeapFull", spec := "heapFull", unfollowed := true, recurses := true, apart := false, narrowed := true }
def HeapFullUptoSaid : Prop := heapFullUptoRow.holds Try.pinned (OpenSpec.upto heapFullSpec)

/-- 'reverielaw16.HeapActs', WHERE WHAT IT READS IS OF BULK AT MOST 1048576: true; the input reads as it did. -/
def heapActsUptoRow : OpenClaim := { program := "ytjfpijoeddjgmaa", sum := "6dca79155b0a0c00ca5175e45bc06739fc2877e0e0d2edb59a0bd6e82614c531", func := "reverie/reverielaw16.HeapActs", spec := "heapActs", unfollowed := true, recurses := true, apart := false, narrowed := true }
def HeapActsUptoSaid : Prop := heapActsUptoRow.holds Try.pinned (OpenSpec.upto heapActsSpec)

/-- 'reverielaw16.HeapNil', WHERE WHAT IT READS IS OF BULK AT MOST 1048576: true; the input reads as it did. -/
def heapNilUptoRow : OpenClaim := { program := "ytjfpijoeddjgmaa", sum := "6dca79155b0a0c00ca5175e45bc06739fc2877e0e0d2edb59a0bd6e82614c531", func := "reverie/reverielaw16.HeapNil", spec := "heapNil", unfollowed := true, recurses := true, apart := false, narrowed := true }
def HeapNilUptoSaid : Prop := heapNilUptoRow.holds Try.pinned (OpenSpec.upto heapNilSpec)

/-- 'reverielaw17.ObjectNil', WHERE WHAT IT READS IS OF BULK AT MOST 1048576: true; the input reads as it did. -/
def objectNilUptoRow : OpenClaim := { program := "ytjfpijoeddjgmaa", sum := "6dca79155b0a0c00ca5175e45bc06739fc2877e0e0d2edb59a0bd6e82614c531", func := "reverie/reverielaw17.ObjectNil", spec := "objectNil", apart := false, narrowed := true }
def ObjectNilUptoSaid : Prop := objectNilUptoRow.holds Try.pinned (OpenSpec.upto objectNilSpec)

/-- 'reverielaw17.ObjectTurns', WHERE WHAT IT READS IS OF BULK AT MOST 1048576: true; the input reads as it did. -/
def objectTurnsUptoRow : OpenClaim := { program := "ytjfpijoeddjgmaa", sum := "6dca79155b0a0c00ca5175e45bc06739fc2877e0e0d2edb59a0bd6e82614c531", func := "reverie/reverielaw17.ObjectTurns", spec := "objectTurns", apart := false, narrowed := true }
def ObjectTurnsUptoSaid : Prop := objectTurnsUptoRow.holds Try.pinned (OpenSpec.upto objectTurnsSpec)

/-- 'reverielaw17.ObjectActs', WHERE WHAT IT READS IS OF BULK AT MOST 1048576: true; the input reads as it did. -/
def objectActsUptoRow : OpenClaim := { program := "ytjfpijoeddjgmaa", sum := "6dca79155b0a0c00ca5175e45bc06739fc2877e0e0d2edb59a0bd6e82614c531", func := "reverie/reverielaw17.ObjectActs", spec := "objectActs", apart := false, narrowed := true }
def ObjectActsUptoSaid : Prop := objectActsUptoRow.holds Try.pinned (OpenSpec.upto objectActsSpec)

/-- 'reverielaw19.MarkArgs', WHERE WHAT IT READS IS OF BULK AT MOST 1048576: true; the input reads as it did. -/
def markArgsUptoRow : OpenClaim := { program := "ytjfpijoeddjgmaa", sum := "6dca79155b0a0c00ca5175e45bc06739fc2877e0e0d2edb59a0bd6e82614c531", func := "reverie/reverielaw19.MarkArgs", spec := "markArgs", unfollowed := true, recurses := true, apart := false, narrowed := true }
def MarkArgsUptoSaid : Prop := markArgsUptoRow.holds Try.pinned (OpenSpec.upto markArgsSpec)

/-- 'reverielaw19.MarkLong', WHERE WHAT IT READS IS OF BULK AT MOST 1048576: true; the input reads as it did. -/
def markLongUptoRow : OpenClaim := { program := "ytjfpijoeddjgmaa", sum := "6dca79155b0a0c00ca5175e45bc06739fc2877e0e0d2edb59a0bd6e82614c531", func := "reverie/reverielaw19.MarkLong", spec := "markLong", unfollowed := true, recurses := true, apart := false, narrowed := true }
def MarkLongUptoSaid : Prop := markLongUptoRow.holds Try.pinned (OpenSpec.upto markLongSpec)

/-- 'reverielaw19.MarkRooms', WHERE WHAT IT READS IS OF BULK AT MOST 1048576: true; the input reads as it did. -/
def markRoomsUptoRow : OpenClaim := { program := "ytjfpijoeddjgmaa", sum := "6dca79155b0a0c00ca5175e45bc06739fc2877e0e0d2edb59a0bd6e82614c531", func := "reverie/reverielaw19.MarkRooms", spec := "markRooms", unfollowed := true, recurses := true, apart := false, narrowed := true }
def MarkRoomsUptoSaid : Prop := markRoomsUptoRow.holds Try.pinned (OpenSpec.upto markRoomsSpec)

/-- 'reverielaw19.MarkReaches', WHERE WHAT IT READS IS OF BULK AT MOST 1048576: true; the input reads as it did. -/
def markReachesUptoRow : OpenClaim := { program := "ytjfpijoeddjgmaa", sum := "6dca79155b0a0c00ca5175e45bc06739fc2877e0e0d2edb59a0bd6e82614c531", func := "reverie/reverielaw19.MarkReaches", spec := "markReaches", unfollowed := true, recurses := true, apart := false, narrowed := true }
def MarkReachesUptoSaid : Prop := markReachesUptoRow.holds Try.pinned (OpenSpec.upto markReachesSpec)

/-- 'reverielaw20.CollectTwice', WHERE WHAT IT READS IS OF BULK AT MOST 1048576: true; the input reads as it did. -/
def collectTwiceUptoRow : OpenClaim := { program := "ytjfpijoeddjgmaa", sum := "6dca79155b0a0c00ca5175e45bc06739fc2877e0e0d2edb59a0bd6e82614c531", func := "reverie/reverielaw20.CollectTwice", spec := "collectTwice", unfollowed := true, recurses := true, apart := false, narrowed := true }
def CollectTwiceUptoSaid : Prop := collectTwiceUptoRow.holds Try.pinned (OpenSpec.upto collectTwiceSpec)

/-- 'reverielaw20.CollectArgs', WHERE WHAT IT READS IS OF BULK AT MOST 1048576: true; the input reads as it did. -/
def collectArgsUptoRow : OpenClaim := { program := "ytjfpijoeddjgmaa", sum := "6dca79155b0a0c00ca5175e45bc06739fc2877e0e0d2edb59a0bd6e82614c531", func := "reverie/reverielaw20.CollectArgs", spec := "collectArgs", unfollowed := true, recurses := true, apart := false, narrowed := true }
def CollectArgsUptoSaid : Prop := collectArgsUptoRow.holds Try.pinned (OpenSpec.upto collectArgsSpec)

end Rows
end Go.Proofs.Ytjfpijoeddjgmaa
