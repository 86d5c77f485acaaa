/-
  No cell of these rows narrows 'for every input' (looked for: loops, veiled, ifaces, maps, wideKeys, modest, calm, conditions, laid).
  DERIVED. THE GIVEN ROWS OF THIS SEAT. 10 by the template 'for every input the law returns true; each argument reads behind the call as it read before'; 0 by the template 'total and deterministic' (their statements: YtbaclnddcobdmaaTotals.lean).
  GIVEN WITH THE SEED: the statements are not yours to turn. If you find one false, say at which input.
  Laid BY PROGRAM, IN A SANDBOX (cutbox-rows.mjs): the forced cells as the released guide's own fill.sh prints them over the translation b5b908197b967a49… (all of the seat's roots in one cut). By AI agents, Wed Nov 11 2026. No macro, syntax, notation, axiom, sorry.
-/
import Derived.Test.YtbaclnddcobdmaaChecked
import GoSem.Claim
import GoSem.ClaimJoined
import GoSem.ClaimMapViews
import Derived.JoinedTies
import Derived.KernelRfl
namespace Go.Proofs.Ytbaclnddcobdmaa
/- THE CELL 'sum', in the pinned program and in every row, IS THE sha256 OF THE DUMP (.gsa) THAT YtbaclnddcobdmaaProg.lean LOADS. Nothing in Lean hashes anything: it is a label: what it is worth is what the hold of that sum in a sandbox is worth. -/
noncomputable def Try.pinned : Pinned := { name := "ytbaclnddcobdmaa", sum := "b5b908197b967a493f17a64825418730be1934d7222a0317a67def57a0e3e1f4", checked := Try.checked }
namespace Rows
def none {H : Type} : Left H := { results := [], args := [] }

/-- 'garnetlaw02.CrewPlays': WHATEVER THE INPUT: true; the input reads as it did. -/
def crewPlaysSpec : ChangeSpec := { name := "crewPlays", fn := fun _ => fun
  | [d1, d2] => { results := [.lit (.bool true)], args := [d1, d2] }
  | _ => none }
def crewPlaysRow : OpenClaim := { program := "ytbaclnddcobdmaa", sum := "b5b908197b967a493f17a64825418730be1934d7222a0317a67def57a0e3e1f4", func := "garnet/garnetlaw02.CrewPlays", spec := "crewPlays", apart := false }
def CrewPlaysSaid : Prop := crewPlaysRow.holds Try.pinned (OpenSpec.ofChange crewPlaysSpec)

/-- ITS FALSE NEIGHBOUR: 'it returns false'. Refute it at one input. -/
def crewPlaysWrong : ChangeSpec := { name := "crewPlays", fn := fun _ => fun
  | [d1, d2] => { results := [.lit (.bool false)], args := [d1, d2] }
  | _ => none }
def CrewPlaysWrongFalsely : Prop := crewPlaysRow.holds Try.pinned (OpenSpec.ofChange crewPlaysWrong)

/-- 'garnetlaw02.CrewDead': WHATEVER THE INPUT: true; the input reads as it did. -/
def crewDeadSpec : ChangeSpec := { name := "crewDead", fn := fun _ => fun
  | [d1, d2] => { results := [.lit (.bool true)], args := [d1, d2] }
  | _ => none }
def crewDeadRow : OpenClaim := { program := "ytbaclnddcobdmaa", sum := "b5b908197b967a493f17a64825418730be1934d7222a0317a67def57a0e3e1f4", func := "garnet/garnetlaw02.CrewDead", spec := "crewDead", apart := false }
def CrewDeadSaid : Prop := crewDeadRow.holds Try.pinned (OpenSpec.ofChange crewDeadSpec)

/-- ITS FALSE NEIGHBOUR: 'it returns false'. Refute it at one input. -/
def crewDeadWrong : ChangeSpec := { name := "crewDead", fn := fun _ => fun
  | [d1, d2] => { results := [.lit (.bool false)], args := [d1, d2] }
  | _ => none }
def CrewDeadWrongFalsely : Prop := crewDeadRow.holds Try.pinned (OpenSpec.ofChange crewDeadWrong)

/-- 'garnetlaw05.KeyCuts': WHATEVER THE INPUT: true; the input reads as it did. -/
def keyCutsSpec : ChangeSpec := { name := "keyCuts", fn := fun _ => fun
  | [d1, d2, d3] => { results := [.lit (.bool true)], args := [d1, d2, d3] }
  | _ => none }
def keyCutsRow : OpenClaim := { program := "ytbaclnddcobdmaa", sum := "b5b908197b967a493f17a64825418730be1934d7222a0317a67def57a0e3e1f4", func := "garnet/garnetlaw05.KeyCuts", spec := "keyCuts", inPlace := ["internal/bytealg.Compare"], apart := false }
def KeyCutsSaid : Prop := keyCutsRow.holds Try.pinned (OpenSpec.ofChange keyCutsSpec)

/-- ITS FALSE NEIGHBOUR: 'it returns false'. Refute it at one input. -/
def keyCutsWrong : ChangeSpec := { name := "keyCuts", fn := fun _ => fun
  | [d1, d2, d3] => { results := [.lit (.bool false)], args := [d1, d2, d3] }
  | _ => none }
def KeyCutsWrongFalsely : Prop := keyCutsRow.holds Try.pinned (OpenSpec.ofChange keyCutsWrong)

/-- 'garnetlaw01.CellOne': WHATEVER THE INPUT: true; the input reads as it did. -/
def cellOneSpec : ChangeSpec := { name := "cellOne", fn := fun _ => fun
  | [d1, d2] => { results := [.lit (.bool true)], args := [d1, d2] }
  | _ => none }
def cellOneRow : OpenClaim := { program := "ytbaclnddcobdmaa", sum := "b5b908197b967a493f17a64825418730be1934d7222a0317a67def57a0e3e1f4", func := "garnet/garnetlaw01.CellOne", spec := "cellOne", apart := false }
def CellOneSaid : Prop := cellOneRow.holds Try.pinned (OpenSpec.ofChange cellOneSpec)

/-- ITS FALSE NEIGHBOUR: 'it returns false'. Refute it at one input. -/
def cellOneWrong : ChangeSpec := { name := "cellOne", fn := fun _ => fun
  | [d1, d2] => { results := [.lit (.bool false)], args := [d1, d2] }
  | _ => none }
def CellOneWrongFalsely : Prop := cellOneRow.holds Try.pinned (OpenSpec.ofChange cellOneWrong)

/-- 'garnetlaw07.ArenaOnce': WHATEVER THE INPUT: true; the input reads as it did. -/
def arenaOnceSpec : ChangeSpec := { name := "arenaOnce", fn := fun _ => fun
  | [d] => { results := [.lit (.bool true)], args := [d] }
  | _ => none }
def arenaOnceRow : OpenClaim := { program := "ytbaclnddcobdmaa", sum := "b5b908197b967a493f17a64825418730be1934d7222a0317a67def57a0e3e1f4", func := "garnet/garnetlaw07.ArenaOnce", spec := "arenaOnce", apart := false }
def ArenaOnceSaid : Prop := arenaOnceRow.holds Try.pinned (OpenSpec.ofChange arenaOnceSpec)

/-- ITS FALSE NEIGHBOUR: 'it returns false'. Refute it at one input. -/
def arenaOnceWrong : ChangeSpec := { name := "arenaOnce", fn := fun _ => fun
  | [d] => { results := [.lit (.bool false)], args := [d] }
  | _ => none }
def ArenaOnceWrongFalsely : Prop := arenaOnceRow.holds Try.pinned (OpenSpec.ofChange arenaOnceWrong)

/-- 'garnetlaw16.LeasePlays': WHATEVER THE INPUT: true; the input reads as it did. -/
def leasePlaysSpec : ChangeSpec := { name := "leasePlays", fn := fun _ => fun
  | [d1, d2] => { results := [.lit (.bool true)], args := [d1, d2] }
  | _ => none }
def leasePlaysRow : OpenClaim := { program := "ytbaclnddcobdmaa", sum := "b5b908197b967a493f17a64825418730be1934d7222a0317a67def57a0e3e1f4", func := "garnet/garnetlaw16.LeasePlays", spec := "leasePlays", apart := false }
def LeasePlaysSaid : Prop := leasePlaysRow.holds Try.pinned (OpenSpec.ofChange leasePlaysSpec)

/-- ITS FALSE NEIGHBOUR: 'it returns false'. Refute it at one input. -/
def leasePlaysWrong : ChangeSpec := { name := "leasePlays", fn := fun _ => fun
  | [d1, d2] => { results := [.lit (.bool false)], args := [d1, d2] }
  | _ => none }
def LeasePlaysWrongFalsely : Prop := leasePlaysRow.holds Try.pinned (OpenSpec.ofChange leasePlaysWrong)

/-- 'garnetlaw01.CellPlays': WHATEVER THE INPUT: true; the input reads as it did. -/
def cellPlaysSpec : ChangeSpec := { name := "cellPlays", fn := fun _ => fun
  | [d1, d2] => { results := [.lit (.bool true)], args := [d1, d2] }
  | _ => none }
def cellPlaysRow : OpenClaim := { program := "ytbaclnddcobdmaa", sum := "b5b908197b967a493f17a64825418730be1934d7222a0317a67def57a0e3e1f4", func := "garnet/garnetlaw01.CellPlays", spec := "cellPlays", apart := false }
def CellPlaysSaid : Prop := cellPlaysRow.holds Try.pinned (OpenSpec.ofChange cellPlaysSpec)

/-- ITS FALSE NEIGHBOUR: 'it returns false'. Refute it at one input. -/
def cellPlaysWrong : ChangeSpec := { name := "cellPlays", fn := fun _ => fun
  | [d1, d2] => { results := [.lit (.bool false)], args := [d1, d2] }
  | _ => none }
def CellPlaysWrongFalsely : Prop := cellPlaysRow.holds Try.pinned (OpenSpec.ofChange cellPlaysWrong)

/-- 'garnetlaw07.ArenaPlays': WHATEVER THE INPUT: true; the input reads as it did. -/
def arenaPlaysSpec : ChangeSpec := { name := "arenaPlays", fn := fun _ => fun
  | [d] => { results := [.lit (.bool true)], args := [d] }
  | _ => none }
def arenaPlaysRow : OpenClaim := { program := "ytbaclnddcobdmaa", sum := "b5b908197b967a493f17a64825418730be1934d7222a0317a67def57a0e3e1f4", func := "garnet/garnetlaw07.ArenaPlays", spec := "arenaPlays", apart := false }
def ArenaPlaysSaid : Prop := arenaPlaysRow.holds Try.pinned (OpenSpec.ofChange arenaPlaysSpec)

/-- ITS FALSE NEIGHBOUR: 'it returns false'. Refute it at one input. -/
def arenaPlaysWrong : ChangeSpec := { name := "arenaPlays", fn := fun _ => fun
  | [d] => { results := [.lit (.bool false)], args := [d] }
  | _ => none }
def ArenaPlaysWrongFalsely : Prop := arenaPlaysRow.holds Try.pinned (OpenSpec.ofChange arenaPlaysWrong)

/-- 'garnetlaw15.RingPlays': WHATEVER THE INPUT: true; the input reads as it did. -/
def ringPlaysSpec : ChangeSpec := { name := "ringPlays", fn := fun _ => fun
  | [d1, d2] => { results := [.lit (.bool true)], args := [d1, d2] }
  | _ => none }
def ringPlaysRow : OpenClaim := { program := "ytbaclnddcobdmaa", sum := "b5b908197b967a493f17a64825418730be1934d7222a0317a67def57a0e3e1f4", func := "garnet/garnetlaw15.RingPlays", spec := "ringPlays", apart := false }
def RingPlaysSaid : Prop := ringPlaysRow.holds Try.pinned (OpenSpec.ofChange ringPlaysSpec)

/-- ITS FALSE NEIGHBOUR: 'it returns false'. Refute it at one input. -/
def ringPlaysWrong : ChangeSpec := { name := "ringPlays", fn := fun _ => fun
  | [d1, d2] => { results := [.lit (.bool false)], args := [d1, d2] }
  | _ => none }
def RingPlaysWrongFalsely : Prop := ringPlaysRow.holds Try.pinned (OpenSpec.ofChange ringPlaysWrong)

/-- 'garnetlaw15.RingOrder': WHATEVER THE INPUT: true; the input reads as it did. -/
def ringOrderSpec : ChangeSpec := { name := "ringOrder", fn := fun _ => fun
  | [d1, d2] => { results := [.lit (.bool true)], args := [d1, d2] }
  | _ => none }
def ringOrderRow : OpenClaim := { program := "ytbaclnddcobdmaa", sum := "b5b908197b967a493f17a64825418730be1934d7222a0317a67def57a0e3e1f4", func := "garnet/garnetlaw15.RingOrder", spec := "ringOrder", apart := false }
def RingOrderSaid : Prop := ringOrderRow.holds Try.pinned (OpenSpec.ofChange ringOrderSpec)

/-- ITS FALSE NEIGHBOUR: 'it returns false'. Refute it at one input. -/
def ringOrderWrong : ChangeSpec := { name := "ringOrder", fn := fun _ => fun
  | [d1, d2] => { results := [.lit (.bool false)], args := [d1, d2] }
  | _ => none }
def RingOrderWrongFalsely : Prop := ringOrderRow.holds Try.pinned (OpenSpec.ofChange ringOrderWrong)

/- THE SECOND FORM. 'bulk': how many values and letters a reading holds, each counted each time it is reached (what is shared counts as often as it is met; a slice's spare places count too). A statement '..UptoSaid' is the law's where the arguments, and the package variables that the reading takes, are together of bulk at most 1048576: NARROWER than '..Said'. Prove '..Said' where nothing that the law and all that it calls make is longer than what came in: it says more and counts as full. Else prove '..UptoSaid'. A law counts once. -/
mutual
def uptoBulk {H : Type} : DataW H → Nat
  | .lit (.string bytes) => bytes.length + 1
  | .lit _ => 1
  | .nil => 1
  | .ptr d => uptoBulk d + 1
  | .slice elems spare => uptoBulkAll elems + uptoBulkAll spare + 1
  | .agg parts => uptoBulkAll parts + 1
  | .iface _ d => uptoBulk d + 1
  | .map entries => uptoBulkEntries entries + 1
  | .held _ => 1
def uptoBulkAll {H : Type} : List (DataW H) → Nat
  | [] => 0
  | d :: r => uptoBulk d + uptoBulkAll r
def uptoBulkEntries {H : Type} : List (Lit × DataW H) → Nat
  | [] => 0
  | x :: r => uptoBulkEntry x + uptoBulkEntries r
def uptoBulkEntry {H : Type} : Lit × DataW H → Nat
  | (.string bytes, d) => bytes.length + uptoBulk d + 1
  | (_, d) => uptoBulk d + 1
 end
def uptoSmall : (H : Type) → List (DataW H) → Bool := fun _ ds => decide (uptoBulkAll ds ≤ 1048576)
def OpenSpec.upto (s : _root_.Go.ChangeSpec) : _root_.Go.OpenSpec := { _root_.Go.OpenSpec.ofChange s with cond := some uptoSmall }

/-- 'garnetlaw02.CrewPlays', WHERE WHAT IT READS IS OF BULK AT MOST 1048576: true; the input reads as it did. -/
def crewPlaysUptoRow : OpenClaim := { program := "ytbaclnddcobdmaa", sum := "b5b908197b967a493f17a64825418730be1934d7222a0317a67def57a0e3e1f4", func := "garnet/garnetlaw02.CrewPlays", spec := "crewPlays", apart := false, narrowed := true }
def CrewPlaysUptoSaid : Prop := crewPlaysUptoRow.holds Try.pinned (OpenSpec.upto crewPlaysSpec)

/-- 'garnetlaw02.CrewDead', WHERE WHAT IT READS IS OF BULK AT MOST 1048576: true; the input reads as it did. -/
def crewDeadUptoRow : OpenClaim := { program := "ytbaclnddcobdmaa", sum := "b5b908197b967a493f17a64825418730be1934d7222a0317a67def57a0e3e1f4", func := "garnet/garnetlaw02.CrewDead", spec := "crewDead", apart := false, narrowed := true }
def CrewDeadUptoSaid : Prop := crewDeadUptoRow.holds Try.pinned (OpenSpec.upto crewDeadSpec)

/-- 'garnetlaw05.KeyCuts', WHERE WHAT IT READS IS OF BULK AT MOST 1048576: true; the input reads as it did. -/
def keyCutsUptoRow : OpenClaim := { program := "ytbaclnddcobdmaa", sum := "b5b908197b967a493f17a64825418730be1934d7222a0317a67def57a0e3e1f4", func := "garnet/garnetlaw05.KeyCuts", spec := "keyCuts", inPlace := ["internal/bytealg.Compare"], apart := false, narrowed := true }
def KeyCutsUptoSaid : Prop := keyCutsUptoRow.holds Try.pinned (OpenSpec.upto keyCutsSpec)

/-- 'garnetlaw01.CellOne', WHERE WHAT IT READS IS OF BULK AT MOST 1048576: true; the input reads as it did. -/
def cellOneUptoRow : OpenClaim := { program := "ytbaclnddcobdmaa", sum := "b5b908197b967a493f17a64825418730be1934d7222a0317a67def57a0e3e1f4", func := "garnet/garnetlaw01.CellOne", spec := "cellOne", apart := false, narrowed := true }
def CellOneUptoSaid : Prop := cellOneUptoRow.holds Try.pinned (OpenSpec.upto cellOneSpec)

/-- 'garnetlaw07.ArenaOnce', WHERE WHAT IT READS IS OF BULK AT MOST 1048576: true; the input reads as it did. -/
def arenaOnceUptoRow : OpenClaim := { program := "ytbaclnddcobdmaa", sum := "b5b908197b967a493f17a64825418730be1934d7222a0317a67def57a0e3e1f4", func := "garnet/garnetlaw07.ArenaOnce", spec := "arenaOnce", apart := false, narrowed := true }
def ArenaOnceUptoSaid : Prop := arenaOnceUptoRow.holds Try.pinned (OpenSpec.upto arenaOnceSpec)

/-- 'garnetlaw16.LeasePlays', WHERE WHAT IT READS IS OF BULK AT MOST 1048576: true; the input reads as it did. -/
def leasePlaysUptoRow : OpenClaim := { program := "ytbaclnddcobdmaa", sum := "b5b908197b967a493f17a64825418730be1934d7222a0317a67def57a0e3e1f4", func := "garnet/garnetlaw16.LeasePlays", spec := "leasePlays", apart := false, narrowed := true }
def LeasePlaysUptoSaid : Prop := leasePlaysUptoRow.holds Try.pinned (OpenSpec.upto leasePlaysSpec)

/-- 'garnetlaw01.CellPlays', WHERE WHAT IT READS IS OF BULK AT MOST 1048576: true; the input reads as it did. -/
def cellPlaysUptoRow : OpenClaim := { program := "ytbaclnddcobdmaa", sum := "b5b908197b967a493f17a64825418730be1934d7222a0317a67def57a0e3e1f4", func := "garnet/garnetlaw01.CellPlays", spec := "cellPlays", apart := false, narrowed := true }
def CellPlaysUptoSaid : Prop := cellPlaysUptoRow.holds Try.pinned (OpenSpec.upto cellPlaysSpec)

/-- 'garnetlaw07.ArenaPlays', WHERE WHAT IT READS IS OF BULK AT MOST 1048576: true; the input reads as it did. -/
def arenaPlaysUptoRow : OpenClaim := { program := "ytbaclnddcobdmaa", sum := "b5b908197b967a493f17a64825418730be1934d7222a0317a67def57a0e3e1f4", func := "garnet/garnetlaw07.ArenaPlays", spec := "arenaPlays", apart := false, narrowed := true }
def ArenaPlaysUptoSaid : Prop := arenaPlaysUptoRow.holds Try.pinned (OpenSpec.upto arenaPlaysSpec)

/-- 'garnetlaw15.RingPlays', WHERE WHAT IT READS IS OF BULK AT MOST 1048576: true; the input reads as it did. -/
def ringPlaysUptoRow : OpenClaim := { program := "ytbaclnddcobdmaa", sum := "b5b908197b967a493f17a64825418730be1934d7222a0317a67def57a0e3e1f4", func := "garnet/garnetlaw15.RingPlays", spec := "ringPlays", apart := false, narrowed := true }
def RingPlaysUptoSaid : Prop := ringPlaysUptoRow.holds Try.pinned (OpenSpec.upto ringPlaysSpec)

/-- 'garnetlaw15.RingOrder', WHERE WHAT IT READS IS OF BULK AT MOST 1048576: true; the input reads as it did. -/
def ringOrderUptoRow : OpenClaim := { program := "ytbaclnddcobdmaa", sum := "b5b908197b967a493f17a64825418730be1934d7222a0317a67def57a0e3e1f4", func := "garnet/garnetlaw15.RingOrder", spec := "ringOrder", apart := false, narrowed := true }
def RingOrderUptoSaid : Prop := ringOrderUptoRow.holds Try.pinned (OpenSpec.upto ringOrderSpec)

end Rows
end Go.Proofs.Ytbaclnddcobdmaa
