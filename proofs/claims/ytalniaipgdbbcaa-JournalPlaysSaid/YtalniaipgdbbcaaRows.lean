/-
  No cell of these rows narrows 'for every input' (looked for: loops, veiled, ifaces, maps, wideKeys, modest, calm, conditions, laid).
  DERIVED. THE GIVEN ROWS OF THIS SEAT. 10 by the template 'for every input the law returns true; each argument reads behind the call as it read before'; 0 by the template 'total and deterministic' (their statements: YtalniaipgdbbcaaTotals.lean).
  GIVEN WITH THE SEED: the statements are not yours to turn. If you find one false, say at which input.
  Laid BY PROGRAM, IN A SANDBOX (cutbox-rows.mjs): the forced cells as the released guide's own fill.sh prints them over the translation 992e6c4a894248de… (all of the seat's roots in one cut). By AI agents, Wed Nov 11 2026. No macro, syntax, notation, axiom, sorry.
-/
import Derived.Test.YtalniaipgdbbcaaChecked
import GoSem.Claim
import GoSem.ClaimJoined
import GoSem.ClaimMapViews
import Derived.JoinedTies
import Derived.KernelRfl
namespace Go.Proofs.Ytalniaipgdbbcaa
/- THE CELL 'sum', in the pinned program and in every row, IS THE sha256 OF THE DUMP (.gsa) THAT YtalniaipgdbbcaaProg.lean LOADS. Nothing in Lean hashes anything: it is a label: what it is worth is what the hold of that sum in a sandbox is worth. -/
noncomputable def Try.pinned : Pinned := { name := "ytalniaipgdbbcaa", sum := "992e6c4a894248de301cb99aa52666a22d0f4c85868508f382e8189bf5cf0678", checked := Try.checked }
namespace Rows
def none {H : Type} : Left H := { results := [], args := [] }

/-- 'garnetlaw14.SlotOnce': WHATEVER THE INPUT: true; the input reads as it did. -/
def slotOnceSpec : ChangeSpec := { name := "slotOnce", fn := fun _ => fun
  | [d1, d2, d3, d4] => { results := [.lit (.bool true)], args := [d1, d2, d3, d4] }
  | _ => none }
def slotOnceRow : OpenClaim := { program := "ytalniaipgdbbcaa", sum := "992e6c4a894248de301cb99aa52666a22d0f4c85868508f382e8189bf5cf0678", func := "garnet/garnetlaw14.SlotOnce", spec := "slotOnce", inPlace := ["internal/bytealg.Compare"], unfollowed := true, recurses := true, apart := false }
def SlotOnceSaid : Prop := slotOnceRow.holds Try.pinned (OpenSpec.ofChange slotOnceSpec)

/-- ITS FALSE NEIGHBOUR: 'it returns false'. Refute it at one input. -/
def slotOnceWrong : ChangeSpec := { name := "slotOnce", fn := fun _ => fun
  | [d1, d2, d3, d4] => { results := [.lit (.bool false)], args := [d1, d2, d3, d4] }
  | _ => none }
def SlotOnceWrongFalsely : Prop := slotOnceRow.holds Try.pinned (OpenSpec.ofChange slotOnceWrong)

/-- 'garnetlaw14.SlotPlays': WHATEVER THE INPUT: true; the input reads as it did. -/
def slotPlaysSpec : ChangeSpec := { name := "slotPlays", fn := fun _ => fun
  | [d1, d2] => { results := [.lit (.bool true)], args := [d1, d2] }
  | _ => none }
def slotPlaysRow : OpenClaim := { program := "ytalniaipgdbbcaa", sum := "992e6c4a894248de301cb99aa52666a22d0f4c85868508f382e8189bf5cf0678", func := "garnet/garnetlaw14.SlotPlays", spec := "slotPlays", inPlace := ["internal/bytealg.Compare"], unfollowed := true, recurses := true, apart := false }
def SlotPlaysSaid : Prop := slotPlaysRow.holds Try.pinned (OpenSpec.ofChange slotPlaysSpec)

/-- ITS FALSE NEIGHBOUR: 'it returns false'. Refute it at one input. -/
def slotPlaysWrong : ChangeSpec := { name := "slotPlays", fn := fun _ => fun
  | [d1, d2] => { results := [.lit (.bool false)], args := [d1, d2] }
  | _ => none }
def SlotPlaysWrongFalsely : Prop := slotPlaysRow.holds Try.pinned (OpenSpec.ofChange slotPlaysWrong)

/-- 'garnetlaw12.OmapTurns': WHATEVER THE INPUT: true; the input reads as it did. -/
def omapTurnsSpec : ChangeSpec := { name := "omapTurns", fn := fun _ => fun
  | [d1, d2, d3] => { results := [.lit (.bool true)], args := [d1, d2, d3] }
  | _ => none }
def omapTurnsRow : OpenClaim := { program := "ytalniaipgdbbcaa", sum := "992e6c4a894248de301cb99aa52666a22d0f4c85868508f382e8189bf5cf0678", func := "garnet/garnetlaw12.OmapTurns", spec := "omapTurns", inPlace := ["internal/bytealg.Compare", "slices.overlaps[garnet/api.Pair]"], unfollowed := true, recurses := true, apart := false }
def OmapTurnsSaid : Prop := omapTurnsRow.holds Try.pinned (OpenSpec.ofChange omapTurnsSpec)

/-- ITS FALSE NEIGHBOUR: 'it returns false'. Refute it at one input. -/
def omapTurnsWrong : ChangeSpec := { name := "omapTurns", fn := fun _ => fun
  | [d1, d2, d3] => { results := [.lit (.bool false)], args := [d1, d2, d3] }
  | _ => none }
def OmapTurnsWrongFalsely : Prop := omapTurnsRow.holds Try.pinned (OpenSpec.ofChange omapTurnsWrong)

/-- 'garnetlaw12.OmapDoes': WHATEVER THE INPUT: true; the input reads as it did. -/
def omapDoesSpec : ChangeSpec := { name := "omapDoes", fn := fun _ => fun
  | [d1, d2, d3] => { results := [.lit (.bool true)], args := [d1, d2, d3] }
  | _ => none }
def omapDoesRow : OpenClaim := { program := "ytalniaipgdbbcaa", sum := "992e6c4a894248de301cb99aa52666a22d0f4c85868508f382e8189bf5cf0678", func := "garnet/garnetlaw12.OmapDoes", spec := "omapDoes", inPlace := ["internal/bytealg.Compare", "slices.overlaps[garnet/api.Pair]"], unfollowed := true, recurses := true, apart := false }
def OmapDoesSaid : Prop := omapDoesRow.holds Try.pinned (OpenSpec.ofChange omapDoesSpec)

/-- ITS FALSE NEIGHBOUR: 'it returns false'. Refute it at one input. -/
def omapDoesWrong : ChangeSpec := { name := "omapDoes", fn := fun _ => fun
  | [d1, d2, d3] => { results := [.lit (.bool false)], args := [d1, d2, d3] }
  | _ => none }
def OmapDoesWrongFalsely : Prop := omapDoesRow.holds Try.pinned (OpenSpec.ofChange omapDoesWrong)

/-- 'garnetlaw12.OmapErrs': WHATEVER THE INPUT: true; the input reads as it did. -/
def omapErrsSpec : ChangeSpec := { name := "omapErrs", fn := fun _ => fun
  | [d1, d2, d3] => { results := [.lit (.bool true)], args := [d1, d2, d3] }
  | _ => none }
def omapErrsRow : OpenClaim := { program := "ytalniaipgdbbcaa", sum := "992e6c4a894248de301cb99aa52666a22d0f4c85868508f382e8189bf5cf0678", func := "garnet/garnetlaw12.OmapErrs", spec := "omapErrs", inPlace := ["internal/bytealg.Compare", "slices.overlaps[garnet/api.Pair]"], unfollowed := true, recurses := true, apart := false }
def OmapErrsSaid : Prop := omapErrsRow.holds Try.pinned (OpenSpec.ofChange omapErrsSpec)

/-- ITS FALSE NEIGHBOUR: 'it returns false'. Refute it at one input. -/
def omapErrsWrong : ChangeSpec := { name := "omapErrs", fn := fun _ => fun
  | [d1, d2, d3] => { results := [.lit (.bool false)], args := [d1, d2, d3] }
  | _ => none }
def OmapErrsWrongFalsely : Prop := omapErrsRow.holds Try.pinned (OpenSpec.ofChange omapErrsWrong)

/-- 'garnetlaw17.JournalOnce': WHATEVER THE INPUT: true; the input reads as it did. -/
def journalOnceSpec : ChangeSpec := { name := "journalOnce", fn := fun _ => fun
  | [d1, d2, d3] => { results := [.lit (.bool true)], args := [d1, d2, d3] }
  | _ => none }
def journalOnceRow : OpenClaim := { program := "ytalniaipgdbbcaa", sum := "992e6c4a894248de301cb99aa52666a22d0f4c85868508f382e8189bf5cf0678", func := "garnet/garnetlaw17.JournalOnce", spec := "journalOnce", inPlace := ["internal/bytealg.Compare"], unfollowed := true, recurses := true, apart := false }
def JournalOnceSaid : Prop := journalOnceRow.holds Try.pinned (OpenSpec.ofChange journalOnceSpec)

/-- ITS FALSE NEIGHBOUR: 'it returns false'. Refute it at one input. -/
def journalOnceWrong : ChangeSpec := { name := "journalOnce", fn := fun _ => fun
  | [d1, d2, d3] => { results := [.lit (.bool false)], args := [d1, d2, d3] }
  | _ => none }
def JournalOnceWrongFalsely : Prop := journalOnceRow.holds Try.pinned (OpenSpec.ofChange journalOnceWrong)

/-- 'garnetlaw17.JournalPlays': WHATEVER THE INPUT: true; the input reads as it did. -/
def journalPlaysSpec : ChangeSpec := { name := "journalPlays", fn := fun _ => fun
  | [d] => { results := [.lit (.bool true)], args := [d] }
  | _ => none }
def journalPlaysRow : OpenClaim := { program := "ytalniaipgdbbcaa", sum := "992e6c4a894248de301cb99aa52666a22d0f4c85868508f382e8189bf5cf0678", func := "garnet/garnetlaw17.JournalPlays", spec := "journalPlays", inPlace := ["internal/bytealg.Compare"], unfollowed := true, recurses := true, apart := false }
def JournalPlaysSaid : Prop := journalPlaysRow.holds Try.pinned (OpenSpec.ofChange journalPlaysSpec)

/-- ITS FALSE NEIGHBOUR: 'it returns false'. Refute it at one input. -/
def journalPlaysWrong : ChangeSpec := { name := "journalPlays", fn := fun _ => fun
  | [d] => { results := [.lit (.bool false)], args := [d] }
  | _ => none }
def JournalPlaysWrongFalsely : Prop := journalPlaysRow.holds Try.pinned (OpenSpec.ofChange journalPlaysWrong)

/-- 'garnetlaw13.ElideRuns': WHATEVER THE INPUT: true; the input reads as it did. -/
def elideRunsSpec : ChangeSpec := { name := "elideRuns", fn := fun _ => fun
  | [d1, d2, d3, d4] => { results := [.lit (.bool true)], args := [d1, d2, d3, d4] }
  | _ => none }
def elideRunsRow : OpenClaim := { program := "ytalniaipgdbbcaa", sum := "992e6c4a894248de301cb99aa52666a22d0f4c85868508f382e8189bf5cf0678", func := "garnet/garnetlaw13.ElideRuns", spec := "elideRuns", inPlace := ["internal/bytealg.Compare", "slices.overlaps[garnet/api.Pair]"], unfollowed := true, recurses := true, apart := false }
def ElideRunsSaid : Prop := elideRunsRow.holds Try.pinned (OpenSpec.ofChange elideRunsSpec)

/-- ITS FALSE NEIGHBOUR: 'it returns false'. Refute it at one input. -/
def elideRunsWrong : ChangeSpec := { name := "elideRuns", fn := fun _ => fun
  | [d1, d2, d3, d4] => { results := [.lit (.bool false)], args := [d1, d2, d3, d4] }
  | _ => none }
def ElideRunsWrongFalsely : Prop := elideRunsRow.holds Try.pinned (OpenSpec.ofChange elideRunsWrong)

/-- 'garnetlaw13.ElideOrders': WHATEVER THE INPUT: true; the input reads as it did. -/
def elideOrdersSpec : ChangeSpec := { name := "elideOrders", fn := fun _ => fun
  | [d] => { results := [.lit (.bool true)], args := [d] }
  | _ => none }
def elideOrdersRow : OpenClaim := { program := "ytalniaipgdbbcaa", sum := "992e6c4a894248de301cb99aa52666a22d0f4c85868508f382e8189bf5cf0678", func := "garnet/garnetlaw13.ElideOrders", spec := "elideOrders", inPlace := ["internal/bytealg.Compare", "slices.overlaps[garnet/api.Pair]"], unfollowed := true, recurses := true, apart := false }
def ElideOrdersSaid : Prop := elideOrdersRow.holds Try.pinned (OpenSpec.ofChange elideOrdersSpec)

/-- ITS FALSE NEIGHBOUR: 'it returns false'. Refute it at one input. -/
def elideOrdersWrong : ChangeSpec := { name := "elideOrders", fn := fun _ => fun
  | [d] => { results := [.lit (.bool false)], args := [d] }
  | _ => none }
def ElideOrdersWrongFalsely : Prop := elideOrdersRow.holds Try.pinned (OpenSpec.ofChange elideOrdersWrong)

/-- 'garnetlaw22.HistoryBegins': WHATEVER THE INPUT: true; the input reads as it did. -/
def historyBeginsSpec : ChangeSpec := { name := "historyBegins", fn := fun _ => fun
  | [d1, d2, d3] => { results := [.lit (.bool true)], args := [d1, d2, d3] }
  | _ => none }
def historyBeginsRow : OpenClaim := { program := "ytalniaipgdbbcaa", sum := "992e6c4a894248de301cb99aa52666a22d0f4c85868508f382e8189bf5cf0678", func := "garnet/garnetlaw22.HistoryBegins", spec := "historyBegins", inPlace := ["internal/bytealg.Compare", "slices.overlaps[garnet/api.Pair]"], unfollowed := true, recurses := true, apart := false }
def HistoryBeginsSaid : Prop := historyBeginsRow.holds Try.pinned (OpenSpec.ofChange historyBeginsSpec)

/-- ITS FALSE NEIGHBOUR: 'it returns false'. Refute it at one input. -/
def historyBeginsWrong : ChangeSpec := { name := "historyBegins", fn := fun _ => fun
  | [d1, d2, d3] => { results := [.lit (.bool false)], args := [d1, d2, d3] }
  | _ => none }
def HistoryBeginsWrongFalsely : Prop := historyBeginsRow.holds Try.pinned (OpenSpec.ofChange historyBeginsWrong)

/- THE SECOND FORM. 'bulk': how many values and letters a reading holds, each counted each time it is reached (what is shared counts as often as it is met; a slice's spare places count too). A statement '..UptoSaid' is the law's where the arguments, and the package variables that the reading takes, are together of bulk at most 1048576: NARROWER than '..Said'. Prove '..Said' where nothing that the law and all that it calls make is longer than what came in: it says more and counts as full. Else prove '..UptoSaid'. A law counts once. -/
mutual
def uptoBulk {H : Type} : DataW H → Nat
  | .lit (.string bytes) => bytes.length + 1
  | .lit _ => 1
  | .nil => 1
  | .ptr d => uptoBulk d + 1
  | .slice elems spare => uptoBulkAll elems + uptoBulkAll spare + 1
  | .agg parts => uptoBulkAll parts + 1
  | .iface _ d => uptoBulk d + 1
  | .map entries => uptoBulkEntries entries + 1
  | .held _ => 1
def uptoBulkAll {H : Type} : List (DataW H) → Nat
  | [] => 0
  | d :: r => uptoBulk d + uptoBulkAll r
def uptoBulkEntries {H : Type} : List (Lit × DataW H) → Nat
  | [] => 0
  | x :: r => uptoBulkEntry x + uptoBulkEntries r
def uptoBulkEntry {H : Type} : Lit × DataW H → Nat
  | (.string bytes, d) => bytes.length + uptoBulk d + 1
  | (_, d) => uptoBulk d + 1
 end
def uptoSmall : (H : Type) → List (DataW H) → Bool := fun _ ds => decide (uptoBulkAll ds ≤ 1048576)
def OpenSpec.upto (s : _root_.Go.ChangeSpec) : _root_.Go.OpenSpec := { _root_.Go.OpenSpec.ofChange s with cond := some uptoSmall }

/-- 'garnetlaw14.SlotOnce', WHERE WHAT IT READS IS OF BULK AT MOST 1048576: true; the input reads as it did. -/
def slotOnceUptoRow : OpenClaim := { program := "ytalniaipgdbbcaa", sum := "992e6c4a894248de301cb99aa52666a22d0f4c85868508f382e8189bf5cf0678", func := "garnet/garnetlaw14.SlotOnce", spec := "slotOnce", inPlace := ["internal/bytealg.Compare"], unfollowed := true, recurses := true, apart := false, narrowed := true }
def SlotOnceUptoSaid : Prop := slotOnceUptoRow.holds Try.pinned (OpenSpec.upto slotOnceSpec)

/-- 'garnetlaw14.SlotPlays', WHERE WHAT IT READS IS OF BULK AT MOST 1048576: true; the input reads as it did. -/
def slotPlaysUptoRow : OpenClaim := { program := "ytalniaipgdbbcaa", sum := "992e6c4a894248de301cb99aa52666a22d0f4c85868508f382e8189bf5cf0678", func := "garnet/garnetlaw14.SlotPlays", spec := "slotPlays", inPlace := ["internal/bytealg.Compare"], unfollowed := true, recurses := true, apart := false, narrowed := true }
def SlotPlaysUptoSaid : Prop := slotPlaysUptoRow.holds Try.pinned (OpenSpec.upto slotPlaysSpec)

/-- 'garnetlaw12.OmapTurns', WHERE WHAT IT READS IS OF BULK AT MOST 1048576: true; the input reads as it did. -/
def omapTurnsUptoRow : OpenClaim := { program := "ytalniaipgdbbcaa", sum := "992e6c4a894248de301cb99aa52666a22d0f4c85868508f382e8189bf5cf0678", func := "garnet/garnetlaw12.OmapTurns", spec := "omapTurns", inPlace := ["internal/bytealg.Compare", "slices.overlaps[garnet/api.Pair]"], unfollowed := true, recurses := true, apart := false, narrowed := true }
def OmapTurnsUptoSaid : Prop := omapTurnsUptoRow.holds Try.pinned (OpenSpec.upto omapTurnsSpec)

/-- 'garnetlaw12.OmapDoes', WHERE WHAT IT READS IS OF BULK AT MOST 1048576: true; the input reads as it did. -/
def omapDoesUptoRow : OpenClaim := { program := "ytalniaipgdbbcaa", sum := "992e6c4a894248de301cb99aa52666a22d0f4c85868508f382e8189bf5cf0678", func := "garnet/garnetlaw12.OmapDoes", spec := "omapDoes", inPlace := ["internal/bytealg.Compare", "slices.overlaps[garnet/api.Pair]"], unfollowed := true, recurses := true, apart := false, narrowed := true }
def OmapDoesUptoSaid : Prop := omapDoesUptoRow.holds Try.pinned (OpenSpec.upto omapDoesSpec)

/-- 'garnetlaw12.OmapErrs', WHERE WHAT IT READS IS OF BULK AT MOST 1048576: true; the input reads as it did. -/
def omapErrsUptoRow : OpenClaim := { program := "ytalniaipgdbbcaa", sum := "992e6c4a894248de301cb99aa52666a22d0f4c85868508f382e8189bf5cf0678", func := "garnet/garnetlaw12.OmapErrs", spec := "omapErrs", inPlace := ["internal/bytealg.Compare", "slices.overlaps[garnet/api.Pair]"], unfollowed := true, recurses := true, apart := false, narrowed := true }
def OmapErrsUptoSaid : Prop := omapErrsUptoRow.holds Try.pinned (OpenSpec.upto omapErrsSpec)

/-- 'garnetlaw17.JournalOnce', WHERE WHAT IT READS IS OF BULK AT MOST 1048576: true; the input reads as it did. -/
def journalOnceUptoRow : OpenClaim := { program := "ytalniaipgdbbcaa", sum := "992e6c4a894248de301cb99aa52666a22d0f4c85868508f382e8189bf5cf0678", func := "garnet/garnetlaw17.JournalOnce", spec := "journalOnce", inPlace := ["internal/bytealg.Compare"], unfollowed := true, recurses := true, apart := false, narrowed := true }
def JournalOnceUptoSaid : Prop := journalOnceUptoRow.holds Try.pinned (OpenSpec.upto journalOnceSpec)

/-- 'garnetlaw17.JournalPlays', WHERE WHAT IT READS IS OF BULK AT MOST 1048576: true; the input reads as it did. -/
def journalPlaysUptoRow : OpenClaim := { program := "ytalniaipgdbbcaa", sum := "992e6c4a894248de301cb99aa52666a22d0f4c85868508f382e8189bf5cf0678", func := "garnet/garnetlaw17.JournalPlays", spec := "journalPlays", inPlace := ["internal/bytealg.Compare"], unfollowed := true, recurses := true, apart := false, narrowed := true }
def JournalPlaysUptoSaid : Prop := journalPlaysUptoRow.holds Try.pinned (OpenSpec.upto journalPlaysSpec)

/-- 'garnetlaw13.ElideRuns', WHERE WHAT IT READS IS OF BULK AT MOST 1048576: true; the input reads as it did. -/
def elideRunsUptoRow : OpenClaim := { program := "ytalniaipgdbbcaa", sum := "992e6c4a894248de301cb99aa52666a22d0f4c85868508f382e8189bf5cf0678", func := "garnet/garnetlaw13.ElideRuns", spec := "elideRuns", inPlace := ["internal/bytealg.Compare", "slices.overlaps[garnet/api.Pair]"], unfollowed := true, recurses := true, apart := false, narrowed := true }
def ElideRunsUptoSaid : Prop := elideRunsUptoRow.holds Try.pinned (OpenSpec.upto elideRunsSpec)

/-- 'garnetlaw13.ElideOrders', WHERE WHAT IT READS IS OF BULK AT MOST 1048576: true; the input reads as it did. -/
def elideOrdersUptoRow : OpenClaim := { program := "ytalniaipgdbbcaa", sum := "992e6c4a894248de301cb99aa52666a22d0f4c85868508f382e8189bf5cf0678", func := "garnet/garnetlaw13.ElideOrders", spec := "elideOrders", inPlace := ["internal/bytealg.Compare", "slices.overlaps[garnet/api.Pair]"], unfollowed := true, recurses := true, apart := false, narrowed := true }
def ElideOrdersUptoSaid : Prop := elideOrdersUptoRow.holds Try.pinned (OpenSpec.upto elideOrdersSpec)

/-- 'garnetlaw22.HistoryBegins', WHERE WHAT IT READS IS OF BULK AT MOST 1048576: true; the input reads as it did. -/
def historyBeginsUptoRow : OpenClaim := { program := "ytalniaipgdbbcaa", sum := "992e6c4a894248de301cb99aa52666a22d0f4c85868508f382e8189bf5cf0678", func := "garnet/garnetlaw22.HistoryBegins", spec := "historyBegins", inPlace := ["internal/bytealg.Compare", "slices.overlaps[garnet/api.Pair]"], unfollowed := true, recurses := true, apart := false, narrowed := true }
def HistoryBeginsUptoSaid : Prop := historyBeginsUptoRow.holds Try.pinned (OpenSpec.upto historyBeginsSpec)

end Rows
end Go.Proofs.Ytalniaipgdbbcaa
