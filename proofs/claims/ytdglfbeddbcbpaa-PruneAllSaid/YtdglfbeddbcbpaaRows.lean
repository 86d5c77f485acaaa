/-
  No cell of these rows narrows 'for every input' (looked for: loops, veiled, ifaces, maps, wideKeys, modest, calm, conditions, laid).
  DERIVED. THE GIVEN ROWS OF THIS SEAT. 13 by the template 'for every input the law returns true; each argument reads behind the call as it read before'; 0 by the template 'total and deterministic' (their statements: YtdglfbeddbcbpaaTotals.lean).
  GIVEN WITH THE SEED: the statements are not yours to turn. If you find one false, say at which input.
  Laid BY PROGRAM, IN A SANDBOX (cutbox-rows.mjs): the forced cells as the released guide's own fill.sh prints them over the translation eb8d190c4f36e998… (all of the seat's roots in one cut). By AI agents, Wed Nov 11 2026. No macro, syntax, notation, axiom, sorry.
-/
import Derived.Test.YtdglfbeddbcbpaaChecked
import GoSem.Claim
import GoSem.ClaimJoined
import GoSem.ClaimMapViews
import Derived.JoinedTies
import Derived.KernelRfl
namespace Go.Proofs.Ytdglfbeddbcbpaa
/- THE CELL 'sum', in the pinned program and in every row, IS THE sha256 OF THE DUMP (.gsa) THAT YtdglfbeddbcbpaaProg.lean LOADS. Nothing in Lean hashes anything: it is a label: what it is worth is what the hold of that sum in a sandbox is worth. -/
noncomputable def Try.pinned : Pinned := { name := "ytdglfbeddbcbpaa", sum := "eb8d190c4f36e998566c8977d7a51e8b2cc9a1a40b6a6f68074ffb0aad18cffe", checked := Try.checked }
namespace Rows
def none {H : Type} : Left H := { results := [], args := [] }

/-- 'garnetlaw06.RowPuts': WHATEVER THE INPUT: true; the input reads as it did. -/
def rowPutsSpec : ChangeSpec := { name := "rowPuts", fn := fun _ => fun
  | [d1, d2, d3] => { results := [.lit (.bool true)], args := [d1, d2, d3] }
  | _ => none }
def rowPutsRow : OpenClaim := { program := "ytdglfbeddbcbpaa", sum := "eb8d190c4f36e998566c8977d7a51e8b2cc9a1a40b6a6f68074ffb0aad18cffe", func := "garnet/garnetlaw06.RowPuts", spec := "rowPuts", inPlace := ["internal/bytealg.Compare", "slices.overlaps[garnet/api.Pair]"], unfollowed := true, recurses := true, apart := false }
def RowPutsSaid : Prop := rowPutsRow.holds Try.pinned (OpenSpec.ofChange rowPutsSpec)

/-- ITS FALSE NEIGHBOUR: 'it returns false'. Refute it at one input. -/
def rowPutsWrong : ChangeSpec := { name := "rowPuts", fn := fun _ => fun
  | [d1, d2, d3] => { results := [.lit (.bool false)], args := [d1, d2, d3] }
  | _ => none }
def RowPutsWrongFalsely : Prop := rowPutsRow.holds Try.pinned (OpenSpec.ofChange rowPutsWrong)

/-- 'garnetlaw06.RowKeeps': WHATEVER THE INPUT: true; the input reads as it did. -/
def rowKeepsSpec : ChangeSpec := { name := "rowKeeps", fn := fun _ => fun
  | [d1, d2, d3, d4] => { results := [.lit (.bool true)], args := [d1, d2, d3, d4] }
  | _ => none }
def rowKeepsRow : OpenClaim := { program := "ytdglfbeddbcbpaa", sum := "eb8d190c4f36e998566c8977d7a51e8b2cc9a1a40b6a6f68074ffb0aad18cffe", func := "garnet/garnetlaw06.RowKeeps", spec := "rowKeeps", inPlace := ["internal/bytealg.Compare", "slices.overlaps[garnet/api.Pair]"], unfollowed := true, recurses := true, apart := false }
def RowKeepsSaid : Prop := rowKeepsRow.holds Try.pinned (OpenSpec.ofChange rowKeepsSpec)

/-- ITS FALSE NEIGHBOUR: 'it returns false'. Refute it at one input. -/
def rowKeepsWrong : ChangeSpec := { name := "rowKeeps", fn := fun _ => fun
  | [d1, d2, d3, d4] => { results := [.lit (.bool false)], args := [d1, d2, d3, d4] }
  | _ => none }
def RowKeepsWrongFalsely : Prop := rowKeepsRow.holds Try.pinned (OpenSpec.ofChange rowKeepsWrong)

/-- 'garnetlaw08.TreeFull': WHATEVER THE INPUT: true; the input reads as it did. -/
def treeFullSpec : ChangeSpec := { name := "treeFull", fn := fun _ => fun
  | [d1, d2, d3] => { results := [.lit (.bool true)], args := [d1, d2, d3] }
  | _ => none }
def treeFullRow : OpenClaim := { program := "ytdglfbeddbcbpaa", sum := "eb8d190c4f36e998566c8977d7a51e8b2cc9a1a40b6a6f68074ffb0aad18cffe", func := "garnet/garnetlaw08.TreeFull", spec := "treeFull", inPlace := ["internal/bytealg.Compare", "slices.overlaps[garnet/api.Pair]", "slices.overlaps[[]byte]", "slices.overlaps[int]"], unfollowed := true, recurses := true, apart := false }
def TreeFullSaid : Prop := treeFullRow.holds Try.pinned (OpenSpec.ofChange treeFullSpec)

/-- ITS FALSE NEIGHBOUR: 'it returns false'. Refute it at one input. -/
def treeFullWrong : ChangeSpec := { name := "treeFull", fn := fun _ => fun
  | [d1, d2, d3] => { results := [.lit (.bool false)], args := [d1, d2, d3] }
  | _ => none }
def TreeFullWrongFalsely : Prop := treeFullRow.holds Try.pinned (OpenSpec.ofChange treeFullWrong)

/-- 'garnetlaw08.TreeBounds': WHATEVER THE INPUT: true; the input reads as it did. -/
def treeBoundsSpec : ChangeSpec := { name := "treeBounds", fn := fun _ => fun
  | [d1, d2, d3] => { results := [.lit (.bool true)], args := [d1, d2, d3] }
  | _ => none }
def treeBoundsRow : OpenClaim := { program := "ytdglfbeddbcbpaa", sum := "eb8d190c4f36e998566c8977d7a51e8b2cc9a1a40b6a6f68074ffb0aad18cffe", func := "garnet/garnetlaw08.TreeBounds", spec := "treeBounds", inPlace := ["internal/bytealg.Compare", "slices.overlaps[garnet/api.Pair]", "slices.overlaps[[]byte]", "slices.overlaps[int]"], unfollowed := true, recurses := true, apart := false }
def TreeBoundsSaid : Prop := treeBoundsRow.holds Try.pinned (OpenSpec.ofChange treeBoundsSpec)

/-- ITS FALSE NEIGHBOUR: 'it returns false'. Refute it at one input. -/
def treeBoundsWrong : ChangeSpec := { name := "treeBounds", fn := fun _ => fun
  | [d1, d2, d3] => { results := [.lit (.bool false)], args := [d1, d2, d3] }
  | _ => none }
def TreeBoundsWrongFalsely : Prop := treeBoundsRow.holds Try.pinned (OpenSpec.ofChange treeBoundsWrong)

/-- 'garnetlaw08.TreePuts': WHATEVER THE INPUT: true; the input reads as it did. -/
def treePutsSpec : ChangeSpec := { name := "treePuts", fn := fun _ => fun
  | [d1, d2, d3] => { results := [.lit (.bool true)], args := [d1, d2, d3] }
  | _ => none }
def treePutsRow : OpenClaim := { program := "ytdglfbeddbcbpaa", sum := "eb8d190c4f36e998566c8977d7a51e8b2cc9a1a40b6a6f68074ffb0aad18cffe", func := "garnet/garnetlaw08.TreePuts", spec := "treePuts", inPlace := ["internal/bytealg.Compare", "slices.overlaps[garnet/api.Pair]", "slices.overlaps[[]byte]", "slices.overlaps[int]"], unfollowed := true, recurses := true, apart := false }
def TreePutsSaid : Prop := treePutsRow.holds Try.pinned (OpenSpec.ofChange treePutsSpec)

/-- ITS FALSE NEIGHBOUR: 'it returns false'. Refute it at one input. -/
def treePutsWrong : ChangeSpec := { name := "treePuts", fn := fun _ => fun
  | [d1, d2, d3] => { results := [.lit (.bool false)], args := [d1, d2, d3] }
  | _ => none }
def TreePutsWrongFalsely : Prop := treePutsRow.holds Try.pinned (OpenSpec.ofChange treePutsWrong)

/-- 'garnetlaw10.CursorTells': WHATEVER THE INPUT: true; the input reads as it did. -/
def cursorTellsSpec : ChangeSpec := { name := "cursorTells", fn := fun _ => fun
  | [d1, d2, d3] => { results := [.lit (.bool true)], args := [d1, d2, d3] }
  | _ => none }
def cursorTellsRow : OpenClaim := { program := "ytdglfbeddbcbpaa", sum := "eb8d190c4f36e998566c8977d7a51e8b2cc9a1a40b6a6f68074ffb0aad18cffe", func := "garnet/garnetlaw10.CursorTells", spec := "cursorTells", inPlace := ["internal/bytealg.Compare", "slices.overlaps[garnet/api.Pair]", "slices.overlaps[[]byte]", "slices.overlaps[int]"], unfollowed := true, recurses := true, apart := false }
def CursorTellsSaid : Prop := cursorTellsRow.holds Try.pinned (OpenSpec.ofChange cursorTellsSpec)

/-- ITS FALSE NEIGHBOUR: 'it returns false'. Refute it at one input. -/
def cursorTellsWrong : ChangeSpec := { name := "cursorTells", fn := fun _ => fun
  | [d1, d2, d3] => { results := [.lit (.bool false)], args := [d1, d2, d3] }
  | _ => none }
def CursorTellsWrongFalsely : Prop := cursorTellsRow.holds Try.pinned (OpenSpec.ofChange cursorTellsWrong)

/-- 'garnetlaw11.BulkLoads': WHATEVER THE INPUT: true; the input reads as it did. -/
def bulkLoadsSpec : ChangeSpec := { name := "bulkLoads", fn := fun _ => fun
  | [d1, d2, d3] => { results := [.lit (.bool true)], args := [d1, d2, d3] }
  | _ => none }
def bulkLoadsRow : OpenClaim := { program := "ytdglfbeddbcbpaa", sum := "eb8d190c4f36e998566c8977d7a51e8b2cc9a1a40b6a6f68074ffb0aad18cffe", func := "garnet/garnetlaw11.BulkLoads", spec := "bulkLoads", inPlace := ["internal/bytealg.Compare", "slices.overlaps[garnet/api.Pair]", "slices.overlaps[[]byte]", "slices.overlaps[int]"], unfollowed := true, recurses := true, apart := false }
def BulkLoadsSaid : Prop := bulkLoadsRow.holds Try.pinned (OpenSpec.ofChange bulkLoadsSpec)

/-- ITS FALSE NEIGHBOUR: 'it returns false'. Refute it at one input. -/
def bulkLoadsWrong : ChangeSpec := { name := "bulkLoads", fn := fun _ => fun
  | [d1, d2, d3] => { results := [.lit (.bool false)], args := [d1, d2, d3] }
  | _ => none }
def BulkLoadsWrongFalsely : Prop := bulkLoadsRow.holds Try.pinned (OpenSpec.ofChange bulkLoadsWrong)

/-- 'garnetlaw11.BulkCuts': WHATEVER THE INPUT: true; the input reads as it did. -/
def bulkCutsSpec : ChangeSpec := { name := "bulkCuts", fn := fun _ => fun
  | [d1, d2, d3, d4] => { results := [.lit (.bool true)], args := [d1, d2, d3, d4] }
  | _ => none }
def bulkCutsRow : OpenClaim := { program := "ytdglfbeddbcbpaa", sum := "eb8d190c4f36e998566c8977d7a51e8b2cc9a1a40b6a6f68074ffb0aad18cffe", func := "garnet/garnetlaw11.BulkCuts", spec := "bulkCuts", inPlace := ["internal/bytealg.Compare", "slices.overlaps[garnet/api.Pair]", "slices.overlaps[[]byte]", "slices.overlaps[int]"], unfollowed := true, recurses := true, apart := false }
def BulkCutsSaid : Prop := bulkCutsRow.holds Try.pinned (OpenSpec.ofChange bulkCutsSpec)

/-- ITS FALSE NEIGHBOUR: 'it returns false'. Refute it at one input. -/
def bulkCutsWrong : ChangeSpec := { name := "bulkCuts", fn := fun _ => fun
  | [d1, d2, d3, d4] => { results := [.lit (.bool false)], args := [d1, d2, d3, d4] }
  | _ => none }
def BulkCutsWrongFalsely : Prop := bulkCutsRow.holds Try.pinned (OpenSpec.ofChange bulkCutsWrong)

/-- 'garnetlaw11.BulkBack': WHATEVER THE INPUT: true; the input reads as it did. -/
def bulkBackSpec : ChangeSpec := { name := "bulkBack", fn := fun _ => fun
  | [d1, d2, d3] => { results := [.lit (.bool true)], args := [d1, d2, d3] }
  | _ => none }
def bulkBackRow : OpenClaim := { program := "ytdglfbeddbcbpaa", sum := "eb8d190c4f36e998566c8977d7a51e8b2cc9a1a40b6a6f68074ffb0aad18cffe", func := "garnet/garnetlaw11.BulkBack", spec := "bulkBack", inPlace := ["internal/bytealg.Compare", "slices.overlaps[garnet/api.Pair]", "slices.overlaps[[]byte]", "slices.overlaps[int]"], unfollowed := true, recurses := true, apart := false }
def BulkBackSaid : Prop := bulkBackRow.holds Try.pinned (OpenSpec.ofChange bulkBackSpec)

/-- ITS FALSE NEIGHBOUR: 'it returns false'. Refute it at one input. -/
def bulkBackWrong : ChangeSpec := { name := "bulkBack", fn := fun _ => fun
  | [d1, d2, d3] => { results := [.lit (.bool false)], args := [d1, d2, d3] }
  | _ => none }
def BulkBackWrongFalsely : Prop := bulkBackRow.holds Try.pinned (OpenSpec.ofChange bulkBackWrong)

/-- 'garnetlaw11.BulkJoins': WHATEVER THE INPUT: true; the input reads as it did. -/
def bulkJoinsSpec : ChangeSpec := { name := "bulkJoins", fn := fun _ => fun
  | [d1, d2, d3, d4] => { results := [.lit (.bool true)], args := [d1, d2, d3, d4] }
  | _ => none }
def bulkJoinsRow : OpenClaim := { program := "ytdglfbeddbcbpaa", sum := "eb8d190c4f36e998566c8977d7a51e8b2cc9a1a40b6a6f68074ffb0aad18cffe", func := "garnet/garnetlaw11.BulkJoins", spec := "bulkJoins", inPlace := ["internal/bytealg.Compare", "slices.overlaps[garnet/api.Pair]", "slices.overlaps[[]byte]", "slices.overlaps[int]"], unfollowed := true, recurses := true, apart := false }
def BulkJoinsSaid : Prop := bulkJoinsRow.holds Try.pinned (OpenSpec.ofChange bulkJoinsSpec)

/-- ITS FALSE NEIGHBOUR: 'it returns false'. Refute it at one input. -/
def bulkJoinsWrong : ChangeSpec := { name := "bulkJoins", fn := fun _ => fun
  | [d1, d2, d3, d4] => { results := [.lit (.bool false)], args := [d1, d2, d3, d4] }
  | _ => none }
def BulkJoinsWrongFalsely : Prop := bulkJoinsRow.holds Try.pinned (OpenSpec.ofChange bulkJoinsWrong)

/-- 'garnetlaw09.PruneDeletes': WHATEVER THE INPUT: true; the input reads as it did. -/
def pruneDeletesSpec : ChangeSpec := { name := "pruneDeletes", fn := fun _ => fun
  | [d1, d2, d3] => { results := [.lit (.bool true)], args := [d1, d2, d3] }
  | _ => none }
def pruneDeletesRow : OpenClaim := { program := "ytdglfbeddbcbpaa", sum := "eb8d190c4f36e998566c8977d7a51e8b2cc9a1a40b6a6f68074ffb0aad18cffe", func := "garnet/garnetlaw09.PruneDeletes", spec := "pruneDeletes", inPlace := ["internal/bytealg.Compare", "slices.overlaps[garnet/api.Pair]", "slices.overlaps[[]byte]", "slices.overlaps[int]"], unfollowed := true, recurses := true, apart := false }
def PruneDeletesSaid : Prop := pruneDeletesRow.holds Try.pinned (OpenSpec.ofChange pruneDeletesSpec)

/-- ITS FALSE NEIGHBOUR: 'it returns false'. Refute it at one input. -/
def pruneDeletesWrong : ChangeSpec := { name := "pruneDeletes", fn := fun _ => fun
  | [d1, d2, d3] => { results := [.lit (.bool false)], args := [d1, d2, d3] }
  | _ => none }
def PruneDeletesWrongFalsely : Prop := pruneDeletesRow.holds Try.pinned (OpenSpec.ofChange pruneDeletesWrong)

/-- 'garnetlaw09.PruneAll': WHATEVER THE INPUT: true; the input reads as it did. -/
def pruneAllSpec : ChangeSpec := { name := "pruneAll", fn := fun _ => fun
  | [d1, d2, d3] => { results := [.lit (.bool true)], args := [d1, d2, d3] }
  | _ => none }
def pruneAllRow : OpenClaim := { program := "ytdglfbeddbcbpaa", sum := "eb8d190c4f36e998566c8977d7a51e8b2cc9a1a40b6a6f68074ffb0aad18cffe", func := "garnet/garnetlaw09.PruneAll", spec := "pruneAll", inPlace := ["internal/bytealg.Compare", "slices.overlaps[garnet/api.Pair]", "slices.overlaps[[]byte]", "slices.overlaps[int]"], unfollowed := true, recurses := true, apart := false }
def PruneAllSaid : Prop := pruneAllRow.holds Try.pinned (OpenSpec.ofChange pruneAllSpec)

/-- ITS FALSE NEIGHBOUR: 'it returns false'. Refute it at one input. -/
def pruneAllWrong : ChangeSpec := { name := "pruneAll", fn := fun _ => fun
  | [d1, d2, d3] => { results := [.lit (.bool false)], args := [d1, d2, d3] }
  | _ => none }
def PruneAllWrongFalsely : Prop := pruneAllRow.holds Try.pinned (OpenSpec.ofChange pruneAllWrong)

/-- 'garnetlaw09.PruneClears': WHATEVER THE INPUT: true; the input reads as it did. -/
def pruneClearsSpec : ChangeSpec := { name := "pruneClears", fn := fun _ => fun
  | [d1, d2, d3] => { results := [.lit (.bool true)], args := [d1, d2, d3] }
  | _ => none }
def pruneClearsRow : OpenClaim := { program := "ytdglfbeddbcbpaa", sum := "eb8d190c4f36e998566c8977d7a51e8b2cc9a1a40b6a6f68074ffb0aad18cffe", func := "garnet/garnetlaw09.PruneClears", spec := "pruneClears", inPlace := ["internal/bytealg.Compare", "slices.overlaps[garnet/api.Pair]", "slices.overlaps[[]byte]", "slices.overlaps[int]"], unfollowed := true, recurses := true, apart := false }
def PruneClearsSaid : Prop := pruneClearsRow.holds Try.pinned (OpenSpec.ofChange pruneClearsSpec)

/-- ITS FALSE NEIGHBOUR: 'it returns false'. Refute it at one input. -/
def pruneClearsWrong : ChangeSpec := { name := "pruneClears", fn := fun _ => fun
  | [d1, d2, d3] => { results := [.lit (.bool false)], args := [d1, d2, d3] }
  | _ => none }
def PruneClearsWrongFalsely : Prop := pruneClearsRow.holds Try.pinned (OpenSpec.ofChange pruneClearsWrong)

/- THE SECOND FORM. 'bulk': how many values and letters a reading holds, each counted each time it is reached (what is shared counts as often as it is met; a slice's spare places count too). A statement '..UptoSaid' is the law's where the arguments, and the package variables that the reading takes, are together of bulk at most 1048576: NARROWER than '..Said'. Prove '..Said' where nothing that the law and all that it calls make is longer than what came in: it says more and counts as full. Else prove '..UptoSaid'. A law counts once. -/
mutual
def uptoBulk {H : Type} : DataW H → Nat
  | .lit (.string bytes) => bytes.length + 1
  | .lit _ => 1
  | .nil => 1
  | .ptr d => uptoBulk d + 1
  | .slice elems spare => uptoBulkAll elems + uptoBulkAll spare + 1
  | .agg parts => uptoBulkAll parts + 1
  | .iface _ d => uptoBulk d + 1
  | .map entries => uptoBulkEntries entries + 1
  | .held _ => 1
def uptoBulkAll {H : Type} : List (DataW H) → Nat
  | [] => 0
  | d :: r => uptoBulk d + uptoBulkAll r
def uptoBulkEntries {H : Type} : List (Lit × DataW H) → Nat
  | [] => 0
  | x :: r => uptoBulkEntry x + uptoBulkEntries r
def uptoBulkEntry {H : Type} : Lit × DataW H → Nat
  | (.string bytes, d) => bytes.length + uptoBulk d + 1
  | (_, d) => uptoBulk d + 1
 end
def uptoSmall : (H : Type) → List (DataW H) → Bool := fun _ ds => decide (uptoBulkAll ds ≤ 1048576)
def OpenSpec.upto (s : _root_.Go.ChangeSpec) : _root_.Go.OpenSpec := { _root_.Go.OpenSpec.ofChange s with cond := some uptoSmall }

/-- 'garnetlaw06.RowPuts', WHERE WHAT IT READS IS OF BULK AT MOST 1048576: true; the input reads as it did. -/
def rowPutsUptoRow : OpenClaim := { program := "ytdglfbeddbcbpaa", sum := "eb8d190c4f36e998566c8977d7a51e8b2cc9a1a40b6a6f68074ffb0aad18cffe", func := "garnet/garnetlaw06.RowPuts", spec := "rowPuts", inPlace := ["internal/bytealg.Compare", "slices.overlaps[garnet/api.Pair]"], unfollowed := true, recurses := true, apart := false, narrowed := true }
def RowPutsUptoSaid : Prop := rowPutsUptoRow.holds Try.pinned (OpenSpec.upto rowPutsSpec)

/-- 'garnetlaw06.RowKeeps', WHERE WHAT IT READS IS OF BULK AT MOST 1048576: true; the input reads as it did. -/
def rowKeepsUptoRow : OpenClaim := { program := "ytdglfbeddbcbpaa", sum := "eb8d190c4f36e998566c8977d7a51e8b2cc9a1a40b6a6f68074ffb0aad18cffe", func := "garnet/garnetlaw06.RowKeeps", spec := "rowKeeps", inPlace := ["internal/bytealg.Compare", "slices.overlaps[garnet/api.Pair]"], unfollowed := true, recurses := true, apart := false, narrowed := true }
def RowKeepsUptoSaid : Prop := rowKeepsUptoRow.holds Try.pinned (OpenSpec.upto rowKeepsSpec)

/-- 'garnetlaw08.TreeFull', WHERE WHAT IT READS IS OF BULK AT MOST 1048576: true; the input reads as it did. -/
def treeFullUptoRow : OpenClaim := { program := "ytdglfbeddbcbpaa", sum := "eb8d190c4f36e998566c8977d7a51e8b2cc9a1a40b6a6f68074ffb0aad18cffe", func := "garnet/garnetlaw08.TreeFull", spec := "treeFull", inPlace := ["internal/bytealg.Compare", "slices.overlaps[garnet/api.Pair]", "slices.overlaps[[]byte]", "slices.overlaps[int]"], unfollowed := true, recurses := true, apart := false, narrowed := true }
def TreeFullUptoSaid : Prop := treeFullUptoRow.holds Try.pinned (OpenSpec.upto treeFullSpec)

/-- 'garnetlaw08.TreeBounds', WHERE WHAT IT READS IS OF BULK AT MOST 1048576: true; the input reads as it did. -/
def treeBoundsUptoRow : OpenClaim := { program := "ytdglfbeddbcbpaa", sum := "eb8d190c4f36e998566c8977d7a51e8b2cc9a1a40b6a6f68074ffb0aad18cffe", func := "garnet/garnetlaw08.TreeBounds", spec := "treeBounds", inPlace := ["internal/bytealg.Compare", "slices.overlaps[garnet/api.Pair]", "slices.overlaps[[]byte]", "slices.overlaps[int]"], unfollowed := true, recurses := true, apart := false, narrowed := true }
def TreeBoundsUptoSaid : Prop := treeBoundsUptoRow.holds Try.pinned (OpenSpec.upto treeBoundsSpec)

/-- 'garnetlaw08.TreePuts', WHERE WHAT IT READS IS OF BULK AT MOST 1048576: true; the input reads as it did. -/
def treePutsUptoRow : OpenClaim := { program := "ytdglfbeddbcbpaa", sum := "eb8d190c4f36e998566c8977d7a51e8b2cc9a1a40b6a6f68074ffb0aad18cffe", func := "garnet/garnetlaw08.TreePuts", spec := "treePuts", inPlace := ["internal/bytealg.Compare", "slices.overlaps[garnet/api.Pair]", "slices.overlaps[[]byte]", "slices.overlaps[int]"], unfollowed := true, recurses := true, apart := false, narrowed := true }
def TreePutsUptoSaid : Prop := treePutsUptoRow.holds Try.pinned (OpenSpec.upto treePutsSpec)

/-- 'garnetlaw10.CursorTells', WHERE WHAT IT READS IS OF BULK AT MOST 1048576: true; the input reads as it did. -/
def cursorTellsUptoRow : OpenClaim := { program := "ytdglfbeddbcbpaa", sum := "eb8d190c4f36e998566c8977d7a51e8b2cc9a1a40b6a6f68074ffb0aad18cffe", func := "garnet/garnetlaw10.CursorTells", spec := "cursorTells", inPlace := ["internal/bytealg.Compare", "slices.overlaps[garnet/api.Pair]", "slices.overlaps[[]byte]", "slices.overlaps[int]"], unfollowed := true, recurses := true, apart := false, narrowed := true }
def CursorTellsUptoSaid : Prop := cursorTellsUptoRow.holds Try.pinned (OpenSpec.upto cursorTellsSpec)

/-- 'garnetlaw11.BulkLoads', WHERE WHAT IT READS IS OF BULK AT MOST 1048576: true; the input reads as it did. -/
def bulkLoadsUptoRow : OpenClaim := { program := "ytdglfbeddbcbpaa", sum := "eb8d190c4f36e998566c8977d7a51e8b2cc9a1a40b6a6f68074ffb0aad18cffe", func := "garnet/garnetlaw11.BulkLoads", spec := "bulkLoads", inPlace := ["internal/bytealg.Compare", "slices.overlaps[garnet/api.Pair]", "slices.overlaps[[]byte]", "slices.overlaps[int]"], unfollowed := true, recurses := true, apart := false, narrowed := true }
def BulkLoadsUptoSaid : Prop := bulkLoadsUptoRow.holds Try.pinned (OpenSpec.upto bulkLoadsSpec)

/-- 'garnetlaw11.BulkCuts', WHERE WHAT IT READS IS OF BULK AT MOST 1048576: true; the input reads as it did. -/
def bulkCutsUptoRow : OpenClaim := { program := "ytdglfbeddbcbpaa", sum := "eb8d190c4f36e998566c8977d7a51e8b2cc9a1a40b6a6f68074ffb0aad18cffe", func := "garnet/garnetlaw11.BulkCuts", spec := "bulkCuts", inPlace := ["internal/bytealg.Compare", "slices.overlaps[garnet/api.Pair]", "slices.overlaps[[]byte]", "slices.overlaps[int]"], unfollowed := true, recurses := true, apart := false, narrowed := true }
def BulkCutsUptoSaid : Prop := bulkCutsUptoRow.holds Try.pinned (OpenSpec.upto bulkCutsSpec)

/-- 'garnetlaw11.BulkBack', WHERE WHAT IT READS IS OF BULK AT MOST 1048576: true; the input reads as it did. -/
def bulkBackUptoRow : OpenClaim := { program := "ytdglfbeddbcbpaa", sum := "eb8d190c4f36e998566c8977d7a51e8b2cc9a1a40b6a6f68074ffb0aad18cffe", func := "garnet/garnetlaw11.BulkBack", spec := "bulkBack", inPlace := ["internal/bytealg.Compare", "slices.overlaps[garnet/api.Pair]", "slices.overlaps[[]byte]", "slices.overlaps[int]"], unfollowed := true, recurses := true, apart := false, narrowed := true }
def BulkBackUptoSaid : Prop := bulkBackUptoRow.holds Try.pinned (OpenSpec.upto bulkBackSpec)

/-- 'garnetlaw11.BulkJoins', WHERE WHAT IT READS IS OF BULK AT MOST 1048576: true; the input reads as it did. -/
def bulkJoinsUptoRow : OpenClaim := { program := "ytdglfbeddbcbpaa", sum := "eb8d190c4f36e998566c8977d7a51e8b2cc9a1a40b6a6f68074ffb0aad18cffe", func := "garnet/garnetlaw11.BulkJoins", spec := "bulkJoins", inPlace := ["internal/bytealg.Compare", "slices.overlaps[garnet/api.Pair]", "slices.overlaps[[]byte]", "slices.overlaps[int]"], unfollowed := true, recurses := true, apart := false, narrowed := true }
def BulkJoinsUptoSaid : Prop := bulkJoinsUptoRow.holds Try.pinned (OpenSpec.upto bulkJoinsSpec)

/-- 'garnetlaw09.PruneDeletes', WHERE WHAT IT READS IS OF BULK AT MOST 1048576: true; the input reads as it did. -/
def pruneDeletesUptoRow : OpenClaim := { program := "ytdglfbeddbcbpaa", sum := "eb8d190c4f36e998566c8977d7a51e8b2cc9a1a40b6a6f68074ffb0aad18cffe", func := "garnet/garnetlaw09.PruneDeletes", spec := "pruneDeletes", inPlace := ["internal/bytealg.Compare", "slices.overlaps[garnet/api.Pair]", "slices.overlaps[[]byte]", "slices.overlaps[int]"], unfollowed := true, recurses := true, apart := false, narrowed := true }
def PruneDeletesUptoSaid : Prop := pruneDeletesUptoRow.holds Try.pinned (OpenSpec.upto pruneDeletesSpec)

/-- 'garnetlaw09.PruneAll', WHERE WHAT IT READS IS OF BULK AT MOST 1048576: true; the input reads as it did. -/
def pruneAllUptoRow : OpenClaim := { program := "ytdglfbeddbcbpaa", sum := "eb8d190c4f36e998566c8977d7a51e8b2cc9a1a40b6a6f68074ffb0aad18cffe", func := "garnet/garnetlaw09.PruneAll", spec := "pruneAll", inPlace := ["internal/bytealg.Compare", "slices.overlaps[garnet/api.Pair]", "slices.overlaps[[]byte]", "slices.overlaps[int]"], unfollowed := true, recurses := true, apart := false, narrowed := true }
def PruneAllUptoSaid : Prop := pruneAllUptoRow.holds Try.pinned (OpenSpec.upto pruneAllSpec)

/-- 'garnetlaw09.PruneClears', WHERE WHAT IT READS IS OF BULK AT MOST 1048576: true; the input reads as it did. -/
def pruneClearsUptoRow : OpenClaim := { program := "ytdglfbeddbcbpaa", sum := "eb8d190c4f36e998566c8977d7a51e8b2cc9a1a40b6a6f68074ffb0aad18cffe", func := "garnet/garnetlaw09.PruneClears", spec := "pruneClears", inPlace := ["internal/bytealg.Compare", "slices.overlaps[garnet/api.Pair]", "slices.overlaps[[]byte]", "slices.overlaps[int]"], unfollowed := true, recurses := true, apart := false, narrowed := true }
def PruneClearsUptoSaid : Prop := pruneClearsUptoRow.holds Try.pinned (OpenSpec.upto pruneClearsSpec)

end Rows
end Go.Proofs.Ytdglfbeddbcbpaa
