/-
  DERIVED. GIVEN WITH THE SEED: THE CARDS: each row of YtabeehbgoljddaaDoorRows.lean that lists a variable, with what it lists TIED to the program's text (the seventh form; the later family's looks); each row that meets fmt, with fmt's text TOLD by the authors' own Lean function (tested against real Go, not proved from fmt's source: count such statements apart). THE CARD IS WHAT COUNTS. Prove the row's statement (the work); the ties are given (YtabeehbgoljddaaDoorTie.lean); close each card by the builder's one call (the guide's Derived/Test/ToyasCard.lean, 'card_holds'). Laid BY PROGRAM, IN A SANDBOX (cutbox-door.mjs). By AI agents, Wed Nov 11 2026. No macro, syntax, notation, axiom, sorry.
-/
import Derived.Test.YtabeehbgoljddaaDoorRows
import GoSem.ClaimSeven
namespace Go.Proofs.YtabeehbgoljddaaDoor
namespace Rows

/-- THE TIED CARD OF 'garnetlaw04.TrapAll'. -/
def trapAllCard : Claim7 := { stood := { row := trapAllRow, standIns := [], harness := (true, "4256dbd8fd2eb8ef39c71f2f1a686801695983b7d1636e3af9122fb8251a1a36"), looks := true }, kinds := [], alts := [], laidByText := true, laidKinds := [.handle], laidTests := true, laidLooks := .later }
def TrapAllCardSaid : Prop := Claim7.holds Tryd.pinned (.plain (OpenSpec.ofChange trapAllSpec)) trapAllCard

/-- THE TIED CARD OF 'garnetlaw04.TrapCalls'. -/
def trapCallsCard : Claim7 := { stood := { row := trapCallsRow, standIns := [], harness := (true, "4256dbd8fd2eb8ef39c71f2f1a686801695983b7d1636e3af9122fb8251a1a36"), looks := true }, kinds := [], alts := [], laidByText := true, laidKinds := [.handle], laidTests := true, laidLooks := .later }
def TrapCallsCardSaid : Prop := Claim7.holds Tryd.pinned (.plain (OpenSpec.ofChange trapCallsSpec)) trapCallsCard

/-- THE SECOND FORM's CARD OF 'garnetlaw04.TrapAll'. -/
def trapAllUptoCard : Claim7 := { stood := { row := trapAllUptoRow, standIns := [], harness := (true, "4256dbd8fd2eb8ef39c71f2f1a686801695983b7d1636e3af9122fb8251a1a36"), looks := true }, kinds := [], alts := [], laidByText := true, laidKinds := [.handle], laidTests := true, laidLooks := .later }
def TrapAllUptoCardSaid : Prop := Claim7.holds Tryd.pinned (.plain (OpenSpec.upto trapAllSpec)) trapAllUptoCard

/-- THE SECOND FORM's CARD OF 'garnetlaw04.TrapCalls'. -/
def trapCallsUptoCard : Claim7 := { stood := { row := trapCallsUptoRow, standIns := [], harness := (true, "4256dbd8fd2eb8ef39c71f2f1a686801695983b7d1636e3af9122fb8251a1a36"), looks := true }, kinds := [], alts := [], laidByText := true, laidKinds := [.handle], laidTests := true, laidLooks := .later }
def TrapCallsUptoCardSaid : Prop := Claim7.holds Tryd.pinned (.plain (OpenSpec.upto trapCallsSpec)) trapCallsUptoCard
end Rows
end Go.Proofs.YtabeehbgoljddaaDoor
