/-
  DERIVED. GIVEN WITH THE SEED: THE CARDS: each row of YtoefahgookhicaaGreatDoorBesafterRows.lean that lists a variable, with what it lists TIED to the program's text (the seventh form; the later family's looks); each row that meets fmt, with fmt's text TOLD by the authors' own Lean function (tested against real Go, not proved from fmt's source: count such statements apart). THE CARD IS WHAT COUNTS. Prove the row's statement (the work); the ties are given (YtoefahgookhicaaGreatDoorBesafterTie.lean); close each card by the builder's one call (the guide's Derived/Test/ToyasCard.lean, 'card_holds'). Laid BY PROGRAM, IN A SANDBOX (cutbox-door.mjs). By AI agents, Wed Nov 11 2026. No macro, syntax, notation, axiom, sorry.
-/
import Derived.Test.YtoefahgookhicaaGreatDoorBesafterRows
import GoSem.ClaimSeven
namespace Go.Proofs.YtoefahgookhicaaGreatDoorBesafter
namespace Rows

/-- THE TIED CARD OF 'enclosurelaw.EftFused'. -/
def eftFusedCard : Claim7 := { stood := { row := eftFusedRow, standIns := [], harness := (true, "3e7686d6fd4c44ab96d727c3c952abf177c9876d2f2791f38d197581dac96091"), looks := true }, kinds := [], alts := [], laidByText := true, laidKinds := [.data, .data, .data, .data, .data, .data, .data, .data], laidTests := true, laidLooks := .later }
def EftFusedCardSaid : Prop := Claim7.holds Tryz.pinned (.plain (OpenSpec.ofChange eftFusedSpec)) eftFusedCard

/-- THE SECOND FORM's CARD OF 'enclosurelaw.EftFused'. -/
def eftFusedUptoCard : Claim7 := { stood := { row := eftFusedUptoRow, standIns := [], harness := (true, "3e7686d6fd4c44ab96d727c3c952abf177c9876d2f2791f38d197581dac96091"), looks := true }, kinds := [], alts := [], laidByText := true, laidKinds := [.data, .data, .data, .data, .data, .data, .data, .data], laidTests := true, laidLooks := .later }
def EftFusedUptoCardSaid : Prop := Claim7.holds Tryz.pinned (.plain (OpenSpec.upto eftFusedSpec)) eftFusedUptoCard
end Rows
end Go.Proofs.YtoefahgookhicaaGreatDoorBesafter
