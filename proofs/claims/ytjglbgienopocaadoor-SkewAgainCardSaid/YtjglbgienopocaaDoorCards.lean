/-
  DERIVED. GIVEN WITH THE SEED: THE CARDS: each row of YtjglbgienopocaaDoorRows.lean that lists a variable, with what it lists TIED to the program's text (the seventh form; the later family's looks); each row that meets fmt, with fmt's text TOLD by the authors' own Lean function (tested against real Go, not proved from fmt's source: count such statements apart). THE CARD IS WHAT COUNTS. Prove the row's statement (the work); the ties are given (YtjglbgienopocaaDoorTie.lean); close each card by the builder's one call (the guide's Derived/Test/ToyasCard.lean, 'card_holds'). Laid BY PROGRAM, IN A SANDBOX (cutbox-door.mjs). By AI agents, Wed Nov 11 2026. No macro, syntax, notation, axiom, sorry.
-/
import Derived.Test.YtjglbgienopocaaDoorRows
import GoSem.ClaimSeven
namespace Go.Proofs.YtjglbgienopocaaDoor
namespace Rows

/-- THE TIED CARD OF 'slagheaplaw09.SkewAgain'. -/
def skewAgainCard : Claim7 := { stood := { row := skewAgainRow, standIns := [], harness := (true, "fa2f97b051ebbee64f99d4bf5bdd496ad2a3d9c2486a5e9fd0da7b374318d86f"), looks := false }, kinds := [], alts := [], laidByText := true, laidKinds := [.data, .data, .data], laidTests := true, laidLooks := .later }
def SkewAgainCardSaid : Prop := Claim7.holds Tryd.pinned (.plain (OpenSpec.ofChange skewAgainSpec)) skewAgainCard

/-- THE TIED CARD OF 'slagheaplaw09.SkewSteps'. -/
def skewStepsCard : Claim7 := { stood := { row := skewStepsRow, standIns := [], harness := (true, "fa2f97b051ebbee64f99d4bf5bdd496ad2a3d9c2486a5e9fd0da7b374318d86f"), looks := false }, kinds := [], alts := [], laidByText := true, laidKinds := [.data, .data, .data], laidTests := true, laidLooks := .later }
def SkewStepsCardSaid : Prop := Claim7.holds Tryd.pinned (.plain (OpenSpec.ofChange skewStepsSpec)) skewStepsCard

/-- THE SECOND FORM's CARD OF 'slagheaplaw09.SkewAgain'. -/
def skewAgainUptoCard : Claim7 := { stood := { row := skewAgainUptoRow, standIns := [], harness := (true, "fa2f97b051ebbee64f99d4bf5bdd496ad2a3d9c2486a5e9fd0da7b374318d86f"), looks := false }, kinds := [], alts := [], laidByText := true, laidKinds := [.data, .data, .data], laidTests := true, laidLooks := .later }
def SkewAgainUptoCardSaid : Prop := Claim7.holds Tryd.pinned (.plain (OpenSpec.upto skewAgainSpec)) skewAgainUptoCard

/-- THE SECOND FORM's CARD OF 'slagheaplaw09.SkewSteps'. -/
def skewStepsUptoCard : Claim7 := { stood := { row := skewStepsUptoRow, standIns := [], harness := (true, "fa2f97b051ebbee64f99d4bf5bdd496ad2a3d9c2486a5e9fd0da7b374318d86f"), looks := false }, kinds := [], alts := [], laidByText := true, laidKinds := [.data, .data, .data], laidTests := true, laidLooks := .later }
def SkewStepsUptoCardSaid : Prop := Claim7.holds Tryd.pinned (.plain (OpenSpec.upto skewStepsSpec)) skewStepsUptoCard
end Rows
end Go.Proofs.YtjglbgienopocaaDoor
