/-
  DERIVED. GIVEN WITH THE SEED: THE CARDS: each row of YtllocmgmilllaaaDoorRows.lean that lists a variable, with what it lists TIED to the program's text (the seventh form; the later family's looks); each row that meets fmt, with fmt's text TOLD by the authors' own Lean function (tested against real Go, not proved from fmt's source: count such statements apart). THE CARD IS WHAT COUNTS. Prove the row's statement (the work); the ties are given (YtllocmgmilllaaaDoorTie.lean); close each card by the builder's one call (the guide's Derived/Test/ToyasCard.lean, 'card_holds'). Laid BY PROGRAM, IN A SANDBOX (cutbox-door.mjs). By AI agents, Wed Nov 11 2026. No macro, syntax, notation, axiom, sorry.
-/
import Derived.Test.YtllocmgmilllaaaDoorRows
import GoSem.ClaimSeven
namespace Go.Proofs.YtllocmgmilllaaaDoor
namespace Rows

/-- THE TIED CARD OF 'waybilllaw06.TableParses'. -/
def tableParsesCard : Claim7 := { stood := { row := tableParsesRow, standIns := [], harness := (true, "03905f4124594112b05eca74f643aec85d2267c89e83f32666d1904e75850a05"), looks := false }, kinds := [], alts := [], laidByText := true, laidKinds := [.data, .pinned], laidTests := true, laidLooks := .later }
def TableParsesCardSaid : Prop := Claim7.holds Tryd.pinned (.plain (OpenSpec.ofChange tableParsesSpec)) tableParsesCard

/-- THE SECOND FORM's CARD OF 'waybilllaw06.TableParses'. -/
def tableParsesUptoCard : Claim7 := { stood := { row := tableParsesUptoRow, standIns := [], harness := (true, "03905f4124594112b05eca74f643aec85d2267c89e83f32666d1904e75850a05"), looks := false }, kinds := [], alts := [], laidByText := true, laidKinds := [.data, .pinned], laidTests := true, laidLooks := .later }
def TableParsesUptoCardSaid : Prop := Claim7.holds Tryd.pinned (.plain (OpenSpec.upto tableParsesSpec)) tableParsesUptoCard
end Rows
end Go.Proofs.YtllocmgmilllaaaDoor
