/-
  DERIVED. GIVEN WITH THE SEED: THE CARDS: each row of YtjlabjncojhjkaaDoorRows.lean that lists a variable, with what it lists TIED to the program's text (the seventh form; the later family's looks); each row that meets fmt, with fmt's text TOLD by the authors' own Lean function (tested against real Go, not proved from fmt's source: count such statements apart). THE CARD IS WHAT COUNTS. Prove the row's statement (the work); the ties are given (YtjlabjncojhjkaaDoorTie.lean); close each card by the builder's one call (the guide's Derived/Test/ToyasCard.lean, 'card_holds'). Laid BY PROGRAM, IN A SANDBOX (cutbox-door.mjs). By AI agents, Wed Nov 11 2026. No macro, syntax, notation, axiom, sorry.
-/
import Derived.Test.YtjlabjncojhjkaaDoorRows
import GoSem.ClaimSeven
namespace Go.Proofs.YtjlabjncojhjkaaDoor
namespace Rows

/-- THE TIED CARD OF 'weirgatelaw07.CnfOnce'. -/
def cnfOnceCard : Claim7 := { stood := { row := cnfOnceRow, standIns := [], harness := (true, "e5edd0517d27f44595c01d091b328d5840164275899552def416eeefcc1e5cdc"), looks := false }, kinds := [], alts := [], laidByText := true, laidKinds := [.data], laidTests := true, laidLooks := .later }
def CnfOnceCardSaid : Prop := Claim7.holds Tryd.pinned (.plain (OpenSpec.ofChange cnfOnceSpec)) cnfOnceCard

/-- THE TIED CARD OF 'weirgatelaw07.CnfGrows'. -/
def cnfGrowsCard : Claim7 := { stood := { row := cnfGrowsRow, standIns := [], harness := (true, "e5edd0517d27f44595c01d091b328d5840164275899552def416eeefcc1e5cdc"), looks := false }, kinds := [], alts := [], laidByText := true, laidKinds := [.data], laidTests := true, laidLooks := .later }
def CnfGrowsCardSaid : Prop := Claim7.holds Tryd.pinned (.plain (OpenSpec.ofChange cnfGrowsSpec)) cnfGrowsCard

/-- THE TIED CARD OF 'weirgatelaw06.BitsWide'. -/
def bitsWideCard : Claim7 := { stood := { row := bitsWideRow, standIns := [], harness := (true, "e5edd0517d27f44595c01d091b328d5840164275899552def416eeefcc1e5cdc"), looks := false }, kinds := [], alts := [], laidByText := true, laidKinds := [.data], laidTests := true, laidLooks := .later }
def BitsWideCardSaid : Prop := Claim7.holds Tryd.pinned (.plain (OpenSpec.ofChange bitsWideSpec)) bitsWideCard

/-- THE TIED CARD OF 'weirgatelaw06.BitsMux'. -/
def bitsMuxCard : Claim7 := { stood := { row := bitsMuxRow, standIns := [], harness := (true, "e5edd0517d27f44595c01d091b328d5840164275899552def416eeefcc1e5cdc"), looks := false }, kinds := [], alts := [], laidByText := true, laidKinds := [.data], laidTests := true, laidLooks := .later }
def BitsMuxCardSaid : Prop := Claim7.holds Tryd.pinned (.plain (OpenSpec.ofChange bitsMuxSpec)) bitsMuxCard

/-- THE TIED CARD OF 'weirgatelaw06.BitsParts'. -/
def bitsPartsCard : Claim7 := { stood := { row := bitsPartsRow, standIns := [], harness := (true, "e5edd0517d27f44595c01d091b328d5840164275899552def416eeefcc1e5cdc"), looks := false }, kinds := [], alts := [], laidByText := true, laidKinds := [.data], laidTests := true, laidLooks := .later }
def BitsPartsCardSaid : Prop := Claim7.holds Tryd.pinned (.plain (OpenSpec.ofChange bitsPartsSpec)) bitsPartsCard

/-- THE TIED CARD OF 'weirgatelaw06.BitsOrder'. -/
def bitsOrderCard : Claim7 := { stood := { row := bitsOrderRow, standIns := [], harness := (true, "e5edd0517d27f44595c01d091b328d5840164275899552def416eeefcc1e5cdc"), looks := false }, kinds := [], alts := [], laidByText := true, laidKinds := [.data], laidTests := true, laidLooks := .later }
def BitsOrderCardSaid : Prop := Claim7.holds Tryd.pinned (.plain (OpenSpec.ofChange bitsOrderSpec)) bitsOrderCard

/-- THE TIED CARD OF 'weirgatelaw06.BitsTurns'. -/
def bitsTurnsCard : Claim7 := { stood := { row := bitsTurnsRow, standIns := [], harness := (true, "e5edd0517d27f44595c01d091b328d5840164275899552def416eeefcc1e5cdc"), looks := false }, kinds := [], alts := [], laidByText := true, laidKinds := [.data], laidTests := true, laidLooks := .later }
def BitsTurnsCardSaid : Prop := Claim7.holds Tryd.pinned (.plain (OpenSpec.ofChange bitsTurnsSpec)) bitsTurnsCard

/-- THE TIED CARD OF 'weirgatelaw06.BitsLaws'. -/
def bitsLawsCard : Claim7 := { stood := { row := bitsLawsRow, standIns := [], harness := (true, "e5edd0517d27f44595c01d091b328d5840164275899552def416eeefcc1e5cdc"), looks := false }, kinds := [], alts := [], laidByText := true, laidKinds := [.data], laidTests := true, laidLooks := .later }
def BitsLawsCardSaid : Prop := Claim7.holds Tryd.pinned (.plain (OpenSpec.ofChange bitsLawsSpec)) bitsLawsCard

/-- THE TIED CARD OF 'weirgatelaw06.BitsDo'. -/
def bitsDoCard : Claim7 := { stood := { row := bitsDoRow, standIns := [], harness := (true, "e5edd0517d27f44595c01d091b328d5840164275899552def416eeefcc1e5cdc"), looks := false }, kinds := [], alts := [], laidByText := true, laidKinds := [.data], laidTests := true, laidLooks := .later }
def BitsDoCardSaid : Prop := Claim7.holds Tryd.pinned (.plain (OpenSpec.ofChange bitsDoSpec)) bitsDoCard

/-- THE SECOND FORM's CARD OF 'weirgatelaw07.CnfOnce'. -/
def cnfOnceUptoCard : Claim7 := { stood := { row := cnfOnceUptoRow, standIns := [], harness := (true, "e5edd0517d27f44595c01d091b328d5840164275899552def416eeefcc1e5cdc"), looks := false }, kinds := [], alts := [], laidByText := true, laidKinds := [.data], laidTests := true, laidLooks := .later }
def CnfOnceUptoCardSaid : Prop := Claim7.holds Tryd.pinned (.plain (OpenSpec.upto cnfOnceSpec)) cnfOnceUptoCard

/-- THE SECOND FORM's CARD OF 'weirgatelaw07.CnfGrows'. -/
def cnfGrowsUptoCard : Claim7 := { stood := { row := cnfGrowsUptoRow, standIns := [], harness := (true, "e5edd0517d27f44595c01d091b328d5840164275899552def416eeefcc1e5cdc"), looks := false }, kinds := [], alts := [], laidByText := true, laidKinds := [.data], laidTests := true, laidLooks := .later }
def CnfGrowsUptoCardSaid : Prop := Claim7.holds Tryd.pinned (.plain (OpenSpec.upto cnfGrowsSpec)) cnfGrowsUptoCard

/-- THE SECOND FORM's CARD OF 'weirgatelaw06.BitsWide'. -/
def bitsWideUptoCard : Claim7 := { stood := { row := bitsWideUptoRow, standIns := [], harness := (true, "e5edd0517d27f44595c01d091b328d5840164275899552def416eeefcc1e5cdc"), looks := false }, kinds := [], alts := [], laidByText := true, laidKinds := [.data], laidTests := true, laidLooks := .later }
def BitsWideUptoCardSaid : Prop := Claim7.holds Tryd.pinned (.plain (OpenSpec.upto bitsWideSpec)) bitsWideUptoCard

/-- THE SECOND FORM's CARD OF 'weirgatelaw06.BitsMux'. -/
def bitsMuxUptoCard : Claim7 := { stood := { row := bitsMuxUptoRow, standIns := [], harness := (true, "e5edd0517d27f44595c01d091b328d5840164275899552def416eeefcc1e5cdc"), looks := false }, kinds := [], alts := [], laidByText := true, laidKinds := [.data], laidTests := true, laidLooks := .later }
def BitsMuxUptoCardSaid : Prop := Claim7.holds Tryd.pinned (.plain (OpenSpec.upto bitsMuxSpec)) bitsMuxUptoCard

/-- THE SECOND FORM's CARD OF 'weirgatelaw06.BitsParts'. -/
def bitsPartsUptoCard : Claim7 := { stood := { row := bitsPartsUptoRow, standIns := [], harness := (true, "e5edd0517d27f44595c01d091b328d5840164275899552def416eeefcc1e5cdc"), looks := false }, kinds := [], alts := [], laidByText := true, laidKinds := [.data], laidTests := true, laidLooks := .later }
def BitsPartsUptoCardSaid : Prop := Claim7.holds Tryd.pinned (.plain (OpenSpec.upto bitsPartsSpec)) bitsPartsUptoCard

/-- THE SECOND FORM's CARD OF 'weirgatelaw06.BitsOrder'. -/
def bitsOrderUptoCard : Claim7 := { stood := { row := bitsOrderUptoRow, standIns := [], harness := (true, "e5edd0517d27f44595c01d091b328d5840164275899552def416eeefcc1e5cdc"), looks := false }, kinds := [], alts := [], laidByText := true, laidKinds := [.data], laidTests := true, laidLooks := .later }
def BitsOrderUptoCardSaid : Prop := Claim7.holds Tryd.pinned (.plain (OpenSpec.upto bitsOrderSpec)) bitsOrderUptoCard

/-- THE SECOND FORM's CARD OF 'weirgatelaw06.BitsTurns'. -/
def bitsTurnsUptoCard : Claim7 := { stood := { row := bitsTurnsUptoRow, standIns := [], harness := (true, "e5edd0517d27f44595c01d091b328d5840164275899552def416eeefcc1e5cdc"), looks := false }, kinds := [], alts := [], laidByText := true, laidKinds := [.data], laidTests := true, laidLooks := .later }
def BitsTurnsUptoCardSaid : Prop := Claim7.holds Tryd.pinned (.plain (OpenSpec.upto bitsTurnsSpec)) bitsTurnsUptoCard

/-- THE SECOND FORM's CARD OF 'weirgatelaw06.BitsLaws'. -/
def bitsLawsUptoCard : Claim7 := { stood := { row := bitsLawsUptoRow, standIns := [], harness := (true, "e5edd0517d27f44595c01d091b328d5840164275899552def416eeefcc1e5cdc"), looks := false }, kinds := [], alts := [], laidByText := true, laidKinds := [.data], laidTests := true, laidLooks := .later }
def BitsLawsUptoCardSaid : Prop := Claim7.holds Tryd.pinned (.plain (OpenSpec.upto bitsLawsSpec)) bitsLawsUptoCard

/-- THE SECOND FORM's CARD OF 'weirgatelaw06.BitsDo'. -/
def bitsDoUptoCard : Claim7 := { stood := { row := bitsDoUptoRow, standIns := [], harness := (true, "e5edd0517d27f44595c01d091b328d5840164275899552def416eeefcc1e5cdc"), looks := false }, kinds := [], alts := [], laidByText := true, laidKinds := [.data], laidTests := true, laidLooks := .later }
def BitsDoUptoCardSaid : Prop := Claim7.holds Tryd.pinned (.plain (OpenSpec.upto bitsDoSpec)) bitsDoUptoCard
end Rows
end Go.Proofs.YtjlabjncojhjkaaDoor
