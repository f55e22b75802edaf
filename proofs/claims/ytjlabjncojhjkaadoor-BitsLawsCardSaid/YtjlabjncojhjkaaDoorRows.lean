/-
  NARROWER THAN 'FOR EVERY INPUT', by the rows' own cells (each row's printed sentence says how): CnfOnce: laid · CnfGrows: laid · BitsWide: laid · BitsMux: laid · BitsParts: laid · BitsOrder: laid · BitsTurns: laid · BitsLaws: laid · BitsDo: laid.
  DERIVED. THE GIVEN ROWS OF THIS SEAT. 9 by the template 'for every input the law returns true; each argument reads behind the call as it read before'; 0 by the template 'total and deterministic' (their statements: YtjlabjncojhjkaaDoorTotals.lean).
  GIVEN WITH THE SEED: the statements are not yours to turn. If you find one false, say at which input.
  Laid BY PROGRAM, IN A SANDBOX (cutbox-rows.mjs): the forced cells as the released guide's own fill.sh prints them over the translation 748b1a05565cdb7c… (all of the seat's roots in one cut). By AI agents, Wed Nov 11 2026. No macro, syntax, notation, axiom, sorry.
-/
import Derived.Test.YtjlabjncojhjkaaDoorChecked
import GoSem.Claim
import GoSem.ClaimJoined
import GoSem.ClaimMapViews
import Derived.JoinedTies
import Derived.KernelRfl
namespace Go.Proofs.YtjlabjncojhjkaaDoor
/- THE CELL 'sum', in the pinned program and in every row, IS THE sha256 OF THE DUMP (.gsa) THAT YtjlabjncojhjkaaDoorProg.lean LOADS. Nothing in Lean hashes anything: it is a label: what it is worth is what the hold of that sum in a sandbox is worth. -/
noncomputable def Tryd.pinned : Pinned := { name := "ytjlabjncojhjkaadoor", sum := "748b1a05565cdb7c4e21e23ee14770cbef4a2d4c665925e8bc5e16d704581a30", checked := Tryd.checked }
namespace Rows
def none {H : Type} : Left H := { results := [], args := [] }

/- WHAT THE LISTED PACKAGE-LEVEL VARIABLES READ AS WHEN THE CALL BEGINS. Each datum BY PROGRAM (the guide's laid-datum.mjs) off the statement by which the dump's own 'gosem.cut.vars' lays the variable. In a bare row this is a premise. The card (YtjlabjncojhjkaaDoorCards.lean) ties it to the program's text. -/
def laid_weirgate_graph_input {H : Type} : DataW H := .agg [.lit (.int .i64 (-1)), .lit (.int .i64 (-1))]

/-- 'weirgatelaw07.CnfOnce': WHATEVER THE INPUT: true; the input reads as it did. -/
def cnfOnceSpec : ChangeSpec := { name := "cnfOnce", fn := fun _ => fun
  | [d1, d2] => { results := [.lit (.bool true)], args := [d1, d2] }
  | _ => none }
def cnfOnceRow : OpenClaim := { program := "ytjlabjncojhjkaadoor", sum := "748b1a05565cdb7c4e21e23ee14770cbef4a2d4c665925e8bc5e16d704581a30", func := "weirgate/weirgatelaw07.CnfOnce", spec := "cnfOnce", named := ["weirgate/graph.input"], plainKeys := false, apart := false, laid := [("weirgate/graph.input", laid_weirgate_graph_input)] }
def CnfOnceSaid : Prop := cnfOnceRow.holds Tryd.pinned (OpenSpec.ofChange cnfOnceSpec)

/-- ITS FALSE NEIGHBOUR: 'it returns false'. Refute it at one input. -/
def cnfOnceWrong : ChangeSpec := { name := "cnfOnce", fn := fun _ => fun
  | [d1, d2] => { results := [.lit (.bool false)], args := [d1, d2] }
  | _ => none }
def CnfOnceWrongFalsely : Prop := cnfOnceRow.holds Tryd.pinned (OpenSpec.ofChange cnfOnceWrong)

/-- 'weirgatelaw07.CnfGrows': WHATEVER THE INPUT: true; the input reads as it did. -/
def cnfGrowsSpec : ChangeSpec := { name := "cnfGrows", fn := fun _ => fun
  | [d1, d2] => { results := [.lit (.bool true)], args := [d1, d2] }
  | _ => none }
def cnfGrowsRow : OpenClaim := { program := "ytjlabjncojhjkaadoor", sum := "748b1a05565cdb7c4e21e23ee14770cbef4a2d4c665925e8bc5e16d704581a30", func := "weirgate/weirgatelaw07.CnfGrows", spec := "cnfGrows", named := ["weirgate/graph.input"], plainKeys := false, apart := false, laid := [("weirgate/graph.input", laid_weirgate_graph_input)] }
def CnfGrowsSaid : Prop := cnfGrowsRow.holds Tryd.pinned (OpenSpec.ofChange cnfGrowsSpec)

/-- ITS FALSE NEIGHBOUR: 'it returns false'. Refute it at one input. -/
def cnfGrowsWrong : ChangeSpec := { name := "cnfGrows", fn := fun _ => fun
  | [d1, d2] => { results := [.lit (.bool false)], args := [d1, d2] }
  | _ => none }
def CnfGrowsWrongFalsely : Prop := cnfGrowsRow.holds Tryd.pinned (OpenSpec.ofChange cnfGrowsWrong)

/-- 'weirgatelaw06.BitsWide': WHATEVER THE INPUT: true; the input reads as it did. -/
def bitsWideSpec : ChangeSpec := { name := "bitsWide", fn := fun _ => fun
  | [d1, d2] => { results := [.lit (.bool true)], args := [d1, d2] }
  | _ => none }
def bitsWideRow : OpenClaim := { program := "ytjlabjncojhjkaadoor", sum := "748b1a05565cdb7c4e21e23ee14770cbef4a2d4c665925e8bc5e16d704581a30", func := "weirgate/weirgatelaw06.BitsWide", spec := "bitsWide", unfollowed := true, recurses := true, named := ["weirgate/graph.input"], plainKeys := false, apart := false, laid := [("weirgate/graph.input", laid_weirgate_graph_input)] }
def BitsWideSaid : Prop := bitsWideRow.holds Tryd.pinned (OpenSpec.ofChange bitsWideSpec)

/-- ITS FALSE NEIGHBOUR: 'it returns false'. Refute it at one input. -/
def bitsWideWrong : ChangeSpec := { name := "bitsWide", fn := fun _ => fun
  | [d1, d2] => { results := [.lit (.bool false)], args := [d1, d2] }
  | _ => none }
def BitsWideWrongFalsely : Prop := bitsWideRow.holds Tryd.pinned (OpenSpec.ofChange bitsWideWrong)

/-- 'weirgatelaw06.BitsMux': WHATEVER THE INPUT: true; the input reads as it did. -/
def bitsMuxSpec : ChangeSpec := { name := "bitsMux", fn := fun _ => fun
  | [d1, d2, d3] => { results := [.lit (.bool true)], args := [d1, d2, d3] }
  | _ => none }
def bitsMuxRow : OpenClaim := { program := "ytjlabjncojhjkaadoor", sum := "748b1a05565cdb7c4e21e23ee14770cbef4a2d4c665925e8bc5e16d704581a30", func := "weirgate/weirgatelaw06.BitsMux", spec := "bitsMux", unfollowed := true, recurses := true, named := ["weirgate/graph.input"], plainKeys := false, apart := false, laid := [("weirgate/graph.input", laid_weirgate_graph_input)] }
def BitsMuxSaid : Prop := bitsMuxRow.holds Tryd.pinned (OpenSpec.ofChange bitsMuxSpec)

/-- ITS FALSE NEIGHBOUR: 'it returns false'. Refute it at one input. -/
def bitsMuxWrong : ChangeSpec := { name := "bitsMux", fn := fun _ => fun
  | [d1, d2, d3] => { results := [.lit (.bool false)], args := [d1, d2, d3] }
  | _ => none }
def BitsMuxWrongFalsely : Prop := bitsMuxRow.holds Tryd.pinned (OpenSpec.ofChange bitsMuxWrong)

/-- 'weirgatelaw06.BitsParts': WHATEVER THE INPUT: true; the input reads as it did. -/
def bitsPartsSpec : ChangeSpec := { name := "bitsParts", fn := fun _ => fun
  | [d1, d2, d3] => { results := [.lit (.bool true)], args := [d1, d2, d3] }
  | _ => none }
def bitsPartsRow : OpenClaim := { program := "ytjlabjncojhjkaadoor", sum := "748b1a05565cdb7c4e21e23ee14770cbef4a2d4c665925e8bc5e16d704581a30", func := "weirgate/weirgatelaw06.BitsParts", spec := "bitsParts", unfollowed := true, recurses := true, named := ["weirgate/graph.input"], plainKeys := false, apart := false, laid := [("weirgate/graph.input", laid_weirgate_graph_input)] }
def BitsPartsSaid : Prop := bitsPartsRow.holds Tryd.pinned (OpenSpec.ofChange bitsPartsSpec)

/-- ITS FALSE NEIGHBOUR: 'it returns false'. Refute it at one input. -/
def bitsPartsWrong : ChangeSpec := { name := "bitsParts", fn := fun _ => fun
  | [d1, d2, d3] => { results := [.lit (.bool false)], args := [d1, d2, d3] }
  | _ => none }
def BitsPartsWrongFalsely : Prop := bitsPartsRow.holds Tryd.pinned (OpenSpec.ofChange bitsPartsWrong)

/-- 'weirgatelaw06.BitsOrder': WHATEVER THE INPUT: true; the input reads as it did. -/
def bitsOrderSpec : ChangeSpec := { name := "bitsOrder", fn := fun _ => fun
  | [d1, d2, d3] => { results := [.lit (.bool true)], args := [d1, d2, d3] }
  | _ => none }
def bitsOrderRow : OpenClaim := { program := "ytjlabjncojhjkaadoor", sum := "748b1a05565cdb7c4e21e23ee14770cbef4a2d4c665925e8bc5e16d704581a30", func := "weirgate/weirgatelaw06.BitsOrder", spec := "bitsOrder", unfollowed := true, recurses := true, named := ["weirgate/graph.input"], plainKeys := false, apart := false, laid := [("weirgate/graph.input", laid_weirgate_graph_input)] }
def BitsOrderSaid : Prop := bitsOrderRow.holds Tryd.pinned (OpenSpec.ofChange bitsOrderSpec)

/-- ITS FALSE NEIGHBOUR: 'it returns false'. Refute it at one input. -/
def bitsOrderWrong : ChangeSpec := { name := "bitsOrder", fn := fun _ => fun
  | [d1, d2, d3] => { results := [.lit (.bool false)], args := [d1, d2, d3] }
  | _ => none }
def BitsOrderWrongFalsely : Prop := bitsOrderRow.holds Tryd.pinned (OpenSpec.ofChange bitsOrderWrong)

/-- 'weirgatelaw06.BitsTurns': WHATEVER THE INPUT: true; the input reads as it did. -/
def bitsTurnsSpec : ChangeSpec := { name := "bitsTurns", fn := fun _ => fun
  | [d1, d2, d3] => { results := [.lit (.bool true)], args := [d1, d2, d3] }
  | _ => none }
def bitsTurnsRow : OpenClaim := { program := "ytjlabjncojhjkaadoor", sum := "748b1a05565cdb7c4e21e23ee14770cbef4a2d4c665925e8bc5e16d704581a30", func := "weirgate/weirgatelaw06.BitsTurns", spec := "bitsTurns", unfollowed := true, recurses := true, named := ["weirgate/graph.input"], plainKeys := false, apart := false, laid := [("weirgate/graph.input", laid_weirgate_graph_input)] }
def BitsTurnsSaid : Prop := bitsTurnsRow.holds Tryd.pinned (OpenSpec.ofChange bitsTurnsSpec)

/-- ITS FALSE NEIGHBOUR: 'it returns false'. Refute it at one input. -/
def bitsTurnsWrong : ChangeSpec := { name := "bitsTurns", fn := fun _ => fun
  | [d1, d2, d3] => { results := [.lit (.bool false)], args := [d1, d2, d3] }
  | _ => none }
def BitsTurnsWrongFalsely : Prop := bitsTurnsRow.holds Tryd.pinned (OpenSpec.ofChange bitsTurnsWrong)

/-- 'weirgatelaw06.BitsLaws': WHATEVER THE INPUT: true; the input reads as it did. -/
def bitsLawsSpec : ChangeSpec := { name := "bitsLaws", fn := fun _ => fun
  | [d1, d2, d3] => { results := [.lit (.bool true)], args := [d1, d2, d3] }
  | _ => none }
def bitsLawsRow : OpenClaim := { program := "ytjlabjncojhjkaadoor", sum := "748b1a05565cdb7c4e21e23ee14770cbef4a2d4c665925e8bc5e16d704581a30", func := "weirgate/weirgatelaw06.BitsLaws", spec := "bitsLaws", unfollowed := true, recurses := true, named := ["weirgate/graph.input"], plainKeys := false, apart := false, laid := [("weirgate/graph.input", laid_weirgate_graph_input)] }
def BitsLawsSaid : Prop := bitsLawsRow.holds Tryd.pinned (OpenSpec.ofChange bitsLawsSpec)

/-- ITS FALSE NEIGHBOUR: 'it returns false'. Refute it at one input. -/
def bitsLawsWrong : ChangeSpec := { name := "bitsLaws", fn := fun _ => fun
  | [d1, d2, d3] => { results := [.lit (.bool false)], args := [d1, d2, d3] }
  | _ => none }
def BitsLawsWrongFalsely : Prop := bitsLawsRow.holds Tryd.pinned (OpenSpec.ofChange bitsLawsWrong)

/-- 'weirgatelaw06.BitsDo': WHATEVER THE INPUT: true; the input reads as it did. -/
def bitsDoSpec : ChangeSpec := { name := "bitsDo", fn := fun _ => fun
  | [d1, d2, d3] => { results := [.lit (.bool true)], args := [d1, d2, d3] }
  | _ => none }
def bitsDoRow : OpenClaim := { program := "ytjlabjncojhjkaadoor", sum := "748b1a05565cdb7c4e21e23ee14770cbef4a2d4c665925e8bc5e16d704581a30", func := "weirgate/weirgatelaw06.BitsDo", spec := "bitsDo", unfollowed := true, recurses := true, named := ["weirgate/graph.input"], plainKeys := false, apart := false, laid := [("weirgate/graph.input", laid_weirgate_graph_input)] }
def BitsDoSaid : Prop := bitsDoRow.holds Tryd.pinned (OpenSpec.ofChange bitsDoSpec)

/-- ITS FALSE NEIGHBOUR: 'it returns false'. Refute it at one input. -/
def bitsDoWrong : ChangeSpec := { name := "bitsDo", fn := fun _ => fun
  | [d1, d2, d3] => { results := [.lit (.bool false)], args := [d1, d2, d3] }
  | _ => none }
def BitsDoWrongFalsely : Prop := bitsDoRow.holds Tryd.pinned (OpenSpec.ofChange bitsDoWrong)

/- THE SECOND FORM. 'bulk': how many values and letters a reading holds, each counted each time it is reached (what is shared counts as often as it is met; a slice's spare places count too). A statement '..UptoSaid' is the law's where the arguments, and the package variables that the reading takes, are together of bulk at most 1048576: NARROWER than '..Said'. Prove '..Said' where nothing that the law and all that it calls make is longer than what came in: it says more and counts as full. Else prove '..UptoSaid'. A law counts once. -/
mutual
def uptoBulk {H : Type} : DataW H → Nat
  | .lit (.string bytes) => bytes.length + 1
  | .lit _ => 1
  | .nil => 1
  | .ptr d => uptoBulk d + 1
  | .slice elems spare => uptoBulkAll elems + uptoBulkAll spare + 1
  | .agg parts => uptoBulkAll parts + 1
  | .iface _ d => uptoBulk d + 1
  | .map entries => uptoBulkEntries entries + 1
  | .held _ => 1
def uptoBulkAll {H : Type} : List (DataW H) → Nat
  | [] => 0
  | d :: r => uptoBulk d + uptoBulkAll r
def uptoBulkEntries {H : Type} : List (Lit × DataW H) → Nat
  | [] => 0
  | x :: r => uptoBulkEntry x + uptoBulkEntries r
def uptoBulkEntry {H : Type} : Lit × DataW H → Nat
  | (.string bytes, d) => bytes.length + uptoBulk d + 1
  | (_, d) => uptoBulk d + 1
 end
def uptoSmall : (H : Type) → List (DataW H) → Bool := fun _ ds => decide (uptoBulkAll ds ≤ 1048576)
def OpenSpec.upto (s : _root_.Go.ChangeSpec) : _root_.Go.OpenSpec := { _root_.Go.OpenSpec.ofChange s with cond := some uptoSmall }

/-- 'weirgatelaw07.CnfOnce', WHERE WHAT IT READS IS OF BULK AT MOST 1048576: true; the input reads as it did. -/
def cnfOnceUptoRow : OpenClaim := { program := "ytjlabjncojhjkaadoor", sum := "748b1a05565cdb7c4e21e23ee14770cbef4a2d4c665925e8bc5e16d704581a30", func := "weirgate/weirgatelaw07.CnfOnce", spec := "cnfOnce", named := ["weirgate/graph.input"], plainKeys := false, apart := false, laid := [("weirgate/graph.input", laid_weirgate_graph_input)], narrowed := true }
def CnfOnceUptoSaid : Prop := cnfOnceUptoRow.holds Tryd.pinned (OpenSpec.upto cnfOnceSpec)

/-- 'weirgatelaw07.CnfGrows', WHERE WHAT IT READS IS OF BULK AT MOST 1048576: true; the input reads as it did. -/
def cnfGrowsUptoRow : OpenClaim := { program := "ytjlabjncojhjkaadoor", sum := "748b1a05565cdb7c4e21e23ee14770cbef4a2d4c665925e8bc5e16d704581a30", func := "weirgate/weirgatelaw07.CnfGrows", spec := "cnfGrows", named := ["weirgate/graph.input"], plainKeys := false, apart := false, laid := [("weirgate/graph.input", laid_weirgate_graph_input)], narrowed := true }
def CnfGrowsUptoSaid : Prop := cnfGrowsUptoRow.holds Tryd.pinned (OpenSpec.upto cnfGrowsSpec)

/-- 'weirgatelaw06.BitsWide', WHERE WHAT IT READS IS OF BULK AT MOST 1048576: true; the input reads as it did. -/
def bitsWideUptoRow : OpenClaim := { program := "ytjlabjncojhjkaadoor", sum := "748b1a05565cdb7c4e21e23ee14770cbef4a2d4c665925e8bc5e16d704581a30", func := "weirgate/weirgatelaw06.BitsWide", spec := "bitsWide", unfollowed := true, recurses := true, named := ["weirgate/graph.input"], plainKeys := false, apart := false, laid := [("weirgate/graph.input", laid_weirgate_graph_input)], narrowed := true }
def BitsWideUptoSaid : Prop := bitsWideUptoRow.holds Tryd.pinned (OpenSpec.upto bitsWideSpec)

/-- 'weirgatelaw06.BitsMux', WHERE WHAT IT READS IS OF BULK AT MOST 1048576: true; the input reads as it did. -/
def bitsMuxUptoRow : OpenClaim := { program := "ytjlabjncojhjkaadoor", sum := "748b1a05565cdb7c4e21e23ee14770cbef4a2d4c665925e8bc5e16d704581a30", func := "weirgate/weirgatelaw06.BitsMux", spec := "bitsMux", unfollowed := true, recurses := true, named := ["weirgate/graph.input"], plainKeys := false, apart := false, laid := [("weirgate/graph.input", laid_weirgate_graph_input)], narrowed := true }
def BitsMuxUptoSaid : Prop := bitsMuxUptoRow.holds Tryd.pinned (OpenSpec.upto bitsMuxSpec)

/-- 'weirgatelaw06.BitsParts', WHERE WHAT IT READS IS OF BULK AT MOST 1048576: true; the input reads as it did. -/
def bitsPartsUptoRow : OpenClaim := { program := "ytjlabjncojhjkaadoor", sum := "748b1a05565cdb7c4e21e23ee14770cbef4a2d4c665925e8bc5e16d704581a30", func := "weirgate/weirgatelaw06.BitsParts", spec := "bitsParts", unfollowed := true, recurses := true, named := ["weirgate/graph.input"], plainKeys := false, apart := false, laid := [("weirgate/graph.input", laid_weirgate_graph_input)], narrowed := true }
def BitsPartsUptoSaid : Prop := bitsPartsUptoRow.holds Tryd.pinned (OpenSpec.upto bitsPartsSpec)

/-- 'weirgatelaw06.BitsOrder', WHERE WHAT IT READS IS OF BULK AT MOST 1048576: true; the input reads as it did. -/
def bitsOrderUptoRow : OpenClaim := { program := "ytjlabjncojhjkaadoor", sum := "748b1a05565cdb7c4e21e23ee14770cbef4a2d4c665925e8bc5e16d704581a30", func := "weirgate/weirgatelaw06.BitsOrder", spec := "bitsOrder", unfollowed := true, recurses := true, named := ["weirgate/graph.input"], plainKeys := false, apart := false, laid := [("weirgate/graph.input", laid_weirgate_graph_input)], narrowed := true }
def BitsOrderUptoSaid : Prop := bitsOrderUptoRow.holds Tryd.pinned (OpenSpec.upto bitsOrderSpec)

/-- 'weirgatelaw06.BitsTurns', WHERE WHAT IT READS IS OF BULK AT MOST 1048576: true; the input reads as it did. -/
def bitsTurnsUptoRow : OpenClaim := { program := "ytjlabjncojhjkaadoor", sum := "748b1a05565cdb7c4e21e23ee14770cbef4a2d4c665925e8bc5e16d704581a30", func := "weirgate/weirgatelaw06.BitsTurns", spec := "bitsTurns", unfollowed := true, recurses := true, named := ["weirgate/graph.input"], plainKeys := false, apart := false, laid := [("weirgate/graph.input", laid_weirgate_graph_input)], narrowed := true }
def BitsTurnsUptoSaid : Prop := bitsTurnsUptoRow.holds Tryd.pinned (OpenSpec.upto bitsTurnsSpec)

/-- 'weirgatelaw06.BitsLaws', WHERE WHAT IT READS IS OF BULK AT MOST 1048576: true; the input reads as it did. -/
def bitsLawsUptoRow : OpenClaim := { program := "ytjlabjncojhjkaadoor", sum := "748b1a05565cdb7c4e21e23ee14770cbef4a2d4c665925e8bc5e16d704581a30", func := "weirgate/weirgatelaw06.BitsLaws", spec := "bitsLaws", unfollowed := true, recurses := true, named := ["weirgate/graph.input"], plainKeys := false, apart := false, laid := [("weirgate/graph.input", laid_weirgate_graph_input)], narrowed := true }
def BitsLawsUptoSaid : Prop := bitsLawsUptoRow.holds Tryd.pinned (OpenSpec.upto bitsLawsSpec)

/-- 'weirgatelaw06.BitsDo', WHERE WHAT IT READS IS OF BULK AT MOST 1048576: true; the input reads as it did. -/
def bitsDoUptoRow : OpenClaim := { program := "ytjlabjncojhjkaadoor", sum := "748b1a05565cdb7c4e21e23ee14770cbef4a2d4c665925e8bc5e16d704581a30", func := "weirgate/weirgatelaw06.BitsDo", spec := "bitsDo", unfollowed := true, recurses := true, named := ["weirgate/graph.input"], plainKeys := false, apart := false, laid := [("weirgate/graph.input", laid_weirgate_graph_input)], narrowed := true }
def BitsDoUptoSaid : Prop := bitsDoUptoRow.holds Tryd.pinned (OpenSpec.upto bitsDoSpec)

end Rows
end Go.Proofs.YtjlabjncojhjkaaDoor
