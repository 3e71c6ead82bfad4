/-
  NARROWER THAN 'FOR EVERY INPUT', by the rows' own cells (each row's printed sentence says how): ConnPings: laid · ConnWrong: laid · ConnResets: laid · ConnFlows: laid · ConnPieces: laid · ConnTrace: laid · ConnTalks: laid · ConnBounds: laid.
  DERIVED. THE GIVEN ROWS OF THIS SEAT. 8 by the template 'for every input the law returns true; each argument reads behind the call as it read before'; 0 by the template 'total and deterministic' (their statements: YtlbaiighiaanoaaGreatDoorTotals.lean).
  GIVEN WITH THE SEED: the statements are not yours to turn. If you find one false, say at which input.
  Laid BY PROGRAM, IN A SANDBOX (cutbox-rows.mjs): the forced cells as the released guide's own fill.sh prints them over the translation f2922922ac89773d… (all of the seat's roots in one cut). By AI agents, Wed Nov 11 2026. No macro, syntax, notation, axiom, sorry.
-/
import Derived.Test.YtlbaiighiaanoaaGreatDoorChecked
import GoSem.PinnedTables
import GoSem.Claim
import GoSem.ClaimJoined
import GoSem.ClaimMapViews
import Derived.JoinedTies
import Derived.KernelRfl
namespace Go.Proofs.YtlbaiighiaanoaaGreatDoor
/- THE CELL 'sum', in the pinned program and in every row, IS THE sha256 OF THE DUMP (.gsa) THAT YtlbaiighiaanoaaGreatDoorProg.lean LOADS. Nothing in Lean hashes anything: it is a label: what it is worth is what the hold of that sum in a sandbox is worth. -/
noncomputable def Tryz.pinned : Pinned := { name := "ytlbaiighiaanoaagreatdoor", sum := "f2922922ac89773d1c072625bb35046ca987fb3db7ff274950b6cc3b457114d1", checked := Tryz.checked }
namespace Rows
def none {H : Type} : Left H := { results := [], args := [] }

/- WHAT THE LISTED PACKAGE-LEVEL VARIABLES READ AS WHEN THE CALL BEGINS. Each datum BY PROGRAM (the guide's laid-datum.mjs) off the statement by which the dump's own 'gosem.cut.vars' lays the variable. In a bare row this is a premise. The card (YtlbaiighiaanoaaGreatDoorCards.lean) ties it to the program's text. -/
def laid_unicode_utf8_acceptRanges {H : Type} : DataW H := .agg [.agg [.lit (.int .u8 128), .lit (.int .u8 191)], .agg [.lit (.int .u8 160), .lit (.int .u8 191)], .agg [.lit (.int .u8 128), .lit (.int .u8 159)], .agg [.lit (.int .u8 144), .lit (.int .u8 191)], .agg [.lit (.int .u8 128), .lit (.int .u8 143)], .agg [.lit (.int .u8 0), .lit (.int .u8 0)], .agg [.lit (.int .u8 0), .lit (.int .u8 0)], .agg [.lit (.int .u8 0), .lit (.int .u8 0)], .agg [.lit (.int .u8 0), .lit (.int .u8 0)], .agg [.lit (.int .u8 0), .lit (.int .u8 0)], .agg [.lit (.int .u8 0), .lit (.int .u8 0)], .agg [.lit (.int .u8 0), .lit (.int .u8 0)], .agg [.lit (.int .u8 0), .lit (.int .u8 0)], .agg [.lit (.int .u8 0), .lit (.int .u8 0)], .agg [.lit (.int .u8 0), .lit (.int .u8 0)], .agg [.lit (.int .u8 0), .lit (.int .u8 0)]]
/-- One of Go's own tables, pinned by name: the form's constant. -/
def laid_unicode_utf8_first : DataW Unit := Go.Pinned.utf8First

/-- 'nunciolaw19.ConnPings': WHATEVER THE INPUT: true; the input reads as it did. -/
def connPingsSpec : ChangeSpec := { name := "connPings", fn := fun _ => fun
  | [d1, d2, d3] => { results := [.lit (.bool true)], args := [d1, d2, d3] }
  | _ => none }
def connPingsRow : OpenClaim := { program := "ytlbaiighiaanoaagreatdoor", sum := "f2922922ac89773d1c072625bb35046ca987fb3db7ff274950b6cc3b457114d1", func := "nuncio/nunciolaw19.ConnPings", spec := "connPings", inPlace := ["internal/bytealg.CountString", "internal/bytealg.IndexByteString", "internal/bytealg.IndexString"], unfollowed := true, recurses := true, named := ["unicode/utf8.first", "unicode/utf8.acceptRanges", "internal/bytealg.MaxLen"], apart := false, laid := [("unicode/utf8.acceptRanges", laid_unicode_utf8_acceptRanges), ("unicode/utf8.first", laid_unicode_utf8_first)] }
def ConnPingsSaid : Prop := connPingsRow.holds Tryz.pinned (OpenSpec.ofChange connPingsSpec)

/-- ITS FALSE NEIGHBOUR: 'it returns false'. Refute it at one input. -/
def connPingsWrong : ChangeSpec := { name := "connPings", fn := fun _ => fun
  | [d1, d2, d3] => { results := [.lit (.bool false)], args := [d1, d2, d3] }
  | _ => none }
def ConnPingsWrongFalsely : Prop := connPingsRow.holds Tryz.pinned (OpenSpec.ofChange connPingsWrong)

/-- 'nunciolaw19.ConnWrong': WHATEVER THE INPUT: true; the input reads as it did. -/
def connWrongSpec : ChangeSpec := { name := "connWrong", fn := fun _ => fun
  | [d1, d2, d3] => { results := [.lit (.bool true)], args := [d1, d2, d3] }
  | _ => none }
def connWrongRow : OpenClaim := { program := "ytlbaiighiaanoaagreatdoor", sum := "f2922922ac89773d1c072625bb35046ca987fb3db7ff274950b6cc3b457114d1", func := "nuncio/nunciolaw19.ConnWrong", spec := "connWrong", inPlace := ["internal/bytealg.CountString", "internal/bytealg.IndexByteString", "internal/bytealg.IndexString"], unfollowed := true, recurses := true, named := ["unicode/utf8.first", "unicode/utf8.acceptRanges", "internal/bytealg.MaxLen"], apart := false, laid := [("unicode/utf8.acceptRanges", laid_unicode_utf8_acceptRanges), ("unicode/utf8.first", laid_unicode_utf8_first)] }
def ConnWrongSaid : Prop := connWrongRow.holds Tryz.pinned (OpenSpec.ofChange connWrongSpec)

/-- ITS FALSE NEIGHBOUR: 'it returns false'. Refute it at one input. -/
def connWrongWrong : ChangeSpec := { name := "connWrong", fn := fun _ => fun
  | [d1, d2, d3] => { results := [.lit (.bool false)], args := [d1, d2, d3] }
  | _ => none }
def ConnWrongWrongFalsely : Prop := connWrongRow.holds Tryz.pinned (OpenSpec.ofChange connWrongWrong)

/-- 'nunciolaw19.ConnResets': WHATEVER THE INPUT: true; the input reads as it did. -/
def connResetsSpec : ChangeSpec := { name := "connResets", fn := fun _ => fun
  | [d1, d2, d3] => { results := [.lit (.bool true)], args := [d1, d2, d3] }
  | _ => none }
def connResetsRow : OpenClaim := { program := "ytlbaiighiaanoaagreatdoor", sum := "f2922922ac89773d1c072625bb35046ca987fb3db7ff274950b6cc3b457114d1", func := "nuncio/nunciolaw19.ConnResets", spec := "connResets", inPlace := ["internal/bytealg.CountString", "internal/bytealg.IndexByteString", "internal/bytealg.IndexString"], unfollowed := true, recurses := true, named := ["unicode/utf8.first", "unicode/utf8.acceptRanges", "internal/bytealg.MaxLen"], apart := false, laid := [("unicode/utf8.acceptRanges", laid_unicode_utf8_acceptRanges), ("unicode/utf8.first", laid_unicode_utf8_first)] }
def ConnResetsSaid : Prop := connResetsRow.holds Tryz.pinned (OpenSpec.ofChange connResetsSpec)

/-- ITS FALSE NEIGHBOUR: 'it returns false'. Refute it at one input. -/
def connResetsWrong : ChangeSpec := { name := "connResets", fn := fun _ => fun
  | [d1, d2, d3] => { results := [.lit (.bool false)], args := [d1, d2, d3] }
  | _ => none }
def ConnResetsWrongFalsely : Prop := connResetsRow.holds Tryz.pinned (OpenSpec.ofChange connResetsWrong)

/-- 'nunciolaw19.ConnFlows': WHATEVER THE INPUT: true; the input reads as it did. -/
def connFlowsSpec : ChangeSpec := { name := "connFlows", fn := fun _ => fun
  | [d1, d2, d3] => { results := [.lit (.bool true)], args := [d1, d2, d3] }
  | _ => none }
def connFlowsRow : OpenClaim := { program := "ytlbaiighiaanoaagreatdoor", sum := "f2922922ac89773d1c072625bb35046ca987fb3db7ff274950b6cc3b457114d1", func := "nuncio/nunciolaw19.ConnFlows", spec := "connFlows", inPlace := ["internal/bytealg.CountString", "internal/bytealg.IndexByteString", "internal/bytealg.IndexString"], unfollowed := true, recurses := true, named := ["unicode/utf8.first", "unicode/utf8.acceptRanges", "internal/bytealg.MaxLen"], apart := false, laid := [("unicode/utf8.acceptRanges", laid_unicode_utf8_acceptRanges), ("unicode/utf8.first", laid_unicode_utf8_first)] }
def ConnFlowsSaid : Prop := connFlowsRow.holds Tryz.pinned (OpenSpec.ofChange connFlowsSpec)

/-- ITS FALSE NEIGHBOUR: 'it returns false'. Refute it at one input. -/
def connFlowsWrong : ChangeSpec := { name := "connFlows", fn := fun _ => fun
  | [d1, d2, d3] => { results := [.lit (.bool false)], args := [d1, d2, d3] }
  | _ => none }
def ConnFlowsWrongFalsely : Prop := connFlowsRow.holds Tryz.pinned (OpenSpec.ofChange connFlowsWrong)

/-- 'nunciolaw19.ConnPieces': WHATEVER THE INPUT: true; the input reads as it did. -/
def connPiecesSpec : ChangeSpec := { name := "connPieces", fn := fun _ => fun
  | [d1, d2, d3, d4] => { results := [.lit (.bool true)], args := [d1, d2, d3, d4] }
  | _ => none }
def connPiecesRow : OpenClaim := { program := "ytlbaiighiaanoaagreatdoor", sum := "f2922922ac89773d1c072625bb35046ca987fb3db7ff274950b6cc3b457114d1", func := "nuncio/nunciolaw19.ConnPieces", spec := "connPieces", inPlace := ["internal/bytealg.CountString", "internal/bytealg.IndexByteString", "internal/bytealg.IndexString"], unfollowed := true, recurses := true, named := ["unicode/utf8.first", "unicode/utf8.acceptRanges", "internal/bytealg.MaxLen"], apart := false, laid := [("unicode/utf8.acceptRanges", laid_unicode_utf8_acceptRanges), ("unicode/utf8.first", laid_unicode_utf8_first)] }
def ConnPiecesSaid : Prop := connPiecesRow.holds Tryz.pinned (OpenSpec.ofChange connPiecesSpec)

/-- ITS FALSE NEIGHBOUR: 'it returns false'. Refute it at one input. -/
def connPiecesWrong : ChangeSpec := { name := "connPieces", fn := fun _ => fun
  | [d1, d2, d3, d4] => { results := [.lit (.bool false)], args := [d1, d2, d3, d4] }
  | _ => none }
def ConnPiecesWrongFalsely : Prop := connPiecesRow.holds Tryz.pinned (OpenSpec.ofChange connPiecesWrong)

/-- 'nunciolaw19.ConnTrace': WHATEVER THE INPUT: true; the input reads as it did. -/
def connTraceSpec : ChangeSpec := { name := "connTrace", fn := fun _ => fun
  | [d1, d2] => { results := [.lit (.bool true)], args := [d1, d2] }
  | _ => none }
def connTraceRow : OpenClaim := { program := "ytlbaiighiaanoaagreatdoor", sum := "f2922922ac89773d1c072625bb35046ca987fb3db7ff274950b6cc3b457114d1", func := "nuncio/nunciolaw19.ConnTrace", spec := "connTrace", inPlace := ["internal/bytealg.CountString", "internal/bytealg.IndexByteString", "internal/bytealg.IndexString"], unfollowed := true, recurses := true, named := ["unicode/utf8.first", "unicode/utf8.acceptRanges", "internal/bytealg.MaxLen"], apart := false, laid := [("unicode/utf8.acceptRanges", laid_unicode_utf8_acceptRanges), ("unicode/utf8.first", laid_unicode_utf8_first)] }
def ConnTraceSaid : Prop := connTraceRow.holds Tryz.pinned (OpenSpec.ofChange connTraceSpec)

/-- ITS FALSE NEIGHBOUR: 'it returns false'. Refute it at one input. -/
def connTraceWrong : ChangeSpec := { name := "connTrace", fn := fun _ => fun
  | [d1, d2] => { results := [.lit (.bool false)], args := [d1, d2] }
  | _ => none }
def ConnTraceWrongFalsely : Prop := connTraceRow.holds Tryz.pinned (OpenSpec.ofChange connTraceWrong)

/-- 'nunciolaw19.ConnTalks': WHATEVER THE INPUT: true; the input reads as it did. -/
def connTalksSpec : ChangeSpec := { name := "connTalks", fn := fun _ => fun
  | [d1, d2, d3, d4] => { results := [.lit (.bool true)], args := [d1, d2, d3, d4] }
  | _ => none }
def connTalksRow : OpenClaim := { program := "ytlbaiighiaanoaagreatdoor", sum := "f2922922ac89773d1c072625bb35046ca987fb3db7ff274950b6cc3b457114d1", func := "nuncio/nunciolaw19.ConnTalks", spec := "connTalks", inPlace := ["internal/bytealg.CountString", "internal/bytealg.IndexByteString", "internal/bytealg.IndexString"], unfollowed := true, recurses := true, named := ["unicode/utf8.first", "unicode/utf8.acceptRanges", "internal/bytealg.MaxLen"], apart := false, laid := [("unicode/utf8.acceptRanges", laid_unicode_utf8_acceptRanges), ("unicode/utf8.first", laid_unicode_utf8_first)] }
def ConnTalksSaid : Prop := connTalksRow.holds Tryz.pinned (OpenSpec.ofChange connTalksSpec)

/-- ITS FALSE NEIGHBOUR: 'it returns false'. Refute it at one input. -/
def connTalksWrong : ChangeSpec := { name := "connTalks", fn := fun _ => fun
  | [d1, d2, d3, d4] => { results := [.lit (.bool false)], args := [d1, d2, d3, d4] }
  | _ => none }
def ConnTalksWrongFalsely : Prop := connTalksRow.holds Tryz.pinned (OpenSpec.ofChange connTalksWrong)

/-- 'nunciolaw19.ConnBounds': WHATEVER THE INPUT: true; the input reads as it did. -/
def connBoundsSpec : ChangeSpec := { name := "connBounds", fn := fun _ => fun
  | [d1, d2] => { results := [.lit (.bool true)], args := [d1, d2] }
  | _ => none }
def connBoundsRow : OpenClaim := { program := "ytlbaiighiaanoaagreatdoor", sum := "f2922922ac89773d1c072625bb35046ca987fb3db7ff274950b6cc3b457114d1", func := "nuncio/nunciolaw19.ConnBounds", spec := "connBounds", inPlace := ["internal/bytealg.CountString", "internal/bytealg.IndexByteString", "internal/bytealg.IndexString"], unfollowed := true, recurses := true, named := ["unicode/utf8.first", "unicode/utf8.acceptRanges", "internal/bytealg.MaxLen"], apart := false, laid := [("unicode/utf8.acceptRanges", laid_unicode_utf8_acceptRanges), ("unicode/utf8.first", laid_unicode_utf8_first)] }
def ConnBoundsSaid : Prop := connBoundsRow.holds Tryz.pinned (OpenSpec.ofChange connBoundsSpec)

/-- ITS FALSE NEIGHBOUR: 'it returns false'. Refute it at one input. -/
def connBoundsWrong : ChangeSpec := { name := "connBounds", fn := fun _ => fun
  | [d1, d2] => { results := [.lit (.bool false)], args := [d1, d2] }
  | _ => none }
def ConnBoundsWrongFalsely : Prop := connBoundsRow.holds Tryz.pinned (OpenSpec.ofChange connBoundsWrong)

/- THE SECOND FORM. 'bulk': how many values and letters a reading holds, each counted each time it is reached (what is shared counts as often as it is met; a slice's spare places count too). A statement '..UptoSaid' is the law's where the arguments, and the package variables that the reading takes, are together of bulk at most 1048576: NARROWER than '..Said'. Prove '..Said' where nothing that the law and all that it calls make is longer than what came in: it says more and counts as full. Else prove '..UptoSaid'. A law counts once. -/
mutual
def uptoBulk {H : Type} : DataW H → Nat
  | .lit (.string bytes) => bytes.length + 1
  | .lit _ => 1
  | .nil => 1
  | .ptr d => uptoBulk d + 1
  | .slice elems spare => uptoBulkAll elems + uptoBulkAll spare + 1
  | .agg parts => uptoBulkAll parts + 1
  | .iface _ d => uptoBulk d + 1
  | .map entries => uptoBulkEntries entries + 1
  | .held _ => 1
def uptoBulkAll {H : Type} : List (DataW H) → Nat
  | [] => 0
  | d :: r => uptoBulk d + uptoBulkAll r
def uptoBulkEntries {H : Type} : List (Lit × DataW H) → Nat
  | [] => 0
  | x :: r => uptoBulkEntry x + uptoBulkEntries r
def uptoBulkEntry {H : Type} : Lit × DataW H → Nat
  | (.string bytes, d) => bytes.length + uptoBulk d + 1
  | (_, d) => uptoBulk d + 1
 end
def uptoSmall : (H : Type) → List (DataW H) → Bool := fun _ ds => decide (uptoBulkAll ds ≤ 1048576)
def OpenSpec.upto (s : _root_.Go.ChangeSpec) : _root_.Go.OpenSpec := { _root_.Go.OpenSpec.ofChange s with cond := some uptoSmall }

/-- 'nunciolaw19.ConnPings', WHERE WHAT IT READS IS OF BULK AT MOST 1048576: true; the input reads as it did. -/
def connPingsUptoRow : OpenClaim := { program := "ytlbaiighiaanoaagreatdoor", sum := "f2922922ac89773d1c072625bb35046ca987fb3db7ff274950b6cc3b457114d1", func := "nuncio/nunciolaw19.ConnPings", spec := "connPings", inPlace := ["internal/bytealg.CountString", "internal/bytealg.IndexByteString", "internal/bytealg.IndexString"], unfollowed := true, recurses := true, named := ["unicode/utf8.first", "unicode/utf8.acceptRanges", "internal/bytealg.MaxLen"], apart := false, laid := [("unicode/utf8.acceptRanges", laid_unicode_utf8_acceptRanges), ("unicode/utf8.first", laid_unicode_utf8_first)], narrowed := true }
def ConnPingsUptoSaid : Prop := connPingsUptoRow.holds Tryz.pinned (OpenSpec.upto connPingsSpec)

/-- 'nunciolaw19.ConnWrong', WHERE WHAT IT READS IS OF BULK AT MOST 1048576: true; the input reads as it did. -/
def connWrongUptoRow : OpenClaim := { program := "ytlbaiighiaanoaagreatdoor", sum := "f2922922ac89773d1c072625bb35046ca987fb3db7ff274950b6cc3b457114d1", func := "nuncio/nunciolaw19.ConnWrong", spec := "connWrong", inPlace := ["internal/bytealg.CountString", "internal/bytealg.IndexByteString", "internal/bytealg.IndexString"], unfollowed := true, recurses := true, named := ["unicode/utf8.first", "unicode/utf8.acceptRanges", "internal/bytealg.MaxLen"], apart := false, laid := [("unicode/utf8.acceptRanges", laid_unicode_utf8_acceptRanges), ("unicode/utf8.first", laid_unicode_utf8_first)], narrowed := true }
def ConnWrongUptoSaid : Prop := connWrongUptoRow.holds Tryz.pinned (OpenSpec.upto connWrongSpec)

/-- 'nunciolaw19.ConnResets', WHERE WHAT IT READS IS OF BULK AT MOST 1048576: true; the input reads as it did. -/
def connResetsUptoRow : OpenClaim := { program := "ytlbaiighiaanoaagreatdoor", sum := "f2922922ac89773d1c072625bb35046ca987fb3db7ff274950b6cc3b457114d1", func := "nuncio/nunciolaw19.ConnResets", spec := "connResets", inPlace := ["internal/bytealg.CountString", "internal/bytealg.IndexByteString", "internal/bytealg.IndexString"], unfollowed := true, recurses := true, named := ["unicode/utf8.first", "unicode/utf8.acceptRanges", "internal/bytealg.MaxLen"], apart := false, laid := [("unicode/utf8.acceptRanges", laid_unicode_utf8_acceptRanges), ("unicode/utf8.first", laid_unicode_utf8_first)], narrowed := true }
def ConnResetsUptoSaid : Prop := connResetsUptoRow.holds Tryz.pinned (OpenSpec.upto connResetsSpec)

/-- 'nunciolaw19.ConnFlows', WHERE WHAT IT READS IS OF BULK AT MOST 1048576: true; the input reads as it did. -/
def connFlowsUptoRow : OpenClaim := { program := "ytlbaiighiaanoaagreatdoor", sum := "f2922922ac89773d1c072625bb35046ca987fb3db7ff274950b6cc3b457114d1", func := "nuncio/nunciolaw19.ConnFlows", spec := "connFlows", inPlace := ["internal/bytealg.CountString", "internal/bytealg.IndexByteString", "internal/bytealg.IndexString"], unfollowed := true, recurses := true, named := ["unicode/utf8.first", "unicode/utf8.acceptRanges", "internal/bytealg.MaxLen"], apart := false, laid := [("unicode/utf8.acceptRanges", laid_unicode_utf8_acceptRanges), ("unicode/utf8.first", laid_unicode_utf8_first)], narrowed := true }
def ConnFlowsUptoSaid : Prop := connFlowsUptoRow.holds Tryz.pinned (OpenSpec.upto connFlowsSpec)

/-- 'nunciolaw19.ConnPieces', WHERE WHAT IT READS IS OF BULK AT MOST 1048576: true; the input reads as it did. -/
def connPiecesUptoRow : OpenClaim := { program := "ytlbaiighiaanoaagreatdoor", sum := "f2922922ac89773d1c072625bb35046ca987fb3db7ff274950b6cc3b457114d1", func := "nuncio/nunciolaw19.ConnPieces", spec := "connPieces", inPlace := ["internal/bytealg.CountString", "internal/bytealg.IndexByteString", "internal/bytealg.IndexString"], unfollowed := true, recurses := true, named := ["unicode/utf8.first", "unicode/utf8.acceptRanges", "internal/bytealg.MaxLen"], apart := false, laid := [("unicode/utf8.acceptRanges", laid_unicode_utf8_acceptRanges), ("unicode/utf8.first", laid_unicode_utf8_first)], narrowed := true }
def ConnPiecesUptoSaid : Prop := connPiecesUptoRow.holds Tryz.pinned (OpenSpec.upto connPiecesSpec)

/-- 'nunciolaw19.ConnTrace', WHERE WHAT IT READS IS OF BULK AT MOST 1048576: true; the input reads as it did. -/
def connTraceUptoRow : OpenClaim := { program := "ytlbaiighiaanoaagreatdoor", sum := "f2922922ac89773d1c072625bb35046ca987fb3db7ff274950b6cc3b457114d1", func := "nuncio/nunciolaw19.ConnTrace", spec := "connTrace", inPlace := ["internal/bytealg.CountString", "internal/bytealg.IndexByteString", "internal/bytealg.IndexString"], unfollowed := true, recurses := true, named := ["unicode/utf8.first", "unicode/utf8.acceptRanges", "internal/bytealg.MaxLen"], apart := false, laid := [("unicode/utf8.acceptRanges", laid_unicode_utf8_acceptRanges), ("unicode/utf8.first", laid_unicode_utf8_first)], narrowed := true }
def ConnTraceUptoSaid : Prop := connTraceUptoRow.holds Tryz.pinned (OpenSpec.upto connTraceSpec)

/-- 'nunciolaw19.ConnTalks', WHERE WHAT IT READS IS OF BULK AT MOST 1048576: true; the input reads as it did. -/
def connTalksUptoRow : OpenClaim := { program := "ytlbaiighiaanoaagreatdoor", sum := "f2922922ac89773d1c072625bb35046ca987fb3db7ff274950b6cc3b457114d1", func := "nuncio/nunciolaw19.ConnTalks", spec := "connTalks", inPlace := ["internal/bytealg.CountString", "internal/bytealg.IndexByteString", "internal/bytealg.IndexString"], unfollowed := true, recurses := true, named := ["unicode/utf8.first", "unicode/utf8.acceptRanges", "internal/bytealg.MaxLen"], apart := false, laid := [("unicode/utf8.acceptRanges", laid_unicode_utf8_acceptRanges), ("unicode/utf8.first", laid_unicode_utf8_first)], narrowed := true }
def ConnTalksUptoSaid : Prop := connTalksUptoRow.holds Tryz.pinned (OpenSpec.upto connTalksSpec)

/-- 'nunciolaw19.ConnBounds', WHERE WHAT IT READS IS OF BULK AT MOST 1048576: true; the input reads as it did. -/
def connBoundsUptoRow : OpenClaim := { program := "ytlbaiighiaanoaagreatdoor", sum := "f2922922ac89773d1c072625bb35046ca987fb3db7ff274950b6cc3b457114d1", func := "nuncio/nunciolaw19.ConnBounds", spec := "connBounds", inPlace := ["internal/bytealg.CountString", "internal/bytealg.IndexByteString", "internal/bytealg.IndexString"], unfollowed := true, recurses := true, named := ["unicode/utf8.first", "unicode/utf8.acceptRanges", "internal/bytealg.MaxLen"], apart := false, laid := [("unicode/utf8.acceptRanges", laid_unicode_utf8_acceptRanges), ("unicode/utf8.first", laid_unicode_utf8_first)], narrowed := true }
def ConnBoundsUptoSaid : Prop := connBoundsUptoRow.holds Tryz.pinned (OpenSpec.upto connBoundsSpec)

end Rows
end Go.Proofs.YtlbaiighiaanoaaGreatDoor
