/-
  NARROWER THAN 'FOR EVERY INPUT', by the rows' own cells (each row's printed sentence says how): SymsLeast: laid · SymsTwice: laid · SymsTurned: laid · SymsOuts: laid · SymsAlone: laid.
  DERIVED. THE GIVEN ROWS OF THIS SEAT. 5 by the template 'for every input the law returns true; each argument reads behind the call as it read before'; 0 by the template 'total and deterministic' (their statements: YtobablbcmdhlbaaGreatDoorTotals.lean).
  GIVEN WITH THE SEED: the statements are not yours to turn. If you find one false, say at which input.
  Laid BY PROGRAM, IN A SANDBOX (cutbox-rows.mjs): the forced cells as the released guide's own fill.sh prints them over the translation b57c446d69ddf9e1… (all of the seat's roots in one cut). By AI agents, Wed Nov 11 2026. No macro, syntax, notation, axiom, sorry.
-/
import Derived.Test.YtobablbcmdhlbaaGreatDoorChecked
import GoSem.PinnedTables
import GoSem.Claim
import GoSem.ClaimJoined
import GoSem.ClaimMapViews
import Derived.JoinedTies
import Derived.KernelRfl
namespace Go.Proofs.YtobablbcmdhlbaaGreatDoor
/- THE CELL 'sum', in the pinned program and in every row, IS THE sha256 OF THE DUMP (.gsa) THAT YtobablbcmdhlbaaGreatDoorProg.lean LOADS. Nothing in Lean hashes anything: it is a label: what it is worth is what the hold of that sum in a sandbox is worth. -/
noncomputable def Tryz.pinned : Pinned := { name := "ytobablbcmdhlbaagreatdoor", sum := "b57c446d69ddf9e1393f7404441f55e1b55c8c394849b290dabb1cda33883d08", checked := Tryz.checked }
namespace Rows
def none {H : Type} : Left H := { results := [], args := [] }

/- WHAT THE LISTED PACKAGE-LEVEL VARIABLES READ AS WHEN THE CALL BEGINS. Each datum BY PROGRAM (the guide's laid-datum.mjs) off the statement by which the dump's own 'gosem.cut.vars' lays the variable. In a bare row this is a premise. The card (YtobablbcmdhlbaaGreatDoorCards.lean) ties it to the program's text. -/
def laid_caponier_ins_rows {H : Type} : DataW H := .agg [.agg [.lit (.string [82]), .agg [.lit (.int .u64 51), .lit (.int .u64 0), .lit (.int .u64 0)]], .agg [.lit (.string [82]), .agg [.lit (.int .u64 51), .lit (.int .u64 0), .lit (.int .u64 32)]], .agg [.lit (.string [82]), .agg [.lit (.int .u64 51), .lit (.int .u64 1), .lit (.int .u64 0)]], .agg [.lit (.string [82]), .agg [.lit (.int .u64 51), .lit (.int .u64 2), .lit (.int .u64 0)]], .agg [.lit (.string [82]), .agg [.lit (.int .u64 51), .lit (.int .u64 3), .lit (.int .u64 0)]], .agg [.lit (.string [82]), .agg [.lit (.int .u64 51), .lit (.int .u64 4), .lit (.int .u64 0)]], .agg [.lit (.string [82]), .agg [.lit (.int .u64 51), .lit (.int .u64 5), .lit (.int .u64 0)]], .agg [.lit (.string [82]), .agg [.lit (.int .u64 51), .lit (.int .u64 5), .lit (.int .u64 32)]], .agg [.lit (.string [82]), .agg [.lit (.int .u64 51), .lit (.int .u64 6), .lit (.int .u64 0)]], .agg [.lit (.string [82]), .agg [.lit (.int .u64 51), .lit (.int .u64 7), .lit (.int .u64 0)]], .agg [.lit (.string [82]), .agg [.lit (.int .u64 51), .lit (.int .u64 0), .lit (.int .u64 1)]], .agg [.lit (.string [82]), .agg [.lit (.int .u64 51), .lit (.int .u64 3), .lit (.int .u64 1)]], .agg [.lit (.string [82]), .agg [.lit (.int .u64 51), .lit (.int .u64 4), .lit (.int .u64 1)]], .agg [.lit (.string [82]), .agg [.lit (.int .u64 51), .lit (.int .u64 5), .lit (.int .u64 1)]], .agg [.lit (.string [82]), .agg [.lit (.int .u64 51), .lit (.int .u64 6), .lit (.int .u64 1)]], .agg [.lit (.string [82]), .agg [.lit (.int .u64 51), .lit (.int .u64 7), .lit (.int .u64 1)]], .agg [.lit (.string [73]), .agg [.lit (.int .u64 19), .lit (.int .u64 0), .lit (.int .u64 0)]], .agg [.lit (.string [73]), .agg [.lit (.int .u64 19), .lit (.int .u64 2), .lit (.int .u64 0)]], .agg [.lit (.string [73]), .agg [.lit (.int .u64 19), .lit (.int .u64 3), .lit (.int .u64 0)]], .agg [.lit (.string [73]), .agg [.lit (.int .u64 19), .lit (.int .u64 4), .lit (.int .u64 0)]], .agg [.lit (.string [73]), .agg [.lit (.int .u64 19), .lit (.int .u64 6), .lit (.int .u64 0)]], .agg [.lit (.string [73]), .agg [.lit (.int .u64 19), .lit (.int .u64 7), .lit (.int .u64 0)]], .agg [.lit (.string [73]), .agg [.lit (.int .u64 19), .lit (.int .u64 1), .lit (.int .u64 0)]], .agg [.lit (.string [73]), .agg [.lit (.int .u64 19), .lit (.int .u64 5), .lit (.int .u64 0)]], .agg [.lit (.string [73]), .agg [.lit (.int .u64 19), .lit (.int .u64 5), .lit (.int .u64 16)]], .agg [.lit (.string [73]), .agg [.lit (.int .u64 3), .lit (.int .u64 0), .lit (.int .u64 0)]], .agg [.lit (.string [73]), .agg [.lit (.int .u64 3), .lit (.int .u64 4), .lit (.int .u64 0)]], .agg [.lit (.string [73]), .agg [.lit (.int .u64 3), .lit (.int .u64 2), .lit (.int .u64 0)]], .agg [.lit (.string [73]), .agg [.lit (.int .u64 3), .lit (.int .u64 3), .lit (.int .u64 0)]], .agg [.lit (.string [83]), .agg [.lit (.int .u64 35), .lit (.int .u64 0), .lit (.int .u64 0)]], .agg [.lit (.string [83]), .agg [.lit (.int .u64 35), .lit (.int .u64 2), .lit (.int .u64 0)]], .agg [.lit (.string [83]), .agg [.lit (.int .u64 35), .lit (.int .u64 3), .lit (.int .u64 0)]], .agg [.lit (.string [66]), .agg [.lit (.int .u64 99), .lit (.int .u64 0), .lit (.int .u64 0)]], .agg [.lit (.string [66]), .agg [.lit (.int .u64 99), .lit (.int .u64 1), .lit (.int .u64 0)]], .agg [.lit (.string [66]), .agg [.lit (.int .u64 99), .lit (.int .u64 4), .lit (.int .u64 0)]], .agg [.lit (.string [66]), .agg [.lit (.int .u64 99), .lit (.int .u64 5), .lit (.int .u64 0)]], .agg [.lit (.string [66]), .agg [.lit (.int .u64 99), .lit (.int .u64 6), .lit (.int .u64 0)]], .agg [.lit (.string [66]), .agg [.lit (.int .u64 99), .lit (.int .u64 7), .lit (.int .u64 0)]], .agg [.lit (.string [85]), .agg [.lit (.int .u64 55), .lit (.int .u64 0), .lit (.int .u64 0)]], .agg [.lit (.string [85]), .agg [.lit (.int .u64 23), .lit (.int .u64 0), .lit (.int .u64 0)]], .agg [.lit (.string [74]), .agg [.lit (.int .u64 111), .lit (.int .u64 0), .lit (.int .u64 0)]], .agg [.lit (.string [73]), .agg [.lit (.int .u64 103), .lit (.int .u64 0), .lit (.int .u64 0)]], .agg [.lit (.string [69]), .agg [.lit (.int .u64 115), .lit (.int .u64 0), .lit (.int .u64 0)]]]
def laid_unicode_utf8_acceptRanges {H : Type} : DataW H := .agg [.agg [.lit (.int .u8 128), .lit (.int .u8 191)], .agg [.lit (.int .u8 160), .lit (.int .u8 191)], .agg [.lit (.int .u8 128), .lit (.int .u8 159)], .agg [.lit (.int .u8 144), .lit (.int .u8 191)], .agg [.lit (.int .u8 128), .lit (.int .u8 143)], .agg [.lit (.int .u8 0), .lit (.int .u8 0)], .agg [.lit (.int .u8 0), .lit (.int .u8 0)], .agg [.lit (.int .u8 0), .lit (.int .u8 0)], .agg [.lit (.int .u8 0), .lit (.int .u8 0)], .agg [.lit (.int .u8 0), .lit (.int .u8 0)], .agg [.lit (.int .u8 0), .lit (.int .u8 0)], .agg [.lit (.int .u8 0), .lit (.int .u8 0)], .agg [.lit (.int .u8 0), .lit (.int .u8 0)], .agg [.lit (.int .u8 0), .lit (.int .u8 0)], .agg [.lit (.int .u8 0), .lit (.int .u8 0)], .agg [.lit (.int .u8 0), .lit (.int .u8 0)]]
/-- One of Go's own tables, pinned by name: the form's constant. -/
def laid_unicode_utf8_first : DataW Unit := Go.Pinned.utf8First

/-- 'caponierlaw07.SymsLeast': WHATEVER THE INPUT: true; the input reads as it did. -/
def symsLeastSpec : ChangeSpec := { name := "symsLeast", fn := fun _ => fun
  | [d1, d2] => { results := [.lit (.bool true)], args := [d1, d2] }
  | _ => none }
def symsLeastRow : OpenClaim := { program := "ytobablbcmdhlbaagreatdoor", sum := "b57c446d69ddf9e1393f7404441f55e1b55c8c394849b290dabb1cda33883d08", func := "caponier/caponierlaw07.SymsLeast", spec := "symsLeast", inPlace := ["internal/bytealg.IndexByteString", "internal/bytealg.IndexString"], unfollowed := true, recurses := true, named := ["caponier/ins.rows", "internal/bytealg.MaxLen", "unicode/utf8.first", "unicode/utf8.acceptRanges"], plainKeys := false, apart := false, laid := [("caponier/ins.rows", laid_caponier_ins_rows), ("unicode/utf8.acceptRanges", laid_unicode_utf8_acceptRanges), ("unicode/utf8.first", laid_unicode_utf8_first)] }
def SymsLeastSaid : Prop := symsLeastRow.holds Tryz.pinned (OpenSpec.ofChange symsLeastSpec)

/-- ITS FALSE NEIGHBOUR: 'it returns false'. Refute it at one input. -/
def symsLeastWrong : ChangeSpec := { name := "symsLeast", fn := fun _ => fun
  | [d1, d2] => { results := [.lit (.bool false)], args := [d1, d2] }
  | _ => none }
def SymsLeastWrongFalsely : Prop := symsLeastRow.holds Tryz.pinned (OpenSpec.ofChange symsLeastWrong)

/-- 'caponierlaw07.SymsTwice': WHATEVER THE INPUT: true; the input reads as it did. -/
def symsTwiceSpec : ChangeSpec := { name := "symsTwice", fn := fun _ => fun
  | [d1, d2] => { results := [.lit (.bool true)], args := [d1, d2] }
  | _ => none }
def symsTwiceRow : OpenClaim := { program := "ytobablbcmdhlbaagreatdoor", sum := "b57c446d69ddf9e1393f7404441f55e1b55c8c394849b290dabb1cda33883d08", func := "caponier/caponierlaw07.SymsTwice", spec := "symsTwice", inPlace := ["internal/bytealg.IndexByteString", "internal/bytealg.IndexString"], unfollowed := true, recurses := true, named := ["caponier/ins.rows", "internal/bytealg.MaxLen", "unicode/utf8.first", "unicode/utf8.acceptRanges"], plainKeys := false, apart := false, laid := [("caponier/ins.rows", laid_caponier_ins_rows), ("unicode/utf8.acceptRanges", laid_unicode_utf8_acceptRanges), ("unicode/utf8.first", laid_unicode_utf8_first)] }
def SymsTwiceSaid : Prop := symsTwiceRow.holds Tryz.pinned (OpenSpec.ofChange symsTwiceSpec)

/-- ITS FALSE NEIGHBOUR: 'it returns false'. Refute it at one input. -/
def symsTwiceWrong : ChangeSpec := { name := "symsTwice", fn := fun _ => fun
  | [d1, d2] => { results := [.lit (.bool false)], args := [d1, d2] }
  | _ => none }
def SymsTwiceWrongFalsely : Prop := symsTwiceRow.holds Tryz.pinned (OpenSpec.ofChange symsTwiceWrong)

/-- 'caponierlaw07.SymsTurned': WHATEVER THE INPUT: true; the input reads as it did. -/
def symsTurnedSpec : ChangeSpec := { name := "symsTurned", fn := fun _ => fun
  | [d] => { results := [.lit (.bool true)], args := [d] }
  | _ => none }
def symsTurnedRow : OpenClaim := { program := "ytobablbcmdhlbaagreatdoor", sum := "b57c446d69ddf9e1393f7404441f55e1b55c8c394849b290dabb1cda33883d08", func := "caponier/caponierlaw07.SymsTurned", spec := "symsTurned", inPlace := ["internal/bytealg.IndexByteString", "internal/bytealg.IndexString"], unfollowed := true, recurses := true, named := ["caponier/ins.rows", "internal/bytealg.MaxLen", "unicode/utf8.first", "unicode/utf8.acceptRanges"], plainKeys := false, apart := false, laid := [("caponier/ins.rows", laid_caponier_ins_rows), ("unicode/utf8.acceptRanges", laid_unicode_utf8_acceptRanges), ("unicode/utf8.first", laid_unicode_utf8_first)] }
def SymsTurnedSaid : Prop := symsTurnedRow.holds Tryz.pinned (OpenSpec.ofChange symsTurnedSpec)

/-- ITS FALSE NEIGHBOUR: 'it returns false'. Refute it at one input. -/
def symsTurnedWrong : ChangeSpec := { name := "symsTurned", fn := fun _ => fun
  | [d] => { results := [.lit (.bool false)], args := [d] }
  | _ => none }
def SymsTurnedWrongFalsely : Prop := symsTurnedRow.holds Tryz.pinned (OpenSpec.ofChange symsTurnedWrong)

/-- 'caponierlaw07.SymsOuts': WHATEVER THE INPUT: true; the input reads as it did. -/
def symsOutsSpec : ChangeSpec := { name := "symsOuts", fn := fun _ => fun
  | [d] => { results := [.lit (.bool true)], args := [d] }
  | _ => none }
def symsOutsRow : OpenClaim := { program := "ytobablbcmdhlbaagreatdoor", sum := "b57c446d69ddf9e1393f7404441f55e1b55c8c394849b290dabb1cda33883d08", func := "caponier/caponierlaw07.SymsOuts", spec := "symsOuts", inPlace := ["internal/bytealg.IndexByteString", "internal/bytealg.IndexString"], unfollowed := true, recurses := true, named := ["caponier/ins.rows", "internal/bytealg.MaxLen", "unicode/utf8.first", "unicode/utf8.acceptRanges"], plainKeys := false, apart := false, laid := [("caponier/ins.rows", laid_caponier_ins_rows), ("unicode/utf8.acceptRanges", laid_unicode_utf8_acceptRanges), ("unicode/utf8.first", laid_unicode_utf8_first)] }
def SymsOutsSaid : Prop := symsOutsRow.holds Tryz.pinned (OpenSpec.ofChange symsOutsSpec)

/-- ITS FALSE NEIGHBOUR: 'it returns false'. Refute it at one input. -/
def symsOutsWrong : ChangeSpec := { name := "symsOuts", fn := fun _ => fun
  | [d] => { results := [.lit (.bool false)], args := [d] }
  | _ => none }
def SymsOutsWrongFalsely : Prop := symsOutsRow.holds Tryz.pinned (OpenSpec.ofChange symsOutsWrong)

/-- 'caponierlaw07.SymsAlone': WHATEVER THE INPUT: true; the input reads as it did. -/
def symsAloneSpec : ChangeSpec := { name := "symsAlone", fn := fun _ => fun
  | [d1, d2] => { results := [.lit (.bool true)], args := [d1, d2] }
  | _ => none }
def symsAloneRow : OpenClaim := { program := "ytobablbcmdhlbaagreatdoor", sum := "b57c446d69ddf9e1393f7404441f55e1b55c8c394849b290dabb1cda33883d08", func := "caponier/caponierlaw07.SymsAlone", spec := "symsAlone", inPlace := ["internal/bytealg.IndexByteString", "internal/bytealg.IndexString"], unfollowed := true, recurses := true, named := ["caponier/ins.rows", "internal/bytealg.MaxLen", "unicode/utf8.first", "unicode/utf8.acceptRanges"], plainKeys := false, apart := false, laid := [("caponier/ins.rows", laid_caponier_ins_rows), ("unicode/utf8.acceptRanges", laid_unicode_utf8_acceptRanges), ("unicode/utf8.first", laid_unicode_utf8_first)] }
def SymsAloneSaid : Prop := symsAloneRow.holds Tryz.pinned (OpenSpec.ofChange symsAloneSpec)

/-- ITS FALSE NEIGHBOUR: 'it returns false'. Refute it at one input. -/
def symsAloneWrong : ChangeSpec := { name := "symsAlone", fn := fun _ => fun
  | [d1, d2] => { results := [.lit (.bool false)], args := [d1, d2] }
  | _ => none }
def SymsAloneWrongFalsely : Prop := symsAloneRow.holds Tryz.pinned (OpenSpec.ofChange symsAloneWrong)

/- THE SECOND FORM. 'bulk': how many values and letters a reading holds, each counted each time it is reached (what is shared counts as often as it is met; a slice's spare places count too). A statement '..UptoSaid' is the law's where the arguments, and the package variables that the reading takes, are together of bulk at most 1048576: NARROWER than '..Said'. Prove '..Said' where nothing that the law and all that it calls make is longer than what came in: it says more and counts as full. Else prove '..UptoSaid'. A law counts once. -/
mutual
def uptoBulk {H : Type} : DataW H → Nat
  | .lit (.string bytes) => bytes.length + 1
  | .lit _ => 1
  | .nil => 1
  | .ptr d => uptoBulk d + 1
  | .slice elems spare => uptoBulkAll elems + uptoBulkAll spare + 1
  | .agg parts => uptoBulkAll parts + 1
  | .iface _ d => uptoBulk d + 1
  | .map entries => uptoBulkEntries entries + 1
  | .held _ => 1
def uptoBulkAll {H : Type} : List (DataW H) → Nat
  | [] => 0
  | d :: r => uptoBulk d + uptoBulkAll r
def uptoBulkEntries {H : Type} : List (Lit × DataW H) → Nat
  | [] => 0
  | x :: r => uptoBulkEntry x + uptoBulkEntries r
def uptoBulkEntry {H : Type} : Lit × DataW H → Nat
  | (.string bytes, d) => bytes.length + uptoBulk d + 1
  | (_, d) => uptoBulk d + 1
 end
def uptoSmall : (H : Type) → List (DataW H) → Bool := fun _ ds => decide (uptoBulkAll ds ≤ 1048576)
def OpenSpec.upto (s : _root_.Go.ChangeSpec) : _root_.Go.OpenSpec := { _root_.Go.OpenSpec.ofChange s with cond := some uptoSmall }

/-- 'caponierlaw07.SymsLeast', WHERE WHAT IT READS IS OF BULK AT MOST 1048576: true; the input reads as it did. -/
def symsLeastUptoRow : OpenClaim := { program := "ytobablbcmdhlbaagreatdoor", sum := "b57c446d69ddf9e1393f7404441f55e1b55c8c394849b290dabb1cda33883d08", func := "caponier/caponierlaw07.SymsLeast", spec := "symsLeast", inPlace := ["internal/bytealg.IndexByteString", "internal/bytealg.IndexString"], unfollowed := true, recurses := true, named := ["caponier/ins.rows", "internal/bytealg.MaxLen", "unicode/utf8.first", "unicode/utf8.acceptRanges"], plainKeys := false, apart := false, laid := [("caponier/ins.rows", laid_caponier_ins_rows), ("unicode/utf8.acceptRanges", laid_unicode_utf8_acceptRanges), ("unicode/utf8.first", laid_unicode_utf8_first)], narrowed := true }
def SymsLeastUptoSaid : Prop := symsLeastUptoRow.holds Tryz.pinned (OpenSpec.upto symsLeastSpec)

/-- 'caponierlaw07.SymsTwice', WHERE WHAT IT READS IS OF BULK AT MOST 1048576: true; the input reads as it did. -/
def symsTwiceUptoRow : OpenClaim := { program := "ytobablbcmdhlbaagreatdoor", sum := "b57c446d69ddf9e1393f7404441f55e1b55c8c394849b290dabb1cda33883d08", func := "caponier/caponierlaw07.SymsTwice", spec := "symsTwice", inPlace := ["internal/bytealg.IndexByteString", "internal/bytealg.IndexString"], unfollowed := true, recurses := true, named := ["caponier/ins.rows", "internal/bytealg.MaxLen", "unicode/utf8.first", "unicode/utf8.acceptRanges"], plainKeys := false, apart := false, laid := [("caponier/ins.rows", laid_caponier_ins_rows), ("unicode/utf8.acceptRanges", laid_unicode_utf8_acceptRanges), ("unicode/utf8.first", laid_unicode_utf8_first)], narrowed := true }
def SymsTwiceUptoSaid : Prop := symsTwiceUptoRow.holds Tryz.pinned (OpenSpec.upto symsTwiceSpec)

/-- 'caponierlaw07.SymsTurned', WHERE WHAT IT READS IS OF BULK AT MOST 1048576: true; the input reads as it did. -/
def symsTurnedUptoRow : OpenClaim := { program := "ytobablbcmdhlbaagreatdoor", sum := "b57c446d69ddf9e1393f7404441f55e1b55c8c394849b290dabb1cda33883d08", func := "caponier/caponierlaw07.SymsTurned", spec := "symsTurned", inPlace := ["internal/bytealg.IndexByteString", "internal/bytealg.IndexString"], unfollowed := true, recurses := true, named := ["caponier/ins.rows", "internal/bytealg.MaxLen", "unicode/utf8.first", "unicode/utf8.acceptRanges"], plainKeys := false, apart := false, laid := [("caponier/ins.rows", laid_caponier_ins_rows), ("unicode/utf8.acceptRanges", laid_unicode_utf8_acceptRanges), ("unicode/utf8.first", laid_unicode_utf8_first)], narrowed := true }
def SymsTurnedUptoSaid : Prop := symsTurnedUptoRow.holds Tryz.pinned (OpenSpec.upto symsTurnedSpec)

/-- 'caponierlaw07.SymsOuts', WHERE WHAT IT READS IS OF BULK AT MOST 1048576: true; the input reads as it did. -/
def symsOutsUptoRow : OpenClaim := { program := "ytobablbcmdhlbaagreatdoor", sum := "b57c446d69ddf9e1393f7404441f55e1b55c8c394849b290dabb1cda33883d08", func := "caponier/caponierlaw07.SymsOuts", spec := "symsOuts", inPlace := ["internal/bytealg.IndexByteString", "internal/bytealg.IndexString"], unfollowed := true, recurses := true, named := ["caponier/ins.rows", "internal/bytealg.MaxLen", "unicode/utf8.first", "unicode/utf8.acceptRanges"], plainKeys := false, apart := false, laid := [("caponier/ins.rows", laid_caponier_ins_rows), ("unicode/utf8.acceptRanges", laid_unicode_utf8_acceptRanges), ("unicode/utf8.first", laid_unicode_utf8_first)], narrowed := true }
def SymsOutsUptoSaid : Prop := symsOutsUptoRow.holds Tryz.pinned (OpenSpec.upto symsOutsSpec)

/-- 'caponierlaw07.SymsAlone', WHERE WHAT IT READS IS OF BULK AT MOST 1048576: true; the input reads as it did. -/
def symsAloneUptoRow : OpenClaim := { program := "ytobablbcmdhlbaagreatdoor", sum := "b57c446d69ddf9e1393f7404441f55e1b55c8c394849b290dabb1cda33883d08", func := "caponier/caponierlaw07.SymsAlone", spec := "symsAlone", inPlace := ["internal/bytealg.IndexByteString", "internal/bytealg.IndexString"], unfollowed := true, recurses := true, named := ["caponier/ins.rows", "internal/bytealg.MaxLen", "unicode/utf8.first", "unicode/utf8.acceptRanges"], plainKeys := false, apart := false, laid := [("caponier/ins.rows", laid_caponier_ins_rows), ("unicode/utf8.acceptRanges", laid_unicode_utf8_acceptRanges), ("unicode/utf8.first", laid_unicode_utf8_first)], narrowed := true }
def SymsAloneUptoSaid : Prop := symsAloneUptoRow.holds Tryz.pinned (OpenSpec.upto symsAloneSpec)

end Rows
end Go.Proofs.YtobablbcmdhlbaaGreatDoor
