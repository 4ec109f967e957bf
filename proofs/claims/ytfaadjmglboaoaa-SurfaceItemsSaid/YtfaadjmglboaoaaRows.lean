/-
  No cell of these rows narrows 'for every input' (looked for: loops, veiled, ifaces, maps, wideKeys, modest, calm, conditions, laid).
  DERIVED. THE GIVEN ROWS OF THIS SEAT. 11 by the template 'for every input the law returns true; each argument reads behind the call as it read before'; 0 by the template 'total and deterministic' (their statements: YtfaadjmglboaoaaTotals.lean).
  GIVEN WITH THE SEED: the statements are not yours to turn. If you find one false, say at which input.
  Laid BY PROGRAM, IN A SANDBOX (cutbox-rows.mjs): the forced cells as the released guide's own fill.sh prints them over the translation 5892c1e14024fc26… (all of the seat's roots in one cut). By AI agents, Wed Nov 11 2026. No macro, syntax, notation, axiom, sorry.
-/
import Derived.Test.YtfaadjmglboaoaaChecked
import GoSem.Claim
import GoSem.ClaimJoined
import GoSem.ClaimMapViews
import Derived.JoinedTies
import Derived.KernelRfl
namespace Go.Proofs.Ytfaadjmglboaoaa
/- THE CELL 'sum', in the pinned program and in every row, IS THE sha256 OF THE DUMP (.gsa) THAT YtfaadjmglboaoaaProg.lean LOADS. Nothing in Lean hashes anything: it is a label: what it is worth is what the hold of that sum in a sandbox is worth. -/
noncomputable def Try.pinned : Pinned := { name := "ytfaadjmglboaoaa", sum := "5892c1e14024fc26cbbe56dcc4b4cc7ac9719c951584adfb350553e255820150", checked := Try.checked }
namespace Rows
def none {H : Type} : Left H := { results := [], args := [] }

/-- 'cornicelaw01.LevelOrder': WHATEVER THE INPUT: true; the input reads as it did. -/
def levelOrderSpec : ChangeSpec := { name := "levelOrder", fn := fun _ => fun
  | [d1, d2, d3] => { results := [.lit (.bool true)], args := [d1, d2, d3] }
  | _ => none }
def levelOrderRow : OpenClaim := { program := "ytfaadjmglboaoaa", sum := "5892c1e14024fc26cbbe56dcc4b4cc7ac9719c951584adfb350553e255820150", func := "cornice/cornicelaw01.LevelOrder", spec := "levelOrder", unfollowed := true, recurses := true, leaving := true, apart := false }
def LevelOrderSaid : Prop := levelOrderRow.holds Try.pinned (OpenSpec.ofChange levelOrderSpec)

/-- ITS FALSE NEIGHBOUR: 'it returns false'. Refute it at one input. -/
def levelOrderWrong : ChangeSpec := { name := "levelOrder", fn := fun _ => fun
  | [d1, d2, d3] => { results := [.lit (.bool false)], args := [d1, d2, d3] }
  | _ => none }
def LevelOrderWrongFalsely : Prop := levelOrderRow.holds Try.pinned (OpenSpec.ofChange levelOrderWrong)

/-- 'cornicelaw01.LevelUp': WHATEVER THE INPUT: true; the input reads as it did. -/
def levelUpSpec : ChangeSpec := { name := "levelUp", fn := fun _ => fun
  | [d1, d2] => { results := [.lit (.bool true)], args := [d1, d2] }
  | _ => none }
def levelUpRow : OpenClaim := { program := "ytfaadjmglboaoaa", sum := "5892c1e14024fc26cbbe56dcc4b4cc7ac9719c951584adfb350553e255820150", func := "cornice/cornicelaw01.LevelUp", spec := "levelUp", unfollowed := true, recurses := true, leaving := true, apart := false }
def LevelUpSaid : Prop := levelUpRow.holds Try.pinned (OpenSpec.ofChange levelUpSpec)

/-- ITS FALSE NEIGHBOUR: 'it returns false'. Refute it at one input. -/
def levelUpWrong : ChangeSpec := { name := "levelUp", fn := fun _ => fun
  | [d1, d2] => { results := [.lit (.bool false)], args := [d1, d2] }
  | _ => none }
def LevelUpWrongFalsely : Prop := levelUpRow.holds Try.pinned (OpenSpec.ofChange levelUpWrong)

/-- 'cornicelaw01.LevelMax': WHATEVER THE INPUT: true; the input reads as it did. -/
def levelMaxSpec : ChangeSpec := { name := "levelMax", fn := fun _ => fun
  | [d1, d2] => { results := [.lit (.bool true)], args := [d1, d2] }
  | _ => none }
def levelMaxRow : OpenClaim := { program := "ytfaadjmglboaoaa", sum := "5892c1e14024fc26cbbe56dcc4b4cc7ac9719c951584adfb350553e255820150", func := "cornice/cornicelaw01.LevelMax", spec := "levelMax", unfollowed := true, recurses := true, leaving := true, apart := false }
def LevelMaxSaid : Prop := levelMaxRow.holds Try.pinned (OpenSpec.ofChange levelMaxSpec)

/-- ITS FALSE NEIGHBOUR: 'it returns false'. Refute it at one input. -/
def levelMaxWrong : ChangeSpec := { name := "levelMax", fn := fun _ => fun
  | [d1, d2] => { results := [.lit (.bool false)], args := [d1, d2] }
  | _ => none }
def LevelMaxWrongFalsely : Prop := levelMaxRow.holds Try.pinned (OpenSpec.ofChange levelMaxWrong)

/-- 'cornicelaw01.LevelPi': WHATEVER THE INPUT: true; the input reads as it did. -/
def levelPiSpec : ChangeSpec := { name := "levelPi", fn := fun _ => fun
  | [d1, d2, d3] => { results := [.lit (.bool true)], args := [d1, d2, d3] }
  | _ => none }
def levelPiRow : OpenClaim := { program := "ytfaadjmglboaoaa", sum := "5892c1e14024fc26cbbe56dcc4b4cc7ac9719c951584adfb350553e255820150", func := "cornice/cornicelaw01.LevelPi", spec := "levelPi", unfollowed := true, recurses := true, leaving := true, apart := false }
def LevelPiSaid : Prop := levelPiRow.holds Try.pinned (OpenSpec.ofChange levelPiSpec)

/-- ITS FALSE NEIGHBOUR: 'it returns false'. Refute it at one input. -/
def levelPiWrong : ChangeSpec := { name := "levelPi", fn := fun _ => fun
  | [d1, d2, d3] => { results := [.lit (.bool false)], args := [d1, d2, d3] }
  | _ => none }
def LevelPiWrongFalsely : Prop := levelPiRow.holds Try.pinned (OpenSpec.ofChange levelPiWrong)

/-- 'cornicelaw01.LevelTells': WHATEVER THE INPUT: true; the input reads as it did. -/
def levelTellsSpec : ChangeSpec := { name := "levelTells", fn := fun _ => fun
  | [d1, d2, d3] => { results := [.lit (.bool true)], args := [d1, d2, d3] }
  | _ => none }
def levelTellsRow : OpenClaim := { program := "ytfaadjmglboaoaa", sum := "5892c1e14024fc26cbbe56dcc4b4cc7ac9719c951584adfb350553e255820150", func := "cornice/cornicelaw01.LevelTells", spec := "levelTells", unfollowed := true, recurses := true, leaving := true, apart := false }
def LevelTellsSaid : Prop := levelTellsRow.holds Try.pinned (OpenSpec.ofChange levelTellsSpec)

/-- ITS FALSE NEIGHBOUR: 'it returns false'. Refute it at one input. -/
def levelTellsWrong : ChangeSpec := { name := "levelTells", fn := fun _ => fun
  | [d1, d2, d3] => { results := [.lit (.bool false)], args := [d1, d2, d3] }
  | _ => none }
def LevelTellsWrongFalsely : Prop := levelTellsRow.holds Try.pinned (OpenSpec.ofChange levelTellsWrong)

/-- 'cornicelaw06.LexerWords': WHATEVER THE INPUT: true; the input reads as it did. -/
def lexerWordsSpec : ChangeSpec := { name := "lexerWords", fn := fun _ => fun
  | [d1, d2, d3] => { results := [.lit (.bool true)], args := [d1, d2, d3] }
  | _ => none }
def lexerWordsRow : OpenClaim := { program := "ytfaadjmglboaoaa", sum := "5892c1e14024fc26cbbe56dcc4b4cc7ac9719c951584adfb350553e255820150", func := "cornice/cornicelaw06.LexerWords", spec := "lexerWords", inPlace := ["internal/bytealg.IndexByteString"], unfollowed := true, recurses := true, leaving := true, apart := false }
def LexerWordsSaid : Prop := lexerWordsRow.holds Try.pinned (OpenSpec.ofChange lexerWordsSpec)

/-- ITS FALSE NEIGHBOUR: 'it returns false'. Refute it at one input. -/
def lexerWordsWrong : ChangeSpec := { name := "lexerWords", fn := fun _ => fun
  | [d1, d2, d3] => { results := [.lit (.bool false)], args := [d1, d2, d3] }
  | _ => none }
def LexerWordsWrongFalsely : Prop := lexerWordsRow.holds Try.pinned (OpenSpec.ofChange lexerWordsWrong)

/-- 'cornicelaw07.SurfaceParses': WHATEVER THE INPUT: true; the input reads as it did. -/
def surfaceParsesSpec : ChangeSpec := { name := "surfaceParses", fn := fun _ => fun
  | [d] => { results := [.lit (.bool true)], args := [d] }
  | _ => none }
def surfaceParsesRow : OpenClaim := { program := "ytfaadjmglboaoaa", sum := "5892c1e14024fc26cbbe56dcc4b4cc7ac9719c951584adfb350553e255820150", func := "cornice/cornicelaw07.SurfaceParses", spec := "surfaceParses", inPlace := ["internal/bytealg.IndexByteString"], unfollowed := true, recurses := true, leaving := true, apart := false }
def SurfaceParsesSaid : Prop := surfaceParsesRow.holds Try.pinned (OpenSpec.ofChange surfaceParsesSpec)

/-- ITS FALSE NEIGHBOUR: 'it returns false'. Refute it at one input. -/
def surfaceParsesWrong : ChangeSpec := { name := "surfaceParses", fn := fun _ => fun
  | [d] => { results := [.lit (.bool false)], args := [d] }
  | _ => none }
def SurfaceParsesWrongFalsely : Prop := surfaceParsesRow.holds Try.pinned (OpenSpec.ofChange surfaceParsesWrong)

/-- 'cornicelaw07.SurfaceDeep': WHATEVER THE INPUT: true; the input reads as it did. -/
def surfaceDeepSpec : ChangeSpec := { name := "surfaceDeep", fn := fun _ => fun
  | [d1, d2] => { results := [.lit (.bool true)], args := [d1, d2] }
  | _ => none }
def surfaceDeepRow : OpenClaim := { program := "ytfaadjmglboaoaa", sum := "5892c1e14024fc26cbbe56dcc4b4cc7ac9719c951584adfb350553e255820150", func := "cornice/cornicelaw07.SurfaceDeep", spec := "surfaceDeep", inPlace := ["internal/bytealg.IndexByteString"], unfollowed := true, recurses := true, leaving := true, apart := false }
def SurfaceDeepSaid : Prop := surfaceDeepRow.holds Try.pinned (OpenSpec.ofChange surfaceDeepSpec)

/-- ITS FALSE NEIGHBOUR: 'it returns false'. Refute it at one input. -/
def surfaceDeepWrong : ChangeSpec := { name := "surfaceDeep", fn := fun _ => fun
  | [d1, d2] => { results := [.lit (.bool false)], args := [d1, d2] }
  | _ => none }
def SurfaceDeepWrongFalsely : Prop := surfaceDeepRow.holds Try.pinned (OpenSpec.ofChange surfaceDeepWrong)

/-- 'cornicelaw07.SurfaceJoins': WHATEVER THE INPUT: true; the input reads as it did. -/
def surfaceJoinsSpec : ChangeSpec := { name := "surfaceJoins", fn := fun _ => fun
  | [d1, d2] => { results := [.lit (.bool true)], args := [d1, d2] }
  | _ => none }
def surfaceJoinsRow : OpenClaim := { program := "ytfaadjmglboaoaa", sum := "5892c1e14024fc26cbbe56dcc4b4cc7ac9719c951584adfb350553e255820150", func := "cornice/cornicelaw07.SurfaceJoins", spec := "surfaceJoins", inPlace := ["internal/bytealg.IndexByteString"], unfollowed := true, recurses := true, leaving := true, apart := false }
def SurfaceJoinsSaid : Prop := surfaceJoinsRow.holds Try.pinned (OpenSpec.ofChange surfaceJoinsSpec)

/-- ITS FALSE NEIGHBOUR: 'it returns false'. Refute it at one input. -/
def surfaceJoinsWrong : ChangeSpec := { name := "surfaceJoins", fn := fun _ => fun
  | [d1, d2] => { results := [.lit (.bool false)], args := [d1, d2] }
  | _ => none }
def SurfaceJoinsWrongFalsely : Prop := surfaceJoinsRow.holds Try.pinned (OpenSpec.ofChange surfaceJoinsWrong)

/-- 'cornicelaw06.LexerLines': WHATEVER THE INPUT: true; the input reads as it did. -/
def lexerLinesSpec : ChangeSpec := { name := "lexerLines", fn := fun _ => fun
  | [d1, d2] => { results := [.lit (.bool true)], args := [d1, d2] }
  | _ => none }
def lexerLinesRow : OpenClaim := { program := "ytfaadjmglboaoaa", sum := "5892c1e14024fc26cbbe56dcc4b4cc7ac9719c951584adfb350553e255820150", func := "cornice/cornicelaw06.LexerLines", spec := "lexerLines", inPlace := ["internal/bytealg.IndexByteString", "internal/bytealg.CountString", "internal/bytealg.IndexString"], unfollowed := true, recurses := true, named := ["internal/bytealg.MaxLen"], leaving := true, apart := false }
def LexerLinesSaid : Prop := lexerLinesRow.holds Try.pinned (OpenSpec.ofChange lexerLinesSpec)

/-- ITS FALSE NEIGHBOUR: 'it returns false'. Refute it at one input. -/
def lexerLinesWrong : ChangeSpec := { name := "lexerLines", fn := fun _ => fun
  | [d1, d2] => { results := [.lit (.bool false)], args := [d1, d2] }
  | _ => none }
def LexerLinesWrongFalsely : Prop := lexerLinesRow.holds Try.pinned (OpenSpec.ofChange lexerLinesWrong)

/-- 'cornicelaw07.SurfaceItems': WHATEVER THE INPUT: true; the input reads as it did. -/
def surfaceItemsSpec : ChangeSpec := { name := "surfaceItems", fn := fun _ => fun
  | [d] => { results := [.lit (.bool true)], args := [d] }
  | _ => none }
def surfaceItemsRow : OpenClaim := { program := "ytfaadjmglboaoaa", sum := "5892c1e14024fc26cbbe56dcc4b4cc7ac9719c951584adfb350553e255820150", func := "cornice/cornicelaw07.SurfaceItems", spec := "surfaceItems", inPlace := ["internal/bytealg.IndexByteString", "internal/abi.NoEscape", "internal/bytealg.MakeNoZero"], unfollowed := true, recurses := true, leaving := true, apart := false }
def SurfaceItemsSaid : Prop := surfaceItemsRow.holds Try.pinned (OpenSpec.ofChange surfaceItemsSpec)

/-- ITS FALSE NEIGHBOUR: 'it returns false'. Refute it at one input. -/
def surfaceItemsWrong : ChangeSpec := { name := "surfaceItems", fn := fun _ => fun
  | [d] => { results := [.lit (.bool false)], args := [d] }
  | _ => none }
def SurfaceItemsWrongFalsely : Prop := surfaceItemsRow.holds Try.pinned (OpenSpec.ofChange surfaceItemsWrong)

/- THE SECOND FORM. 'bulk': how many values and letters a reading holds, each counted each time it is reached (what is shared counts as often as it is met; a slice's spare places count too). A statement '..UptoSaid' is the law's where the arguments, and the package variables that the reading takes, are together of bulk at most 1048576: NARROWER than '..Said'. Prove '..Said' where nothing that the law and all that it calls make is longer than what came in: it says more and counts as full. Else prove '..UptoSaid'. A law counts once. -/
mutual
def uptoBulk {H : Type} : DataW H → Nat
  | .lit (.string bytes) => bytes.length + 1
  | .lit _ => 1
  | .nil => 1
  | .ptr d => uptoBulk d + 1
  | .slice elems spare => uptoBulkAll elems + uptoBulkAll spare + 1
  | .agg parts => uptoBulkAll parts + 1
  | .iface _ d => uptoBulk d + 1
  | .map entries => uptoBulkEntries entries + 1
  | .held _ => 1
def uptoBulkAll {H : Type} : List (DataW H) → Nat
  | [] => 0
  | d :: r => uptoBulk d + uptoBulkAll r
def uptoBulkEntries {H : Type} : List (Lit × DataW H) → Nat
  | [] => 0
  | x :: r => uptoBulkEntry x + uptoBulkEntries r
def uptoBulkEntry {H : Type} : Lit × DataW H → Nat
  | (.string bytes, d) => bytes.length + uptoBulk d + 1
  | (_, d) => uptoBulk d + 1
 end
def uptoSmall : (H : Type) → List (DataW H) → Bool := fun _ ds => decide (uptoBulkAll ds ≤ 1048576)
def OpenSpec.upto (s : _root_.Go.ChangeSpec) : _root_.Go.OpenSpec := { _root_.Go.OpenSpec.ofChange s with cond := some uptoSmall }

/-- 'cornicelaw01.LevelOrder', WHERE WHAT IT READS IS OF BULK AT MOST 1048576: true; the input reads as it did. -/
def levelOrderUptoRow : OpenClaim := { program := "ytfaadjmglboaoaa", sum := "5892c1e14024fc26cbbe56dcc4b4cc7ac9719c951584adfb350553e255820150", func := "cornice/cornicelaw01.LevelOrder", spec := "levelOrder", unfollowed := true, recurses := true, leaving := true, apart := false, narrowed := true }
def LevelOrderUptoSaid : Prop := levelOrderUptoRow.holds Try.pinned (OpenSpec.upto levelOrderSpec)

/-- 'cornicelaw01.LevelUp', WHERE WHAT IT READS IS OF BULK AT MOST 1048576: true; the input reads as it did. -/
def levelUpUptoRow : OpenClaim := { program := "ytfaadjmglboaoaa", sum := "5892c1e14024fc26cbbe56dcc4b4cc7ac9719c951584adfb350553e255820150", func := "cornice/cornicelaw01.LevelUp", spec := "levelUp", unfollowed := true, recurses := true, leaving := true, apart := false, narrowed := true }
def LevelUpUptoSaid : Prop := levelUpUptoRow.holds Try.pinned (OpenSpec.upto levelUpSpec)

/-- 'cornicelaw01.LevelMax', WHERE WHAT IT READS IS OF BULK AT MOST 1048576: true; the input reads as it did. -/
def levelMaxUptoRow : OpenClaim := { program := "ytfaadjmglboaoaa", sum := "5892c1e14024fc26cbbe56dcc4b4cc7ac9719c951584adfb350553e255820150", func := "cornice/cornicelaw01.LevelMax", spec := "levelMax", unfollowed := true, recurses := true, leaving := true, apart := false, narrowed := true }
def LevelMaxUptoSaid : Prop := levelMaxUptoRow.holds Try.pinned (OpenSpec.upto levelMaxSpec)

/-- 'cornicelaw01.LevelPi', WHERE WHAT IT READS IS OF BULK AT MOST 1048576: true; the input reads as it did. -/
def levelPiUptoRow : OpenClaim := { program := "ytfaadjmglboaoaa", sum := "5892c1e14024fc26cbbe56dcc4b4cc7ac9719c951584adfb350553e255820150", func := "cornice/cornicelaw01.LevelPi", spec := "levelPi", unfollowed := true, recurses := true, leaving := true, apart := false, narrowed := true }
def LevelPiUptoSaid : Prop := levelPiUptoRow.holds Try.pinned (OpenSpec.upto levelPiSpec)

/-- 'cornicelaw01.LevelTells', WHERE WHAT IT READS IS OF BULK AT MOST 1048576: true; the input reads as it did. -/
def levelTellsUptoRow : OpenClaim := { program := "ytfaadjmglboaoaa", sum := "5892c1e14024fc26cbbe56dcc4b4cc7ac9719c951584adfb350553e255820150", func := "cornice/cornicelaw01.LevelTells", spec := "levelTells", unfollowed := true, recurses := true, leaving := true, apart := false, narrowed := true }
def LevelTellsUptoSaid : Prop := levelTellsUptoRow.holds Try.pinned (OpenSpec.upto levelTellsSpec)

/-- 'cornicelaw06.LexerWords', WHERE WHAT IT READS IS OF BULK AT MOST 1048576: true; the input reads as it did. -/
def lexerWordsUptoRow : OpenClaim := { program := "ytfaadjmglboaoaa", sum := "5892c1e14024fc26cbbe56dcc4b4cc7ac9719c951584adfb350553e255820150", func := "cornice/cornicelaw06.LexerWords", spec := "lexerWords", inPlace := ["internal/bytealg.IndexByteString"], unfollowed := true, recurses := true, leaving := true, apart := false, narrowed := true }
def LexerWordsUptoSaid : Prop := lexerWordsUptoRow.holds Try.pinned (OpenSpec.upto lexerWordsSpec)

/-- 'cornicelaw07.SurfaceParses', WHERE WHAT IT READS IS OF BULK AT MOST 1048576: true; the input reads as it did. -/
def surfaceParsesUptoRow : OpenClaim := { program := "ytfaadjmglboaoaa", sum := "5892c1e14024fc26cbbe56dcc4b4cc7ac9719c951584adfb350553e255820150", func := "cornice/cornicelaw07.SurfaceParses", spec := "surfaceParses", inPlace := ["internal/bytealg.IndexByteString"], unfollowed := true, recurses := true, leaving := true, apart := false, narrowed := true }
def SurfaceParsesUptoSaid : Prop := surfaceParsesUptoRow.holds Try.pinned (OpenSpec.upto surfaceParsesSpec)

/-- 'cornicelaw07.SurfaceDeep', WHERE WHAT IT READS IS OF BULK AT MOST 1048576: true; the input reads as it did. -/
def surfaceDeepUptoRow : OpenClaim := { program := "ytfaadjmglboaoaa", sum := "5892c1e14024fc26cbbe56dcc4b4cc7ac9719c951584adfb350553e255820150", func := "cornice/cornicelaw07.SurfaceDeep", spec := "surfaceDeep", inPlace := ["internal/bytealg.IndexByteString"], unfollowed := true, recurses := true, leaving := true, apart := false, narrowed := true }
def SurfaceDeepUptoSaid : Prop := surfaceDeepUptoRow.holds Try.pinned (OpenSpec.upto surfaceDeepSpec)

/-- 'cornicelaw07.SurfaceJoins', WHERE WHAT IT READS IS OF BULK AT MOST 1048576: true; the input reads as it did. -/
def surfaceJoinsUptoRow : OpenClaim := { program := "ytfaadjmglboaoaa", sum := "5892c1e14024fc26cbbe56dcc4b4cc7ac9719c951584adfb350553e255820150", func := "cornice/cornicelaw07.SurfaceJoins", spec := "surfaceJoins", inPlace := ["internal/bytealg.IndexByteString"], unfollowed := true, recurses := true, leaving := true, apart := false, narrowed := true }
def SurfaceJoinsUptoSaid : Prop := surfaceJoinsUptoRow.holds Try.pinned (OpenSpec.upto surfaceJoinsSpec)

/-- 'cornicelaw06.LexerLines', WHERE WHAT IT READS IS OF BULK AT MOST 1048576: true; the input reads as it did. -/
def lexerLinesUptoRow : OpenClaim := { program := "ytfaadjmglboaoaa", sum := "5892c1e14024fc26cbbe56dcc4b4cc7ac9719c951584adfb350553e255820150", func := "cornice/cornicelaw06.LexerLines", spec := "lexerLines", inPlace := ["internal/bytealg.IndexByteString", "internal/bytealg.CountString", "internal/bytealg.IndexString"], unfollowed := true, recurses := true, named := ["internal/bytealg.MaxLen"], leaving := true, apart := false, narrowed := true }
def LexerLinesUptoSaid : Prop := lexerLinesUptoRow.holds Try.pinned (OpenSpec.upto lexerLinesSpec)

/-- 'cornicelaw07.SurfaceItems', WHERE WHAT IT READS IS OF BULK AT MOST 1048576: true; the input reads as it did. -/
def surfaceItemsUptoRow : OpenClaim := { program := "ytfaadjmglboaoaa", sum := "5892c1e14024fc26cbbe56dcc4b4cc7ac9719c951584adfb350553e255820150", func := "cornice/cornicelaw07.SurfaceItems", spec := "surfaceItems", inPlace := ["internal/bytealg.IndexByteString", "internal/abi.NoEscape", "internal/bytealg.MakeNoZero"], unfollowed := true, recurses := true, leaving := true, apart := false, narrowed := true }
def SurfaceItemsUptoSaid : Prop := surfaceItemsUptoRow.holds Try.pinned (OpenSpec.upto surfaceItemsSpec)

end Rows
end Go.Proofs.Ytfaadjmglboaoaa
