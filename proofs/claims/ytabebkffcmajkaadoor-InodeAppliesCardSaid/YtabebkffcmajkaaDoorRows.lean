/-
  NARROWER THAN 'FOR EVERY INPUT', by the rows' own cells (each row's printed sentence says how): InodeReplays: laid · InodeFiles: laid · InodeApplies: laid · InodeDirectories: laid · InodeSteps: laid · InodeCuts: laid · InodeCanonMeans: laid · InodeWrong: laid.
  DERIVED. THE GIVEN ROWS OF THIS SEAT. 8 by the template 'for every input the law returns true; each argument reads behind the call as it read before'; 0 by the template 'total and deterministic' (their statements: YtabebkffcmajkaaDoorTotals.lean).
  GIVEN WITH THE SEED: the statements are not yours to turn. If you find one false, say at which input.
  Laid BY PROGRAM, IN A SANDBOX (cutbox-rows.mjs): the forced cells as the released guide's own fill.sh prints them over the translation 26bec422dbc406f3… (all of the seat's roots in one cut). By AI agents, Wed Nov 11 2026. No macro, syntax, notation, axiom, sorry.
-/
import Derived.Test.YtabebkffcmajkaaDoorChecked
import GoSem.Claim
import GoSem.ClaimJoined
import GoSem.ClaimMapViews
import Derived.JoinedTies
import Derived.KernelRfl
namespace Go.Proofs.YtabebkffcmajkaaDoor
/- THE CELL 'sum', in the pinned program and in every row, IS THE sha256 OF THE DUMP (.gsa) THAT YtabebkffcmajkaaDoorProg.lean LOADS. Nothing in Lean hashes anything: it is a label: what it is worth is what the hold of that sum in a sandbox is worth. -/
noncomputable def Tryd.pinned : Pinned := { name := "ytabebkffcmajkaadoor", sum := "26bec422dbc406f36136198ef88495ac2efabdb50a710793ca7af8d32e936938", checked := Tryd.checked }
namespace Rows
def none {H : Type} : Left H := { results := [], args := [] }

/- WHAT THE LISTED PACKAGE-LEVEL VARIABLES READ AS WHEN THE CALL BEGINS. Each datum BY PROGRAM (the guide's laid-datum.mjs) off the statement by which the dump's own 'gosem.cut.vars' lays the variable. In a bare row this is a premise. The card (YtabebkffcmajkaaDoorCards.lean) ties it to the program's text. -/
def laid_furrow_codec_steps {H : Type} : DataW H := .agg [.lit (.int .u32 0), .lit (.int .u32 498536548), .lit (.int .u32 997073096), .lit (.int .u32 651767980), .lit (.int .u32 1994146192), .lit (.int .u32 1802195444), .lit (.int .u32 1303535960), .lit (.int .u32 1342533948), .lit (.int .u32 3988292384), .lit (.int .u32 4027552580), .lit (.int .u32 3604390888), .lit (.int .u32 3412177804), .lit (.int .u32 2607071920), .lit (.int .u32 2262029012), .lit (.int .u32 2685067896), .lit (.int .u32 3183342108)]

/-- 'furrowlaw09.InodeReplays': WHATEVER THE INPUT: true; the input reads as it did. -/
def inodeReplaysSpec : ChangeSpec := { name := "inodeReplays", fn := fun _ => fun
  | [d1, d2] => { results := [.lit (.bool true)], args := [d1, d2] }
  | _ => none }
def inodeReplaysRow : OpenClaim := { program := "ytabebkffcmajkaadoor", sum := "26bec422dbc406f36136198ef88495ac2efabdb50a710793ca7af8d32e936938", func := "furrow/furrowlaw09.InodeReplays", spec := "inodeReplays", unfollowed := true, recurses := true, named := ["furrow/codec.steps"], plainKeys := false, apart := false, laid := [("furrow/codec.steps", laid_furrow_codec_steps)] }
def InodeReplaysSaid : Prop := inodeReplaysRow.holds Tryd.pinned (OpenSpec.ofChange inodeReplaysSpec)

/-- ITS FALSE NEIGHBOUR: 'it returns false'. Refute it at one input. -/
def inodeReplaysWrong : ChangeSpec := { name := "inodeReplays", fn := fun _ => fun
  | [d1, d2] => { results := [.lit (.bool false)], args := [d1, d2] }
  | _ => none }
def InodeReplaysWrongFalsely : Prop := inodeReplaysRow.holds Tryd.pinned (OpenSpec.ofChange inodeReplaysWrong)

/-- 'furrowlaw09.InodeFiles': WHATEVER THE INPUT: true; the input reads as it did. -/
def inodeFilesSpec : ChangeSpec := { name := "inodeFiles", fn := fun _ => fun
  | [d] => { results := [.lit (.bool true)], args := [d] }
  | _ => none }
def inodeFilesRow : OpenClaim := { program := "ytabebkffcmajkaadoor", sum := "26bec422dbc406f36136198ef88495ac2efabdb50a710793ca7af8d32e936938", func := "furrow/furrowlaw09.InodeFiles", spec := "inodeFiles", unfollowed := true, recurses := true, named := ["furrow/codec.steps"], plainKeys := false, apart := false, laid := [("furrow/codec.steps", laid_furrow_codec_steps)] }
def InodeFilesSaid : Prop := inodeFilesRow.holds Tryd.pinned (OpenSpec.ofChange inodeFilesSpec)

/-- ITS FALSE NEIGHBOUR: 'it returns false'. Refute it at one input. -/
def inodeFilesWrong : ChangeSpec := { name := "inodeFiles", fn := fun _ => fun
  | [d] => { results := [.lit (.bool false)], args := [d] }
  | _ => none }
def InodeFilesWrongFalsely : Prop := inodeFilesRow.holds Tryd.pinned (OpenSpec.ofChange inodeFilesWrong)

/-- 'furrowlaw09.InodeApplies': WHATEVER THE INPUT: true; the input reads as it did. -/
def inodeAppliesSpec : ChangeSpec := { name := "inodeApplies", fn := fun _ => fun
  | [d1, d2] => { results := [.lit (.bool true)], args := [d1, d2] }
  | _ => none }
def inodeAppliesRow : OpenClaim := { program := "ytabebkffcmajkaadoor", sum := "26bec422dbc406f36136198ef88495ac2efabdb50a710793ca7af8d32e936938", func := "furrow/furrowlaw09.InodeApplies", spec := "inodeApplies", unfollowed := true, recurses := true, named := ["furrow/codec.steps"], plainKeys := false, apart := false, laid := [("furrow/codec.steps", laid_furrow_codec_steps)] }
def InodeAppliesSaid : Prop := inodeAppliesRow.holds Tryd.pinned (OpenSpec.ofChange inodeAppliesSpec)

/-- ITS FALSE NEIGHBOUR: 'it returns false'. Refute it at one input. -/
def inodeAppliesWrong : ChangeSpec := { name := "inodeApplies", fn := fun _ => fun
  | [d1, d2] => { results := [.lit (.bool false)], args := [d1, d2] }
  | _ => none }
def InodeAppliesWrongFalsely : Prop := inodeAppliesRow.holds Tryd.pinned (OpenSpec.ofChange inodeAppliesWrong)

/-- 'furrowlaw09.InodeDirectories': WHATEVER THE INPUT: true; the input reads as it did. -/
def inodeDirectoriesSpec : ChangeSpec := { name := "inodeDirectories", fn := fun _ => fun
  | [d1, d2] => { results := [.lit (.bool true)], args := [d1, d2] }
  | _ => none }
def inodeDirectoriesRow : OpenClaim := { program := "ytabebkffcmajkaadoor", sum := "26bec422dbc406f36136198ef88495ac2efabdb50a710793ca7af8d32e936938", func := "furrow/furrowlaw09.InodeDirectories", spec := "inodeDirectories", unfollowed := true, recurses := true, named := ["furrow/codec.steps"], plainKeys := false, apart := false, laid := [("furrow/codec.steps", laid_furrow_codec_steps)] }
def InodeDirectoriesSaid : Prop := inodeDirectoriesRow.holds Tryd.pinned (OpenSpec.ofChange inodeDirectoriesSpec)

/-- ITS FALSE NEIGHBOUR: 'it returns false'. Refute it at one input. -/
def inodeDirectoriesWrong : ChangeSpec := { name := "inodeDirectories", fn := fun _ => fun
  | [d1, d2] => { results := [.lit (.bool false)], args := [d1, d2] }
  | _ => none }
def InodeDirectoriesWrongFalsely : Prop := inodeDirectoriesRow.holds Tryd.pinned (OpenSpec.ofChange inodeDirectoriesWrong)

/-- 'furrowlaw09.InodeSteps': WHATEVER THE INPUT: true; the input reads as it did. -/
def inodeStepsSpec : ChangeSpec := { name := "inodeSteps", fn := fun _ => fun
  | [d1, d2, d3, d4] => { results := [.lit (.bool true)], args := [d1, d2, d3, d4] }
  | _ => none }
def inodeStepsRow : OpenClaim := { program := "ytabebkffcmajkaadoor", sum := "26bec422dbc406f36136198ef88495ac2efabdb50a710793ca7af8d32e936938", func := "furrow/furrowlaw09.InodeSteps", spec := "inodeSteps", unfollowed := true, recurses := true, named := ["furrow/codec.steps"], plainKeys := false, apart := false, laid := [("furrow/codec.steps", laid_furrow_codec_steps)] }
def InodeStepsSaid : Prop := inodeStepsRow.holds Tryd.pinned (OpenSpec.ofChange inodeStepsSpec)

/-- ITS FALSE NEIGHBOUR: 'it returns false'. Refute it at one input. -/
def inodeStepsWrong : ChangeSpec := { name := "inodeSteps", fn := fun _ => fun
  | [d1, d2, d3, d4] => { results := [.lit (.bool false)], args := [d1, d2, d3, d4] }
  | _ => none }
def InodeStepsWrongFalsely : Prop := inodeStepsRow.holds Tryd.pinned (OpenSpec.ofChange inodeStepsWrong)

/-- 'furrowlaw09.InodeCuts': WHATEVER THE INPUT: true; the input reads as it did. -/
def inodeCutsSpec : ChangeSpec := { name := "inodeCuts", fn := fun _ => fun
  | [d1, d2, d3] => { results := [.lit (.bool true)], args := [d1, d2, d3] }
  | _ => none }
def inodeCutsRow : OpenClaim := { program := "ytabebkffcmajkaadoor", sum := "26bec422dbc406f36136198ef88495ac2efabdb50a710793ca7af8d32e936938", func := "furrow/furrowlaw09.InodeCuts", spec := "inodeCuts", unfollowed := true, recurses := true, named := ["furrow/codec.steps"], plainKeys := false, apart := false, laid := [("furrow/codec.steps", laid_furrow_codec_steps)] }
def InodeCutsSaid : Prop := inodeCutsRow.holds Tryd.pinned (OpenSpec.ofChange inodeCutsSpec)

/-- ITS FALSE NEIGHBOUR: 'it returns false'. Refute it at one input. -/
def inodeCutsWrong : ChangeSpec := { name := "inodeCuts", fn := fun _ => fun
  | [d1, d2, d3] => { results := [.lit (.bool false)], args := [d1, d2, d3] }
  | _ => none }
def InodeCutsWrongFalsely : Prop := inodeCutsRow.holds Tryd.pinned (OpenSpec.ofChange inodeCutsWrong)

/-- 'furrowlaw09.InodeCanonMeans': WHATEVER THE INPUT: true; the input reads as it did. -/
def inodeCanonMeansSpec : ChangeSpec := { name := "inodeCanonMeans", fn := fun _ => fun
  | [d1, d2] => { results := [.lit (.bool true)], args := [d1, d2] }
  | _ => none }
def inodeCanonMeansRow : OpenClaim := { program := "ytabebkffcmajkaadoor", sum := "26bec422dbc406f36136198ef88495ac2efabdb50a710793ca7af8d32e936938", func := "furrow/furrowlaw09.InodeCanonMeans", spec := "inodeCanonMeans", unfollowed := true, recurses := true, named := ["furrow/codec.steps"], plainKeys := false, apart := false, laid := [("furrow/codec.steps", laid_furrow_codec_steps)] }
def InodeCanonMeansSaid : Prop := inodeCanonMeansRow.holds Tryd.pinned (OpenSpec.ofChange inodeCanonMeansSpec)

/-- ITS FALSE NEIGHBOUR: 'it returns false'. Refute it at one input. -/
def inodeCanonMeansWrong : ChangeSpec := { name := "inodeCanonMeans", fn := fun _ => fun
  | [d1, d2] => { results := [.lit (.bool false)], args := [d1, d2] }
  | _ => none }
def InodeCanonMeansWrongFalsely : Prop := inodeCanonMeansRow.holds Tryd.pinned (OpenSpec.ofChange inodeCanonMeansWrong)

/-- 'furrowlaw09.InodeWrong': WHATEVER THE INPUT: true; the input reads as it did. -/
def inodeWrongSpec : ChangeSpec := { name := "inodeWrong", fn := fun _ => fun
  | [d1, d2, d3] => { results := [.lit (.bool true)], args := [d1, d2, d3] }
  | _ => none }
def inodeWrongRow : OpenClaim := { program := "ytabebkffcmajkaadoor", sum := "26bec422dbc406f36136198ef88495ac2efabdb50a710793ca7af8d32e936938", func := "furrow/furrowlaw09.InodeWrong", spec := "inodeWrong", unfollowed := true, recurses := true, named := ["furrow/codec.steps"], plainKeys := false, apart := false, laid := [("furrow/codec.steps", laid_furrow_codec_steps)] }
def InodeWrongSaid : Prop := inodeWrongRow.holds Tryd.pinned (OpenSpec.ofChange inodeWrongSpec)

/-- ITS FALSE NEIGHBOUR: 'it returns false'. Refute it at one input. -/
def inodeWrongWrong : ChangeSpec := { name := "inodeWrong", fn := fun _ => fun
  | [d1, d2, d3] => { results := [.lit (.bool false)], args := [d1, d2, d3] }
  | _ => none }
def InodeWrongWrongFalsely : Prop := inodeWrongRow.holds Tryd.pinned (OpenSpec.ofChange inodeWrongWrong)

/- THE SECOND FORM. 'bulk': how many values and letters a reading holds, each counted each time it is reached (what is shared counts as often as it is met; a slice's spare places count too). A statement '..UptoSaid' is the law's where the arguments, and the package variables that the reading takes, are together of bulk at most 1048576: NARROWER than '..Said'. Prove '..Said' where nothing that the law and all that it calls make is longer than what came in: it says more and counts as full. Else prove '..UptoSaid'. A law counts once. -/
mutual
def uptoBulk {H : Type} : DataW H → Nat
  | .lit (.string bytes) => bytes.length + 1
  | .lit _ => 1
  | .nil => 1
  | .ptr d => uptoBulk d + 1
  | .slice elems spare => uptoBulkAll elems + uptoBulkAll spare + 1
  | .agg parts => uptoBulkAll parts + 1
  | .iface _ d => uptoBulk d + 1
  | .map entries => uptoBulkEntries entries + 1
  | .held _ => 1
def uptoBulkAll {H : Type} : List (DataW H) → Nat
  | [] => 0
  | d :: r => uptoBulk d + uptoBulkAll r
def uptoBulkEntries {H : Type} : List (Lit × DataW H) → Nat
  | [] => 0
  | x :: r => uptoBulkEntry x + uptoBulkEntries r
def uptoBulkEntry {H : Type} : Lit × DataW H → Nat
  | (.string bytes, d) => bytes.length + uptoBulk d + 1
  | (_, d) => uptoBulk d + 1
 end
def uptoSmall : (H : Type) → List (DataW H) → Bool := fun _ ds => decide (uptoBulkAll ds ≤ 1048576)
def OpenSpec.upto (s : _root_.Go.ChangeSpec) : _root_.Go.OpenSpec := { _root_.Go.OpenSpec.ofChange s with cond := some uptoSmall }

/-- 'furrowlaw09.InodeReplays', WHERE WHAT IT READS IS OF BULK AT MOST 1048576: true; the input reads as it did. -/
def inodeReplaysUptoRow : OpenClaim := { program := "ytabebkffcmajkaadoor", sum := "26bec422dbc406f36136198ef88495ac2efabdb50a710793ca7af8d32e936938", func := "furrow/furrowlaw09.InodeReplays", spec := "inodeReplays", unfollowed := true, recurses := true, named := ["furrow/codec.steps"], plainKeys := false, apart := false, laid := [("furrow/codec.steps", laid_furrow_codec_steps)], narrowed := true }
def InodeReplaysUptoSaid : Prop := inodeReplaysUptoRow.holds Tryd.pinned (OpenSpec.upto inodeReplaysSpec)

/-- 'furrowlaw09.InodeFiles', WHERE WHAT IT READS IS OF BULK AT MOST 1048576: true; the input reads as it did. -/
def inodeFilesUptoRow : OpenClaim := { program := "ytabebkffcmajkaadoor", sum := "26bec422dbc406f36136198ef88495ac2efabdb50a710793ca7af8d32e936938", func := "furrow/furrowlaw09.InodeFiles", spec := "inodeFiles", unfollowed := true, recurses := true, named := ["furrow/codec.steps"], plainKeys := false, apart := false, laid := [("furrow/codec.steps", laid_furrow_codec_steps)], narrowed := true }
def InodeFilesUptoSaid : Prop := inodeFilesUptoRow.holds Tryd.pinned (OpenSpec.upto inodeFilesSpec)

/-- 'furrowlaw09.InodeApplies', WHERE WHAT IT READS IS OF BULK AT MOST 1048576: true; the input reads as it did. -/
def inodeAppliesUptoRow : OpenClaim := { program := "ytabebkffcmajkaadoor", sum := "26bec422dbc406f36136198ef88495ac2efabdb50a710793ca7af8d32e936938", func := "furrow/furrowlaw09.InodeApplies", spec := "inodeApplies", unfollowed := true, recurses := true, named := ["furrow/codec.steps"], plainKeys := false, apart := false, laid := [("furrow/codec.steps", laid_furrow_codec_steps)], narrowed := true }
def InodeAppliesUptoSaid : Prop := inodeAppliesUptoRow.holds Tryd.pinned (OpenSpec.upto inodeAppliesSpec)

/-- 'furrowlaw09.InodeDirectories', WHERE WHAT IT READS IS OF BULK AT MOST 1048576: true; the input reads as it did. -/
def inodeDirectoriesUptoRow : OpenClaim := { program := "ytabebkffcmajkaadoor", sum := "26bec422dbc406f36136198ef88495ac2efabdb50a710793ca7af8d32e936938", func := "furrow/furrowlaw09.InodeDirectories", spec := "inodeDirectories", unfollowed := true, recurses := true, named := ["furrow/codec.steps"], plainKeys := false, apart := false, laid := [("furrow/codec.steps", laid_furrow_codec_steps)], narrowed := true }
def InodeDirectoriesUptoSaid : Prop := inodeDirectoriesUptoRow.holds Tryd.pinned (OpenSpec.upto inodeDirectoriesSpec)

/-- 'furrowlaw09.InodeSteps', WHERE WHAT IT READS IS OF BULK AT MOST 1048576: true; the input reads as it did. -/
def inodeStepsUptoRow : OpenClaim := { program := "ytabebkffcmajkaadoor", sum := "26bec422dbc406f36136198ef88495ac2efabdb50a710793ca7af8d32e936938", func := "furrow/furrowlaw09.InodeSteps", spec := "inodeSteps", unfollowed := true, recurses := true, named := ["furrow/codec.steps"], plainKeys := false, apart := false, laid := [("furrow/codec.steps", laid_furrow_codec_steps)], narrowed := true }
def InodeStepsUptoSaid : Prop := inodeStepsUptoRow.holds Tryd.pinned (OpenSpec.upto inodeStepsSpec)

/-- 'furrowlaw09.InodeCuts', WHERE WHAT IT READS IS OF BULK AT MOST 1048576: true; the input reads as it did. -/
def inodeCutsUptoRow : OpenClaim := { program := "ytabebkffcmajkaadoor", sum := "26bec422dbc406f36136198ef88495ac2efabdb50a710793ca7af8d32e936938", func := "furrow/furrowlaw09.InodeCuts", spec := "inodeCuts", unfollowed := true, recurses := true, named := ["furrow/codec.steps"], plainKeys := false, apart := false, laid := [("furrow/codec.steps", laid_furrow_codec_steps)], narrowed := true }
def InodeCutsUptoSaid : Prop := inodeCutsUptoRow.holds Tryd.pinned (OpenSpec.upto inodeCutsSpec)

/-- 'furrowlaw09.InodeCanonMeans', WHERE WHAT IT READS IS OF BULK AT MOST 1048576: true; the input reads as it did. -/
def inodeCanonMeansUptoRow : OpenClaim := { program := "ytabebkffcmajkaadoor", sum := "26bec422dbc406f36136198ef88495ac2efabdb50a710793ca7af8d32e936938", func := "furrow/furrowlaw09.InodeCanonMeans", spec := "inodeCanonMeans", unfollowed := true, recurses := true, named := ["furrow/codec.steps"], plainKeys := false, apart := false, laid := [("furrow/codec.steps", laid_furrow_codec_steps)], narrowed := true }
def InodeCanonMeansUptoSaid : Prop := inodeCanonMeansUptoRow.holds Tryd.pinned (OpenSpec.upto inodeCanonMeansSpec)

/-- 'furrowlaw09.InodeWrong', WHERE WHAT IT READS IS OF BULK AT MOST 1048576: true; the input reads as it did. -/
def inodeWrongUptoRow : OpenClaim := { program := "ytabebkffcmajkaadoor", sum := "26bec422dbc406f36136198ef88495ac2efabdb50a710793ca7af8d32e936938", func := "furrow/furrowlaw09.InodeWrong", spec := "inodeWrong", unfollowed := true, recurses := true, named := ["furrow/codec.steps"], plainKeys := false, apart := false, laid := [("furrow/codec.steps", laid_furrow_codec_steps)], narrowed := true }
def InodeWrongUptoSaid : Prop := inodeWrongUptoRow.holds Tryd.pinned (OpenSpec.upto inodeWrongSpec)

end Rows
end Go.Proofs.YtabebkffcmajkaaDoor
