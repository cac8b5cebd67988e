/-
  No cell of these rows narrows 'for every input' (looked for: loops, veiled, ifaces, maps, wideKeys, modest, calm, conditions, laid).
  DERIVED. THE GIVEN ROWS OF THIS SEAT. 11 by the template 'for every input the law returns true; each argument reads behind the call as it read before'; 0 by the template 'total and deterministic' (their statements: YtmamdacmpikdbaaTotals.lean).
  GIVEN WITH THE SEED: the statements are not yours to turn. If you find one false, say at which input.
  Laid BY PROGRAM, IN A SANDBOX (cutbox-rows.mjs): the forced cells as the released guide's own fill.sh prints them over the translation 35aaa6ad7036e831… (all of the seat's roots in one cut). By AI agents, Wed Nov 11 2026. No macro, syntax, notation, axiom, sorry.
-/
import Derived.Test.YtmamdacmpikdbaaChecked
import GoSem.Claim
import GoSem.ClaimJoined
import GoSem.ClaimMapViews
import Derived.JoinedTies
import Derived.KernelRfl
namespace Go.Proofs.Ytmamdacmpikdbaa
/- THE CELL 'sum', in the pinned program and in every row, IS THE sha256 OF THE DUMP (.gsa) THAT YtmamdacmpikdbaaProg.lean LOADS. Nothing in Lean hashes anything: it is a label: what it is worth is what the hold of that sum in a sandbox is worth. -/
noncomputable def Try.pinned : Pinned := { name := "ytmamdacmpikdbaa", sum := "35aaa6ad7036e8317821716c6577eaae1a3375fb0cf3a803b612b2003bef1a29", checked := Try.checked }
namespace Rows
def none {H : Type} : Left H := { results := [], args := [] }

/-- 'furrowlaw08.NamesNumbers': WHATEVER THE INPUT: true; the input reads as it did. -/
def namesNumbersSpec : ChangeSpec := { name := "namesNumbers", fn := fun _ => fun
  | [] => { results := [.lit (.bool true)], args := [] }
  | _ => none }
def namesNumbersRow : OpenClaim := { program := "ytmamdacmpikdbaa", sum := "35aaa6ad7036e8317821716c6577eaae1a3375fb0cf3a803b612b2003bef1a29", func := "furrow/furrowlaw08.NamesNumbers", spec := "namesNumbers", unfollowed := true, recurses := true, plainKeys := false, apart := false }
def NamesNumbersSaid : Prop := namesNumbersRow.holds Try.pinned (OpenSpec.ofChange namesNumbersSpec)

/-- ITS FALSE NEIGHBOUR: 'it returns false'. Refute it at one input. -/
def namesNumbersWrong : ChangeSpec := { name := "namesNumbers", fn := fun _ => fun
  | [] => { results := [.lit (.bool false)], args := [] }
  | _ => none }
def NamesNumbersWrongFalsely : Prop := namesNumbersRow.holds Try.pinned (OpenSpec.ofChange namesNumbersWrong)

/-- 'furrowlaw08.NamesKept': WHATEVER THE INPUT: true; the input reads as it did. -/
def namesKeptSpec : ChangeSpec := { name := "namesKept", fn := fun _ => fun
  | [d1, d2, d3, d4] => { results := [.lit (.bool true)], args := [d1, d2, d3, d4] }
  | _ => none }
def namesKeptRow : OpenClaim := { program := "ytmamdacmpikdbaa", sum := "35aaa6ad7036e8317821716c6577eaae1a3375fb0cf3a803b612b2003bef1a29", func := "furrow/furrowlaw08.NamesKept", spec := "namesKept", unfollowed := true, recurses := true, plainKeys := false, apart := false }
def NamesKeptSaid : Prop := namesKeptRow.holds Try.pinned (OpenSpec.ofChange namesKeptSpec)

/-- ITS FALSE NEIGHBOUR: 'it returns false'. Refute it at one input. -/
def namesKeptWrong : ChangeSpec := { name := "namesKept", fn := fun _ => fun
  | [d1, d2, d3, d4] => { results := [.lit (.bool false)], args := [d1, d2, d3, d4] }
  | _ => none }
def NamesKeptWrongFalsely : Prop := namesKeptRow.holds Try.pinned (OpenSpec.ofChange namesKeptWrong)

/-- 'furrowlaw08.NamesRise': WHATEVER THE INPUT: true; the input reads as it did. -/
def namesRiseSpec : ChangeSpec := { name := "namesRise", fn := fun _ => fun
  | [d] => { results := [.lit (.bool true)], args := [d] }
  | _ => none }
def namesRiseRow : OpenClaim := { program := "ytmamdacmpikdbaa", sum := "35aaa6ad7036e8317821716c6577eaae1a3375fb0cf3a803b612b2003bef1a29", func := "furrow/furrowlaw08.NamesRise", spec := "namesRise", unfollowed := true, recurses := true, plainKeys := false, apart := false }
def NamesRiseSaid : Prop := namesRiseRow.holds Try.pinned (OpenSpec.ofChange namesRiseSpec)

/-- ITS FALSE NEIGHBOUR: 'it returns false'. Refute it at one input. -/
def namesRiseWrong : ChangeSpec := { name := "namesRise", fn := fun _ => fun
  | [d] => { results := [.lit (.bool false)], args := [d] }
  | _ => none }
def NamesRiseWrongFalsely : Prop := namesRiseRow.holds Try.pinned (OpenSpec.ofChange namesRiseWrong)

/-- 'furrowlaw08.NamesOrder': WHATEVER THE INPUT: true; the input reads as it did. -/
def namesOrderSpec : ChangeSpec := { name := "namesOrder", fn := fun _ => fun
  | [d] => { results := [.lit (.bool true)], args := [d] }
  | _ => none }
def namesOrderRow : OpenClaim := { program := "ytmamdacmpikdbaa", sum := "35aaa6ad7036e8317821716c6577eaae1a3375fb0cf3a803b612b2003bef1a29", func := "furrow/furrowlaw08.NamesOrder", spec := "namesOrder", unfollowed := true, recurses := true, plainKeys := false, apart := false }
def NamesOrderSaid : Prop := namesOrderRow.holds Try.pinned (OpenSpec.ofChange namesOrderSpec)

/-- ITS FALSE NEIGHBOUR: 'it returns false'. Refute it at one input. -/
def namesOrderWrong : ChangeSpec := { name := "namesOrder", fn := fun _ => fun
  | [d] => { results := [.lit (.bool false)], args := [d] }
  | _ => none }
def NamesOrderWrongFalsely : Prop := namesOrderRow.holds Try.pinned (OpenSpec.ofChange namesOrderWrong)

/-- 'furrowlaw08.NamesStops': WHATEVER THE INPUT: true; the input reads as it did. -/
def namesStopsSpec : ChangeSpec := { name := "namesStops", fn := fun _ => fun
  | [d1, d2, d3] => { results := [.lit (.bool true)], args := [d1, d2, d3] }
  | _ => none }
def namesStopsRow : OpenClaim := { program := "ytmamdacmpikdbaa", sum := "35aaa6ad7036e8317821716c6577eaae1a3375fb0cf3a803b612b2003bef1a29", func := "furrow/furrowlaw08.NamesStops", spec := "namesStops", unfollowed := true, recurses := true, plainKeys := false, apart := false }
def NamesStopsSaid : Prop := namesStopsRow.holds Try.pinned (OpenSpec.ofChange namesStopsSpec)

/-- ITS FALSE NEIGHBOUR: 'it returns false'. Refute it at one input. -/
def namesStopsWrong : ChangeSpec := { name := "namesStops", fn := fun _ => fun
  | [d1, d2, d3] => { results := [.lit (.bool false)], args := [d1, d2, d3] }
  | _ => none }
def NamesStopsWrongFalsely : Prop := namesStopsRow.holds Try.pinned (OpenSpec.ofChange namesStopsWrong)

/-- 'furrowlaw08.NamesLate': WHATEVER THE INPUT: true; the input reads as it did. -/
def namesLateSpec : ChangeSpec := { name := "namesLate", fn := fun _ => fun
  | [d1, d2, d3, d4] => { results := [.lit (.bool true)], args := [d1, d2, d3, d4] }
  | _ => none }
def namesLateRow : OpenClaim := { program := "ytmamdacmpikdbaa", sum := "35aaa6ad7036e8317821716c6577eaae1a3375fb0cf3a803b612b2003bef1a29", func := "furrow/furrowlaw08.NamesLate", spec := "namesLate", unfollowed := true, recurses := true, plainKeys := false, apart := false }
def NamesLateSaid : Prop := namesLateRow.holds Try.pinned (OpenSpec.ofChange namesLateSpec)

/-- ITS FALSE NEIGHBOUR: 'it returns false'. Refute it at one input. -/
def namesLateWrong : ChangeSpec := { name := "namesLate", fn := fun _ => fun
  | [d1, d2, d3, d4] => { results := [.lit (.bool false)], args := [d1, d2, d3, d4] }
  | _ => none }
def NamesLateWrongFalsely : Prop := namesLateRow.holds Try.pinned (OpenSpec.ofChange namesLateWrong)

/-- 'furrowlaw08.NamesClears': WHATEVER THE INPUT: true; the input reads as it did. -/
def namesClearsSpec : ChangeSpec := { name := "namesClears", fn := fun _ => fun
  | [d1, d2] => { results := [.lit (.bool true)], args := [d1, d2] }
  | _ => none }
def namesClearsRow : OpenClaim := { program := "ytmamdacmpikdbaa", sum := "35aaa6ad7036e8317821716c6577eaae1a3375fb0cf3a803b612b2003bef1a29", func := "furrow/furrowlaw08.NamesClears", spec := "namesClears", unfollowed := true, recurses := true, plainKeys := false, apart := false }
def NamesClearsSaid : Prop := namesClearsRow.holds Try.pinned (OpenSpec.ofChange namesClearsSpec)

/-- ITS FALSE NEIGHBOUR: 'it returns false'. Refute it at one input. -/
def namesClearsWrong : ChangeSpec := { name := "namesClears", fn := fun _ => fun
  | [d1, d2] => { results := [.lit (.bool false)], args := [d1, d2] }
  | _ => none }
def NamesClearsWrongFalsely : Prop := namesClearsRow.holds Try.pinned (OpenSpec.ofChange namesClearsWrong)

/-- 'furrowlaw08.NamesApart': WHATEVER THE INPUT: true; the input reads as it did. -/
def namesApartSpec : ChangeSpec := { name := "namesApart", fn := fun _ => fun
  | [d1, d2, d3] => { results := [.lit (.bool true)], args := [d1, d2, d3] }
  | _ => none }
def namesApartRow : OpenClaim := { program := "ytmamdacmpikdbaa", sum := "35aaa6ad7036e8317821716c6577eaae1a3375fb0cf3a803b612b2003bef1a29", func := "furrow/furrowlaw08.NamesApart", spec := "namesApart", unfollowed := true, recurses := true, plainKeys := false, apart := false }
def NamesApartSaid : Prop := namesApartRow.holds Try.pinned (OpenSpec.ofChange namesApartSpec)

/-- ITS FALSE NEIGHBOUR: 'it returns false'. Refute it at one input. -/
def namesApartWrong : ChangeSpec := { name := "namesApart", fn := fun _ => fun
  | [d1, d2, d3] => { results := [.lit (.bool false)], args := [d1, d2, d3] }
  | _ => none }
def NamesApartWrongFalsely : Prop := namesApartRow.holds Try.pinned (OpenSpec.ofChange namesApartWrong)

/-- 'furrowlaw08.NamesMoves': WHATEVER THE INPUT: true; the input reads as it did. -/
def namesMovesSpec : ChangeSpec := { name := "namesMoves", fn := fun _ => fun
  | [d] => { results := [.lit (.bool true)], args := [d] }
  | _ => none }
def namesMovesRow : OpenClaim := { program := "ytmamdacmpikdbaa", sum := "35aaa6ad7036e8317821716c6577eaae1a3375fb0cf3a803b612b2003bef1a29", func := "furrow/furrowlaw08.NamesMoves", spec := "namesMoves", unfollowed := true, recurses := true, plainKeys := false, apart := false }
def NamesMovesSaid : Prop := namesMovesRow.holds Try.pinned (OpenSpec.ofChange namesMovesSpec)

/-- ITS FALSE NEIGHBOUR: 'it returns false'. Refute it at one input. -/
def namesMovesWrong : ChangeSpec := { name := "namesMoves", fn := fun _ => fun
  | [d] => { results := [.lit (.bool false)], args := [d] }
  | _ => none }
def NamesMovesWrongFalsely : Prop := namesMovesRow.holds Try.pinned (OpenSpec.ofChange namesMovesWrong)

/-- 'furrowlaw08.NamesLists': WHATEVER THE INPUT: true; the input reads as it did. -/
def namesListsSpec : ChangeSpec := { name := "namesLists", fn := fun _ => fun
  | [d] => { results := [.lit (.bool true)], args := [d] }
  | _ => none }
def namesListsRow : OpenClaim := { program := "ytmamdacmpikdbaa", sum := "35aaa6ad7036e8317821716c6577eaae1a3375fb0cf3a803b612b2003bef1a29", func := "furrow/furrowlaw08.NamesLists", spec := "namesLists", unfollowed := true, recurses := true, plainKeys := false, apart := false }
def NamesListsSaid : Prop := namesListsRow.holds Try.pinned (OpenSpec.ofChange namesListsSpec)

/-- ITS FALSE NEIGHBOUR: 'it returns false'. Refute it at one input. -/
def namesListsWrong : ChangeSpec := { name := "namesLists", fn := fun _ => fun
  | [d] => { results := [.lit (.bool false)], args := [d] }
  | _ => none }
def NamesListsWrongFalsely : Prop := namesListsRow.holds Try.pinned (OpenSpec.ofChange namesListsWrong)

/-- 'furrowlaw08.NamesAll': WHATEVER THE INPUT: true; the input reads as it did. -/
def namesAllSpec : ChangeSpec := { name := "namesAll", fn := fun _ => fun
  | [d] => { results := [.lit (.bool true)], args := [d] }
  | _ => none }
def namesAllRow : OpenClaim := { program := "ytmamdacmpikdbaa", sum := "35aaa6ad7036e8317821716c6577eaae1a3375fb0cf3a803b612b2003bef1a29", func := "furrow/furrowlaw08.NamesAll", spec := "namesAll", unfollowed := true, recurses := true, plainKeys := false, apart := false }
def NamesAllSaid : Prop := namesAllRow.holds Try.pinned (OpenSpec.ofChange namesAllSpec)

/-- ITS FALSE NEIGHBOUR: 'it returns false'. Refute it at one input. -/
def namesAllWrong : ChangeSpec := { name := "namesAll", fn := fun _ => fun
  | [d] => { results := [.lit (.bool false)], args := [d] }
  | _ => none }
def NamesAllWrongFalsely : Prop := namesAllRow.holds Try.pinned (OpenSpec.ofChange namesAllWrong)

/- THE SECOND FORM. 'bulk': how many values and letters a reading holds, each counted each time it is reached (what is shared counts as often as it is met; a slice's spare places count too). A statement '..UptoSaid' is the law's where the arguments, and the package variables that the reading takes, are together of bulk at most 1048576: NARROWER than '..Said'. Prove '..Said' where nothing that the law and all that it calls make is longer than what came in: it says more and counts as full. Else prove '..UptoSaid'. A law counts once. -/
mutual
def uptoBulk {H : Type} : DataW H → Nat
  | .lit (.string bytes) => bytes.length + 1
  | .lit _ => 1
  | .nil => 1
  | .ptr d => uptoBulk d + 1
  | .slice elems spare => uptoBulkAll elems + uptoBulkAll spare + 1
  | .agg parts => uptoBulkAll parts + 1
  | .iface _ d => uptoBulk d + 1
  | .map entries => uptoBulkEntries entries + 1
  | .held _ => 1
def uptoBulkAll {H : Type} : List (DataW H) → Nat
  | [] => 0
  | d :: r => uptoBulk d + uptoBulkAll r
def uptoBulkEntries {H : Type} : List (Lit × DataW H) → Nat
  | [] => 0
  | x :: r => uptoBulkEntry x + uptoBulkEntries r
def uptoBulkEntry {H : Type} : Lit × DataW H → Nat
  | (.string bytes, d) => bytes.length + uptoBulk d + 1
  | (_, d) => uptoBulk d + 1
 end
def uptoSmall : (H : Type) → List (DataW H) → Bool := fun _ ds => decide (uptoBulkAll ds ≤ 1048576)
def OpenSpec.upto (s : _root_.Go.ChangeSpec) : _root_.Go.OpenSpec := { _root_.Go.OpenSpec.ofChange s with cond := some uptoSmall }

/-- 'furrowlaw08.NamesNumbers', WHERE WHAT IT READS IS OF BULK AT MOST 1048576: true; the input reads as it did. -/
def namesNumbersUptoRow : OpenClaim := { program := "ytmamdacmpikdbaa", sum := "35aaa6ad7036e8317821716c6577eaae1a3375fb0cf3a803b612b2003bef1a29", func := "furrow/furrowlaw08.NamesNumbers", spec := "namesNumbers", unfollowed := true, recurses := true, plainKeys := false, apart := false, narrowed := true }
def NamesNumbersUptoSaid : Prop := namesNumbersUptoRow.holds Try.pinned (OpenSpec.upto namesNumbersSpec)

/-- 'furrowlaw08.NamesKept', WHERE WHAT IT READS IS OF BULK AT MOST 1048576: true; the input reads as it did. -/
def namesKeptUptoRow : OpenClaim := { program := "ytmamdacmpikdbaa", sum := "35aaa6ad7036e8317821716c6577eaae1a3375fb0cf3a803b612b2003bef1a29", func := "furrow/furrowlaw08.NamesKept", spec := "namesKept", unfollowed := true, recurses := true, plainKeys := false, apart := false, narrowed := true }
def NamesKeptUptoSaid : Prop := namesKeptUptoRow.holds Try.pinned (OpenSpec.upto namesKeptSpec)

/-- 'furrowlaw08.NamesRise', WHERE WHAT IT READS IS OF BULK AT MOST 1048576: true; the input reads as it did. -/
def namesRiseUptoRow : OpenClaim := { program := "ytmamdacmpikdbaa", sum := "35aaa6ad7036e8317821716c6577eaae1a3375fb0cf3a803b612b2003bef1a29", func := "furrow/furrowlaw08.NamesRise", spec := "namesRise", unfollowed := true, recurses := true, plainKeys := false, apart := false, narrowed := true }
def NamesRiseUptoSaid : Prop := namesRiseUptoRow.holds Try.pinned (OpenSpec.upto namesRiseSpec)

/-- 'furrowlaw08.NamesOrder', WHERE WHAT IT READS IS OF BULK AT MOST 1048576: true; the input reads as it did. -/
def namesOrderUptoRow : OpenClaim := { program := "ytmamdacmpikdbaa", sum := "35aaa6ad7036e8317821716c6577eaae1a3375fb0cf3a803b612b2003bef1a29", func := "furrow/furrowlaw08.NamesOrder", spec := "namesOrder", unfollowed := true, recurses := true, plainKeys := false, apart := false, narrowed := true }
def NamesOrderUptoSaid : Prop := namesOrderUptoRow.holds Try.pinned (OpenSpec.upto namesOrderSpec)

/-- 'furrowlaw08.NamesStops', WHERE WHAT IT READS IS OF BULK AT MOST 1048576: true; the input reads as it did. -/
def namesStopsUptoRow : OpenClaim := { program := "ytmamdacmpikdbaa", sum := "35aaa6ad7036e8317821716c6577eaae1a3375fb0cf3a803b612b2003bef1a29", func := "furrow/furrowlaw08.NamesStops", spec := "namesStops", unfollowed := true, recurses := true, plainKeys := false, apart := false, narrowed := true }
def NamesStopsUptoSaid : Prop := namesStopsUptoRow.holds Try.pinned (OpenSpec.upto namesStopsSpec)

/-- 'furrowlaw08.NamesLate', WHERE WHAT IT READS IS OF BULK AT MOST 1048576: true; the input reads as it did. -/
def namesLateUptoRow : OpenClaim := { program := "ytmamdacmpikdbaa", sum := "35aaa6ad7036e8317821716c6577eaae1a3375fb0cf3a803b612b2003bef1a29", func := "furrow/furrowlaw08.NamesLate", spec := "namesLate", unfollowed := true, recurses := true, plainKeys := false, apart := false, narrowed := true }
def NamesLateUptoSaid : Prop := namesLateUptoRow.holds Try.pinned (OpenSpec.upto namesLateSpec)

/-- 'furrowlaw08.NamesClears', WHERE WHAT IT READS IS OF BULK AT MOST 1048576: true; the input reads as it did. -/
def namesClearsUptoRow : OpenClaim := { program := "ytmamdacmpikdbaa", sum := "35aaa6ad7036e8317821716c6577eaae1a3375fb0cf3a803b612b2003bef1a29", func := "furrow/furrowlaw08.NamesClears", spec := "namesClears", unfollowed := true, recurses := true, plainKeys := false, apart := false, narrowed := true }
def NamesClearsUptoSaid : Prop := namesClearsUptoRow.holds Try.pinned (OpenSpec.upto namesClearsSpec)

/-- 'furrowlaw08.NamesApart', WHERE WHAT IT READS IS OF BULK AT MOST 1048576: true; the input reads as it did. -/
def namesApartUptoRow : OpenClaim := { program := "ytmamdacmpikdbaa", sum := "35aaa6ad7036e8317821716c6577eaae1a3375fb0cf3a803b612b2003bef1a29", func := "furrow/furrowlaw08.NamesApart", spec := "namesApart", unfollowed := true, recurses := true, plainKeys := false, apart := false, narrowed := true }
def NamesApartUptoSaid : Prop := namesApartUptoRow.holds Try.pinned (OpenSpec.upto namesApartSpec)

/-- 'furrowlaw08.NamesMoves', WHERE WHAT IT READS IS OF BULK AT MOST 1048576: true; the input reads as it did. -/
def namesMovesUptoRow : OpenClaim := { program := "ytmamdacmpikdbaa", sum := "35aaa6ad7036e8317821716c6577eaae1a3375fb0cf3a803b612b2003bef1a29", func := "furrow/furrowlaw08.NamesMoves", spec := "namesMoves", unfollowed := true, recurses := true, plainKeys := false, apart := false, narrowed := true }
def NamesMovesUptoSaid : Prop := namesMovesUptoRow.holds Try.pinned (OpenSpec.upto namesMovesSpec)

/-- 'furrowlaw08.NamesLists', WHERE WHAT IT READS IS OF BULK AT MOST 1048576: true; the input reads as it did. -/
def namesListsUptoRow : OpenClaim := { program := "ytmamdacmpikdbaa", sum := "35aaa6ad7036e8317821716c6577eaae1a3375fb0cf3a803b612b2003bef1a29", func := "furrow/furrowlaw08.NamesLists", spec := "namesLists", unfollowed := true, recurses := true, plainKeys := false, apart := false, narrowed := true }
def NamesListsUptoSaid : Prop := namesListsUptoRow.holds Try.pinned (OpenSpec.upto namesListsSpec)

/-- 'furrowlaw08.NamesAll', WHERE WHAT IT READS IS OF BULK AT MOST 1048576: true; the input reads as it did. -/
def namesAllUptoRow : OpenClaim := { program := "ytmamdacmpikdbaa", sum := "35aaa6ad7036e8317821716c6577eaae1a3375fb0cf3a803b612b2003bef1a29", func := "furrow/furrowlaw08.NamesAll", spec := "namesAll", unfollowed := true, recurses := true, plainKeys := false, apart := false, narrowed := true }
def NamesAllUptoSaid : Prop := namesAllUptoRow.holds Try.pinned (OpenSpec.upto namesAllSpec)

end Rows
end Go.Proofs.Ytmamdacmpikdbaa
