import Derived.Test.YtmamdacmpikdbaaW10
/-! Walks: first. -/
namespace Go.Proofs.Ytmamdacmpikdbaa
open Go.RowKit Go.Maps

abbrev sA : ByteArray := { data := #[97] }
abbrev sB : ByteArray := { data := #[98] }
abbrev sE : ByteArray := { data := #[] }
def R1 : List Row := [⟨1, sB, 3⟩]
def R2 : List Row := [⟨1, sA, 3⟩, ⟨1, sB, 3⟩]

theorem good_A : goodName sA = true := by unfold goodName; rw [Go.Lib.toList_data]; decide
theorem good_B : goodName sB = true := by unfold goodName; rw [Go.Lib.toList_data]; decide
theorem good_E : goodName sE = false := by unfold goodName; rw [Go.Lib.toList_data]; decide
theorem inode_1 : isInodeB 1 = true := by decide
theorem inode_3 : isInodeB 3 = true := by decide
theorem inode_4 : isInodeB 4 = true := by decide

theorem f1 : putErr [] 1 sB 3 = 0 := by unfold putErr; rw [inode_1, inode_3, good_B]; decide
theorem f1r : putRows [] 1 sB 3 = R1 := by unfold putRows; rw [f1]; rfl
theorem f2 : putErr R1 1 sA 3 = 0 := by unfold putErr; rw [inode_1, inode_3, good_A]; decide
theorem f2r : putRows R1 1 sA 3 = R2 := by unfold putRows; rw [f2]; rfl
theorem f3 : putErr R2 1 sA 4 = 81 := by unfold putErr; rw [inode_1, inode_4, good_A]; decide
theorem f3r : putRows R2 1 sA 4 = R2 := by unfold putRows; rw [f3]; rfl
theorem f4 : putErr R2 1 sE 4 = 80 := by unfold putErr; rw [inode_1, inode_4, good_E]; decide
theorem f4r : putRows R2 1 sE 4 = R2 := by unfold putRows; rw [f4]; rfl
theorem sortNames_of {l l' : List ByteArray} (h : l.Perm l') (h2 : l'.Pairwise (fun x y => (!strLt y x) = true)) : sortNames l = l' :=
  eq_of_perm_pairwise (le := fun x y => (!strLt y x) = true) (fun a b h1 h2 => by
      simp only [Bool.not_eq_true'] at h1 h2
      exact strLt_tri h2 h1) ((List.mergeSort_perm _ _).trans h) (sortNames_sorted l) h2
theorem strLt_AB : strLt sB sA = false := by
  cases h : strLt sB sA
  · rfl
  · exact absurd ((strLt_iff _ _).1 h) (by decide)
theorem fL : listNames R2 1 = [sA, sB] := by
  unfold listNames
  refine sortNames_of (by decide) ?_
  simp [strLt_AB]
theorem f5 : findIno R2 1 sA = 3 := by decide
theorem f6 : findIno R2 1 sB = 3 := by decide
theorem f7 : cntIno R2 3 = 2 := by decide
theorem f8 : dropErr R2 1 sA = 0 := by decide
theorem f8r : dropRows R2 1 sA = R1 := by decide
theorem f9 : findIno R1 1 sA = 0 := by decide
theorem f10 : findIno R1 1 sB = 3 := by decide
theorem f11 : cntDir R1 1 = 1 := by decide
end Go.Proofs.Ytmamdacmpikdbaa
