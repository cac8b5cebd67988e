import Derived.Test.YtabebkffcmajkaaX
/-! Walks: New. -/
namespace Go.Proofs.Ytabebkffcmajkaa
open Go.RowKit Go.Maps

set_option maxRecDepth 100000 in
set_option maxHeartbeats 400000 in
theorem new_any (w : World) : Calls Try.prog 53 #[] w fun e w' => e = .returned (.pointer (some ⟨w.heap.size + 3, 0, none⟩)) ∧ IndexAt w' w.heap.size [] ∧ Mod None_ w w' ∧ w'.heap.size = w.heap.size + 4 := by
  have hmm := @run_makeMap Try.prog
  go_enter Try.func53, Try.ntmps53
  go_wp2
  go_ret
  refine ⟨rfl, ⟨?_, ?_, ?_, ?_, by simp⟩, (((((Mod.refl _ w).alloc _).alloc _).alloc _).alloc _), by simp⟩
  · have := Blk.new (((w.alloc (.map #[] 0)).alloc (.map #[] 0)).alloc (.map #[] 0)) 106 #[.map (some w.heap.size), .map (some (w.heap.size + 1)), .map (some (w.heap.size + 1 + 1))]
    simp only [alloc_size] at this
    exact this
  · exact (((MapIs.made w).alloc _).alloc _).alloc _
  · have := (((Counts.made (w.alloc (.map #[] 0))).mod ((Mod.refl None_ _).alloc (.map #[] 0)) id).mod ((Mod.refl None_ _).alloc (.cells #[.map (some w.heap.size), .map (some (w.heap.size + 1)), .map (some (w.heap.size + 1 + 1))] 106)) id)
    rw [alloc_size] at this
    exact this
  · have := ((Counts.made ((w.alloc (.map #[] 0)).alloc (.map #[] 0))).mod ((Mod.refl None_ _).alloc (.cells #[.map (some w.heap.size), .map (some (w.heap.size + 1)), .map (some (w.heap.size + 1 + 1))] 106)) id)
    rw [alloc_size, alloc_size] at this
    exact this

end Go.Proofs.Ytabebkffcmajkaa
