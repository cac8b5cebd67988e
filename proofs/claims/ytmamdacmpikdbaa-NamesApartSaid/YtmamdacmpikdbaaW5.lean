import Derived.Test.YtmamdacmpikdbaaX
/-! Walks: New, Len, Links, Get. -/
namespace Go.Proofs.Ytmamdacmpikdbaa
open Go.RowKit Go.Maps

set_option maxRecDepth 100000 in
set_option maxHeartbeats 400000 in
theorem new_any (w : World) : Calls Try.prog 26 #[] w fun e w' => e = .returned (.pointer (some ⟨w.heap.size + 3, 0, none⟩)) ∧ IndexAt w' w.heap.size [] ∧ Mod None_ w w' ∧ w'.heap.size = w.heap.size + 4 := by
  have hmm := @run_makeMap Try.prog
  go_enter Try.func26, Try.ntmps26
  go_wp2
  go_ret
  refine ⟨rfl, ⟨?_, ?_, ?_, ?_, by simp⟩, (((((Mod.refl _ w).alloc _).alloc _).alloc _).alloc _), by simp⟩
  · have := Blk.new (((w.alloc (.map #[] 0)).alloc (.map #[] 0)).alloc (.map #[] 0)) 61 #[.map (some w.heap.size), .map (some (w.heap.size + 1)), .map (some (w.heap.size + 1 + 1))]
    simp only [alloc_size] at this
    exact this
  · exact (((MapIs.made w).alloc _).alloc _).alloc _
  · have := (((Counts.made (w.alloc (.map #[] 0))).mod ((Mod.refl None_ _).alloc (.map #[] 0)) id).mod ((Mod.refl None_ _).alloc (.cells #[.map (some w.heap.size), .map (some (w.heap.size + 1)), .map (some (w.heap.size + 1 + 1))] 61)) id)
    rw [alloc_size] at this
    exact this
  · have := ((Counts.made ((w.alloc (.map #[] 0)).alloc (.map #[] 0))).mod ((Mod.refl None_ _).alloc (.cells #[.map (some w.heap.size), .map (some (w.heap.size + 1)), .map (some (w.heap.size + 1 + 1))] 61)) id)
    rw [alloc_size, alloc_size] at this
    exact this

set_option maxRecDepth 100000 in
set_option maxHeartbeats 400000 in
theorem len_any (w : World) (b : Nat) (rows : List Row) (d : Int) (hd : (Lit.int .i64 d).wf = true) (h : IndexAt w b rows) :
    Calls Try.prog 20 #[.pointer (some ⟨b + 3, 0, none⟩), .int .i64 d] w fun e w' => e = .returned (.int .i64 (cntDir rows d)) ∧ w = w' := by
  obtain ⟨c0, c1, c2⟩ := h.cells
  have hl := h.names.look d hd
  go_enter Try.func20, Try.ntmps20
  go_wp2
  go_ret
  exact ⟨rfl, rfl⟩
set_option maxRecDepth 100000 in
set_option maxHeartbeats 400000 in
theorem links_any (w : World) (b : Nat) (rows : List Row) (d : Int) (hd : (Lit.int .i64 d).wf = true) (h : IndexAt w b rows) :
    Calls Try.prog 21 #[.pointer (some ⟨b + 3, 0, none⟩), .int .i64 d] w fun e w' => e = .returned (.int .i64 (cntIno rows d)) ∧ w = w' := by
  obtain ⟨c0, c1, c2⟩ := h.cells
  have hl := h.links.look d hd
  go_enter Try.func21, Try.ntmps21
  go_wp2
  go_ret
  exact ⟨rfl, rfl⟩

set_option maxRecDepth 100000 in
set_option maxHeartbeats 400000 in
theorem get_any (w : World) (b : Nat) (rows : List Row) (d : Int) (s : ByteArray) (hd : (Lit.int .i64 d).wf = true) (h : IndexAt w b rows) :
    Calls Try.prog 17 #[.pointer (some ⟨b + 3, 0, none⟩), .int .i64 d, .string s] w fun e w' => e = .returned (.int .i64 (findIno rows d s)) ∧ Mod None_ w w' := by
  by_cases hs : s.size ≤ 28
  · have hk := keyA_size d s hs
    have HK := hide hk
    clear hk
    have HI := hide h
    clear h
    go_enter Try.func17, Try.ntmps17
    go_wp2_with (first
      | (go_at_call 33; refine (keyOf_good _ _ _ hs).mono ?_; rintro e w1 ⟨rfl, hm1⟩)
      | ((with_reducible refine at_slot 7 ?_); refine wpList_declare rfl rfl 55 7 (.tmp 13) rfl rfl rfl zeroK (keyA d s) zero55 (size55' HK.out) (zeroK_size.trans HK.out.symm) (keyA_one d s) (by simp) rfl ?_; go_frame))
    have hI2 : IndexAt (w1.alloc (.cells (keyA d s) 55)).drew b rows := (HI.out.kept (hm1.alloc _)).drew
    have hB2 : Blk (w1.alloc (.cells (keyA d s) 55)).drew w1.heap.size 55 (keyA d s) := (Blk.new w1 55 _).drew
    have hM2 : Mod None_ w (w1.alloc (.cells (keyA d s) 55)).drew := (hm1.alloc _).drew
    refine region_still (by kernel_rfl) (by kernel_rfl) ?_
    rintro w3 hw3
    rw [← hw3] at hI2 hB2 hM2
    clear hw3
    obtain ⟨c0, c1, c2⟩ := hI2.cells
    repeat still_step
    refine still_val rfl (ex_load rfl (run_loadRow hB2 Try.underlying55 rfl (size55' HK.out))) ?_
    go_frame
    refine still_val rfl (ex_lookup rfl (hI2.look d s hd hs)) ?_
    go_frame
    repeat still_step
    refine wpStill_nil ?_
    go_wp2
    go_ret
    exact ⟨rfl, hM2⟩
  · have hz := findIno_long h.ok (d := d) (s := s) (by omega)
    have HZ := hide hz
    have hs' : 28 < s.size := by omega
    clear hz h
    go_enter Try.func17, Try.ntmps17
    go_wp2_with (first
      | (go_at_call 33; refine (keyOf_bad _ _ _ hs').mono ?_; rintro e w1 ⟨rfl, hm1⟩)
      | ((with_reducible refine at_slot 7 ?_); refine wpList_declare rfl rfl 55 7 (.tmp 13) rfl rfl rfl zeroK zeroK zero55 (size55' zeroK_size) rfl (keyA_one 0 _) (by simp) rfl ?_; go_frame))
    go_ret
    exact ⟨by rw [HZ.out]; rfl, hm1.alloc _⟩
end Go.Proofs.Ytmamdacmpikdbaa
