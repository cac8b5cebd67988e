import Derived.Test.YtabebkffcmajkaaK
import Derived.Lib.BufferWrite
/-! Walks: keyOf, key.name. -/
namespace Go.Proofs.Ytabebkffcmajkaa
open Go.RowKit Go.Maps

def zeroK : Array Value := keyA 0 ByteArray.empty
theorem zero55 (w : World) : (zeroValue 100).run Try.prog w = .ok (.agg zeroK) w := by kernel_rfl
theorem size55 : (Try.prog.info? 100).map (·.size) = some 30 := by kernel_rfl
theorem size5 : (Try.prog.info? 5).map (·.size) = some 1 := by kernel_rfl
theorem keyA_one (d : Int) (s : ByteArray) : (keyA d s).all (·.oneCell') = true := by
  rw [Array.all_eq_true_iff_forall_mem]
  intro v hv
  simp only [keyA, keyCells, List.mem_toArray, List.mem_cons, List.mem_append, List.mem_map, List.mem_replicate] at hv
  rcases hv with rfl | rfl | ⟨b, _, rfl⟩ | ⟨_, rfl⟩ <;> rfl

/-- a struct of type 100 with its first two fields given -/
def headK (d n : Int) : Array Value := (.int .i64 d :: .int .i64 n :: List.replicate 28 (.int .u8 0)).toArray
theorem run_buildK (d n : Int) (w : World) : (Instr.build 100 #[(0, .int .i64 d), (1, .int .i64 n)]).run Try.prog w = .ok (.agg (headK d n)) w := by
  kernel_rfl
theorem run_buildK0 (w : World) : (Instr.build 100 #[]).run Try.prog w = .ok (.agg zeroK) w := by
  kernel_rfl

theorem headK_copy (d : Int) (s : ByteArray) :
    ((headK d s.size).toList.take 2 ++ Go.Lib.byteCells s.data.toList ++ (headK d s.size).toList.drop (2 + s.size)).toArray = keyA d s := by
  have e : (headK d s.size).toList.drop (2 + s.size) = List.replicate (28 - s.size) (.int .u8 0) := by
    rw [← List.drop_drop]
    simp only [headK, List.drop_succ_cons, List.drop_zero]
    exact List.drop_replicate
  rw [e]
  simp [headK, keyA, keyCells, Go.Lib.byteCells]
theorem headK_one (d n : Int) : (headK d n).all (·.oneCell') = true := by
  rw [Array.all_eq_true_iff_forall_mem]
  intro v hv
  simp only [headK, List.mem_toArray, List.mem_cons, List.mem_replicate] at hv
  rcases hv with rfl | rfl | ⟨_, rfl⟩ <;> rfl
theorem headK_size (d n : Int) : (headK d n).size = 30 := by rfl
theorem zeroK_size : zeroK.size = 30 := by rfl
theorem agg_cells (z : Array Value) : (Value.agg z).cells = z := rfl

theorem size55' {c : Array Value} (h : c.size = 30) : (Try.prog.info? 100).map (·.size) = some c.size := by rw [h]; exact size55

theorem run_copyK (d : Int) (s : ByteArray) (w : World) (h : s.size ≤ 28) :
    (Builtin.copy_ #[113, 9] 3 #[.slice (some ⟨w.heap.size, 2, none⟩) 28 28, .string s]).run Try.prog (w.alloc (.cells (headK d s.size) 100)) = .ok (.int .i64 s.size) (w.alloc (.cells (keyA d s) 100)) := by
  rw [Go.Lib.run_copy_row_string _ 113 9 3 5 w.heap.size 2 28 28 s (headK d s.size) 100 Try.underlying113 size5 (heap_alloc_new w _) h (by rw [headK_size]; omega), headK_copy d s, alloc_setRow]
  rfl

set_option maxRecDepth 100000 in
set_option maxHeartbeats 400000 in
theorem keyOf_good (d : Int) (s : ByteArray) (w : World) (h : s.size ≤ 28) :
    Calls Try.prog 56 #[.int .i64 d, .string s] w fun e w' => e = .returned (.tuple #[keyV d s, .bool true]) ∧ Mod None_ w w' := by
  have hle : (28 < (s.size : Int)) = False := by simp; omega
  have hcp := run_copyK d s (w.alloc (.cells zeroK 100)) h
  have hsz : (w.alloc (.cells zeroK 100)).heap.size = w.heap.size + 1 := by simp
  rw [hsz] at hcp
  have hk := keyA_size d s h
  go_enter Try.func56, Try.ntmps56
  go_wp2_with (first
    | ((with_reducible refine at_slot 6 ?_); refine wpList_declare rfl rfl 100 6 (.tmp 10) rfl rfl rfl zeroK (headK d s.size) zero55 (size55' (headK_size _ _)) (zeroK_size.trans (headK_size _ _).symm) (headK_one _ _) (by simp) rfl ?_; go_frame; rw [hsz])
    | ((with_reducible refine at_slot 4 ?_); refine wpList_alloc rfl 100 rfl (.agg zeroK) zero55 ?_; simp only [agg_cells]; go_frame)
    | ((with_reducible refine at_slot 19 ?_); refine wpList_load_row rfl 100 (.tmp 6) rfl (w.heap.size + 1) rfl 100 (keyA d s) (0, 0) _ (by rw [← hsz]; exact heap_alloc_new _ _) Try.underlying100 rfl (size55' hk) ?_; go_frame)
    | ((with_reducible refine at_none 100 4 19 ?_); refine wpList_store_row rfl 100 (.tmp 4) (.tmp 19) rfl w.heap.size (keyA d s) rfl rfl 100 zeroK (heap_alloc2_old _ _ _) (size55' hk) (zeroK_size.trans hk.symm) (keyA_one d s) ?_; rw [alloc2_setRow]; go_frame))
  exact bodyPost_ret (results_cell_tmp rfl _ _ w.heap.size 100 (keyA d s) (0, 0) _ rfl (heap_alloc2_old _ _ _) Try.underlying100 rfl (size55' hk)) rfl ⟨rfl, ((Mod.refl _ w).alloc _).alloc _⟩

set_option maxRecDepth 100000 in
set_option maxHeartbeats 400000 in
theorem keyOf_bad (d : Int) (s : ByteArray) (w : World) (h : 28 < s.size) :
    Calls Try.prog 56 #[.int .i64 d, .string s] w fun e w' => e = .returned (.tuple #[keyV 0 ByteArray.empty, .bool false]) ∧ Mod None_ w w' := by
  have hle : (28 < (s.size : Int)) = True := by simp; omega
  have hsz : (w.alloc (.cells zeroK 100)).heap.size = w.heap.size + 1 := by simp
  go_enter Try.func56, Try.ntmps56
  go_wp2_with (first
    | ((with_reducible refine at_slot 6 ?_); refine wpList_declare rfl rfl 100 6 (.tmp 10) rfl rfl rfl zeroK (headK d s.size) zero55 (size55' (headK_size _ _)) (zeroK_size.trans (headK_size _ _).symm) (headK_one _ _) (by simp) rfl ?_; go_frame; rw [hsz])
    | ((with_reducible refine at_slot 4 ?_); refine wpList_alloc rfl 100 rfl (.agg zeroK) zero55 ?_; simp only [agg_cells]; go_frame)
    | ((with_reducible refine at_none 100 4 14 ?_); refine wpList_store_row rfl 100 (.tmp 4) (.tmp 14) rfl w.heap.size zeroK rfl rfl 100 zeroK (heap_alloc2_old _ _ _) (size55' zeroK_size) rfl (keyA_one 0 _) ?_; rw [alloc2_setRow]; go_frame))
  exact bodyPost_ret (results_cell_tmp rfl _ _ w.heap.size 100 zeroK (0, 0) _ rfl (heap_alloc2_old _ _ _) Try.underlying100 rfl (size55' zeroK_size)) rfl ⟨rfl, ((Mod.refl _ w).alloc _).alloc _⟩
end Go.Proofs.Ytabebkffcmajkaa
