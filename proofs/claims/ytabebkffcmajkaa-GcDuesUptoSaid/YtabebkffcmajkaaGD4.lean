import Derived.Test.YtabebkffcmajkaaGD3
/-! Walk: GcDues. -/
namespace Go.Proofs.Ytabebkffcmajkaa
open Go.RowKit Go.Maps Go.Shelf
attribute [local go_sem] quietV loudUpon Oper.semAt_some

set_option maxRecDepth 100000 in
set_option maxHeartbeats 1000000 in
theorem dues_any (w : World) (n : NodeD) (vm vn vl : Value) (h : NodeIn w n vm vn vl) (hs : Short n) (hi : I64 n.entries) : Calls Try.prog 4 #[.agg (nodeC n vm vn vl)] w (BoolPost w true) := by
  obtain ⟨m, hm⟩ : ∃ m, m = w.heap.size := ⟨_, rfl⟩
  obtain ⟨w1, hw1⟩ : ∃ w1, w1 = w.alloc (.cells (nodeC n vm vn vl) 26) := ⟨_, rfl⟩
  have hM : Mod None_ w w1 := by rw [hw1]; exact (Mod.refl _ w).alloc _
  have b1 : Blk w1 m 26 (nodeC n vm vn vl) := by rw [hw1, hm]; exact Blk.new w 26 _
  have HW1 := hide hw1
  have HMM := hide hm
  have HN := hide h
  have HI := hide (infoNode n vm vn vl)
  have HE := hide hi
  have HS := hide hs
  clear hw1 hm h hi hs
  go_enter Try.func4, Try.ntmps4
  go_upto_region 1 with fail
  rw [← HMM.out, ← HW1.out]
  clear HMM HW1
  go_wp2_with ((with_reducible refine at_slot 6 ?_); refine wpList_val rfl (ex_load rfl (run_loadRow b1 Try.underlying26 rfl HI.out)) ?_; go_frame)
  refine (gcCopy w1 n vm vn vl (HN.out.kept hM) HS.out).mono ?_
  rintro e w3 ⟨vm', vn', vl', rfl, ho, hm3⟩
  have hM3 := hM.trans hm3
  have b3 := b1.mod hm3 id
  have hI' := ho.in_ HN.out
  have HI2 := hide (infoNode n vm' vn' vl')
  have hone : (nodeC n vm' vn' vl').all (·.oneCell') = true := by
    obtain ⟨_, _, rfl⟩ := own_slice ho.map
    obtain ⟨_, _, rfl⟩ := own_slice ho.names
    obtain ⟨_, _, rfl⟩ := own_slice ho.log
    simp [nodeC, Value.oneCell']
  obtain ⟨q, hq⟩ : ∃ q, q = w3.heap.size := ⟨_, rfl⟩
  obtain ⟨w4, hw4⟩ : ∃ w4, w4 = w3.alloc (.cells (nodeC n vm' vn' vl') 26) := ⟨_, rfl⟩
  have hm4 : Mod None_ w3 w4 := by rw [hw4]; exact (Mod.refl _ w3).alloc _
  have bq : Blk w4 q 26 (nodeC n vm' vn' vl') := by rw [hw4, hq]; exact Blk.new w3 26 _
  have b4 := b3.mod hm4 id
  have hM4 := hM3.trans hm4
  have HI3 := hide (hI'.kept hm4)
  have HO := hide hone
  have HQ := hide hq
  have HW4 := hide hw4
  clear hm3 hM b1 ho hI' hq hw4 hm4 hM3 b3 hone
  go_wp2_with (first
    | ((with_reducible refine at_slot 3 ?_); refine wpList_declare rfl rfl 26 3 (.tmp 7) rfl rfl rfl zeroNode (nodeC n vm' vn' vl') zeroNodeV HI2.out (nodeC_size _ _ _ _) HO.out (by simp) rfl ?_; go_frame; rw [← HW4.out, ← HQ.out])
    | ((with_reducible refine at_slot 8 ?_); refine wpList_val rfl (ex_load rfl (run_loadRow bq Try.underlying26 rfl HI2.out)) ?_; go_frame))
  clear HW4 HQ
  refine (gcWant w4 n vm' vn' vl' HI3.out HS.out).mono ?_
  rintro e w5 ⟨rfl, hm5⟩
  have b5 := b4.mod hm5 id
  have bq5 := bq.mod hm5 id
  have hM5 := hM4.trans hm5
  have HI5 := hide (HI3.out.kept hm5)
  clear hm5 b4 bq hM4 HI3
  go_wp2_with ((with_reducible refine at_slot 10 ?_); refine wpList_val rfl (ex_load rfl (run_loadRow bq5 Try.underlying26 rfl HI2.out)) ?_; go_frame)
  refine (gcDue w5 n vm' vn' vl' HI5.out HS.out HE.out).mono ?_
  rintro e w6 ⟨rfl, hm6⟩
  have b6 := b5.mod hm6 id
  have bq6 := bq5.mod hm6 id
  have hM6 := hM5.trans hm6
  have HI6 := hide (HI5.out.kept hm6)
  clear hm6 b5 bq5 hM5 HI5
  go_wp2_with ((with_reducible refine at_slot 13 ?_); refine wpList_val rfl (ex_load rfl (run_loadRow b6 Try.underlying26 rfl HI.out)) ?_; go_frame)
  refine (gcCopy w6 n vm vn vl (HN.out.kept hM6) HS.out).mono ?_
  rintro e w7 ⟨vm2, vn2, vl2, rfl, ho, hm7⟩
  have b7 := b6.mod hm7 id
  have bq7 := bq6.mod hm7 id
  have hM7 := hM6.trans hm7
  have HI7 := hide (HI6.out.kept hm7)
  have HC := hide (ho.in_ HN.out)
  clear hm7 b6 bq6 hM6 HI6 ho
  go_wp2_with fail
  refine (refWant w7 n vm2 vn2 vl2 HC.out HS.out).mono ?_
  rintro e w8 ⟨rfl, hm8⟩
  have b8 := b7.mod hm8 id
  have bq8 := bq7.mod hm8 id
  have hM8 := hM7.trans hm8
  have HI8 := hide (HI7.out.kept hm8)
  clear hm8 b7 bq7 hM7 HI7 HC
  have e0 : w8.cell? ⟨m, 0, none⟩ = some (.int .i64 n.ino) := b8.cell 0
  have e1 : w8.cell? ⟨m, 1, none⟩ = some (.int .i64 n.kind) := b8.cell 1
  have e2 : w8.cell? ⟨m, 2, none⟩ = some (.int .i64 n.links) := b8.cell 2
  have e3 : w8.cell? ⟨m, 3, none⟩ = some (.int .i64 n.size) := b8.cell 3
  have e4 : w8.cell? ⟨m, 4, none⟩ = some (vm) := b8.cell 4
  have e5 : w8.cell? ⟨m, 5, none⟩ = some (vn) := b8.cell 5
  have e6 : w8.cell? ⟨m, 6, none⟩ = some (.int .i64 n.head) := b8.cell 6
  have e7 : w8.cell? ⟨m, 7, none⟩ = some (.int .i64 n.tail) := b8.cell 7
  have e8 : w8.cell? ⟨m, 8, none⟩ = some (vl) := b8.cell 8
  have e9 : w8.cell? ⟨m, 9, none⟩ = some (.int .i64 n.entries) := b8.cell 9
  go_wp2_with fail
  refine (refDue w8 n vm vn vl (HN.out.kept hM8) HS.out HE.out).mono ?_
  rintro e w9 ⟨rfl, hm9⟩
  have b9 := b8.mod hm9 id
  have bq9 := bq8.mod hm9 id
  have hM9 := hM8.trans hm9
  have HI9 := hide (HI8.out.kept hm9)
  clear hm9 b8 bq8 hM8 HI8 e0 e1 e2 e3 e4 e5 e6 e7 e8 e9
  have e0 : w9.cell? ⟨m, 0, none⟩ = some (.int .i64 n.ino) := b9.cell 0
  have e1 : w9.cell? ⟨m, 1, none⟩ = some (.int .i64 n.kind) := b9.cell 1
  have e2 : w9.cell? ⟨m, 2, none⟩ = some (.int .i64 n.links) := b9.cell 2
  have e3 : w9.cell? ⟨m, 3, none⟩ = some (.int .i64 n.size) := b9.cell 3
  have e4 : w9.cell? ⟨m, 4, none⟩ = some (vm) := b9.cell 4
  have e5 : w9.cell? ⟨m, 5, none⟩ = some (vn) := b9.cell 5
  have e6 : w9.cell? ⟨m, 6, none⟩ = some (.int .i64 n.head) := b9.cell 6
  have e7 : w9.cell? ⟨m, 7, none⟩ = some (.int .i64 n.tail) := b9.cell 7
  have e8 : w9.cell? ⟨m, 8, none⟩ = some (vl) := b9.cell 8
  have e9 : w9.cell? ⟨m, 9, none⟩ = some (.int .i64 n.entries) := b9.cell 9
  have f0 : w9.cell? ⟨q, 0, none⟩ = some (.int .i64 n.ino) := bq9.cell 0
  have f1 : w9.cell? ⟨q, 1, none⟩ = some (.int .i64 n.kind) := bq9.cell 1
  have f2 : w9.cell? ⟨q, 2, none⟩ = some (.int .i64 n.links) := bq9.cell 2
  have f3 : w9.cell? ⟨q, 3, none⟩ = some (.int .i64 n.size) := bq9.cell 3
  have f4 : w9.cell? ⟨q, 4, none⟩ = some (vm') := bq9.cell 4
  have f5 : w9.cell? ⟨q, 5, none⟩ = some (vn') := bq9.cell 5
  have f6 : w9.cell? ⟨q, 6, none⟩ = some (.int .i64 n.head) := bq9.cell 6
  have f7 : w9.cell? ⟨q, 7, none⟩ = some (.int .i64 n.tail) := bq9.cell 7
  have f8 : w9.cell? ⟨q, 8, none⟩ = some (vl') := bq9.cell 8
  have f9 : w9.cell? ⟨q, 9, none⟩ = some (.int .i64 n.entries) := bq9.cell 9
  obtain ⟨d, hd⟩ : ∃ d, d = dueOf n := ⟨_, rfl⟩
  rw [← hd]
  have hdd : (d == d) = true := by simp
  clear hd
  cases d with
  | true =>
    go_wp2_with fail
    refine (gcSameNode w9 n vm' vn' vl' vm vn vl HI9.out (HN.out.kept hM9)).mono ?_
    rintro e w11 ⟨rfl, hm11⟩
    have hM11 := hM9.trans hm11
    clear b9 bq9 HI9 hM9 hm11 e0 f0 e1 f1 e2 f2 e3 f3 e4 f4 e5 f5 e6 f6 e7 f7 e8 f8 e9 f9
    go_wp2
    go_ret
    exact ⟨rfl, hM11⟩
  | false =>
    go_wp2_with fail
    refine (gcSameNode w9 n vm' vn' vl' vm vn vl HI9.out (HN.out.kept hM9)).mono ?_
    rintro e w11 ⟨rfl, hm11⟩
    have hM11 := hM9.trans hm11
    clear b9 bq9 HI9 hM9 hm11 e0 f0 e1 f1 e2 f2 e3 f3 e4 f4 e5 f5 e6 f6 e7 f7 e8 f8 e9 f9
    go_wp2
    go_ret
    exact ⟨rfl, hM11⟩
end Go.Proofs.Ytabebkffcmajkaa
