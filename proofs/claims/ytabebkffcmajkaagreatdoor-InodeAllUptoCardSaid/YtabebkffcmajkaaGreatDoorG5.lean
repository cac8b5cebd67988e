import Derived.Deep.CutRange
import Derived.IntWalk
import Derived.Test.YtabebkffcmajkaaGreatDoorG4
/-! Walk: entryOf. -/
namespace Go.Proofs.YtabebkffcmajkaaGreatDoor
open Go.RowKit Go.Maps Go.Shelf
attribute [local go_sem] quietV loudUpon Oper.semAt_some

inductive StepD where
  | write (r : RunD) (size : Int)
  | resize (size : Int)
  | add (name : ByteArray) (ino : Int)
def stepV : StepD → Value
  | .write r s => .iface 92 (.agg #[.int .i64 r.off, .int .i64 r.page, .int .i64 r.count, .int .i64 s])
  | .resize s => .iface 94 (.agg #[.int .i64 s])
  | .add n i => .iface 96 (.agg #[.string n, .int .i64 i])
def encStep (s : StepD) : List Value := [stepV s]
/-- a step's entry -/
def entOf (s : StepD) (q : Int) : EntD :=
  match s with
  | .write r z => ⟨1, q, r.off, r.count, r.page, z, 0, ⟨#[]⟩⟩
  | .resize z => ⟨2, q, 0, 0, 0, z, 0, ⟨#[]⟩⟩
  | .add n i => ⟨3, q, 0, 0, 0, 0, i, n⟩
section
open Go.Instr
variable (v : Value) (w : World) (xT : TypeId)
theorem as_write : (typeAssert (.iface 92 v) xT 92 true).run Tryz.prog w = .ok (.tuple #[v, .bool true]) w := by
  unfold typeAssert; simp [run_underlying Tryz.underlying92]
theorem as_resize : (typeAssert (.iface 94 v) xT 94 true).run Tryz.prog w = .ok (.tuple #[v, .bool true]) w := by
  unfold typeAssert; simp [run_underlying Tryz.underlying94]
theorem as_add : (typeAssert (.iface 96 v) xT 96 true).run Tryz.prog w = .ok (.tuple #[v, .bool true]) w := by
  unfold typeAssert; simp [run_underlying Tryz.underlying96]
theorem no_write (t : TypeId) (h : t ≠ 92) : (typeAssert (.iface t v) xT 92 true).run Tryz.prog w = .ok (.tuple #[.agg #[.int .i64 0, .int .i64 0, .int .i64 0, .int .i64 0], .bool false]) w := by
  unfold typeAssert; simp [run_underlying Tryz.underlying92, h]
theorem no_resize (t : TypeId) (h : t ≠ 94) : (typeAssert (.iface t v) xT 94 true).run Tryz.prog w = .ok (.tuple #[.agg #[.int .i64 0], .bool false]) w := by
  unfold typeAssert; simp [run_underlying Tryz.underlying94, h]
end


set_option maxRecDepth 100000 in
set_option maxHeartbeats 4000000 in
theorem entry_write (w : World) (r : RunD) (z : Int) (q : Int) (h0 : 0 ≤ q) (h1 : q ≤ 9223372036854775807) : Calls Tryz.prog 35 #[stepV (.write r z), .int .i64 q] w fun e w' => e = .returned (.agg (encEntry (entOf (.write r z) q)).toArray) ∧ Mod None_ w w' := by
  have a1 := fun v w => as_write v w 62
  have a2 := fun v w => as_resize v w 62
  have a3 := fun v w => as_add v w 62
  have a4 := fun v w => no_write v w 62 94 (by decide)
  have a5 := fun v w => no_write v w 62 96 (by decide)
  have a6 := fun v w => no_resize v w 62 96 (by decide)
  unfold stepV
  go_enter Tryz.func35, Tryz.ntmps35
  obtain ⟨m, hm⟩ : ∃ m, m = w.heap.size := ⟨_, rfl⟩
  obtain ⟨w1, hw1⟩ : ∃ w1, w1 = ((w.alloc (.cells #[.int .i64 0, .int .u64 0, .int .i64 0, .int .i64 0, .int .i64 0, .int .i64 0, .int .i64 0, .string ⟨#[]⟩] 49)).alloc (.cells #[.int .i64 0, .int .u64 q, .int .i64 0, .int .i64 0, .int .i64 0, .int .i64 0, .int .i64 0, .string ⟨#[]⟩] 49)).alloc (.cells #[.int .i64 r.off, .int .i64 r.page, .int .i64 r.count, .int .i64 z] 92) := ⟨_, rfl⟩
  have hM : Mod None_ w w1 := by rw [hw1]; exact (((Mod.refl _ w).alloc _).alloc _).alloc _
  have b4 : Blk w1 m 49 #[.int .i64 0, .int .u64 0, .int .i64 0, .int .i64 0, .int .i64 0, .int .i64 0, .int .i64 0, .string ⟨#[]⟩] := by rw [hw1, hm]; exact ((Blk.new w 49 _).alloc _).alloc _
  have b5 : Blk w1 (m + 1) 49 #[.int .i64 0, .int .u64 q, .int .i64 0, .int .i64 0, .int .i64 0, .int .i64 0, .int .i64 0, .string ⟨#[]⟩] := by
    have := (Blk.new (w.alloc (.cells #[.int .i64 0, .int .u64 0, .int .i64 0, .int .i64 0, .int .i64 0, .int .i64 0, .int .i64 0, .string ⟨#[]⟩] 49)) 49 #[.int .i64 0, .int .u64 q, .int .i64 0, .int .i64 0, .int .i64 0, .int .i64 0, .int .i64 0, .string ⟨#[]⟩]).alloc (.cells #[.int .i64 r.off, .int .i64 r.page, .int .i64 r.count, .int .i64 z] 92)
    rw [← hw1, alloc_size, ← hm] at this
    exact this
  have b6 : Blk w1 (m + 1 + 1) 92 #[.int .i64 r.off, .int .i64 r.page, .int .i64 r.count, .int .i64 z] := by
    have := Blk.new ((w.alloc (.cells #[.int .i64 0, .int .u64 0, .int .i64 0, .int .i64 0, .int .i64 0, .int .i64 0, .int .i64 0, .string ⟨#[]⟩] 49)).alloc (.cells #[.int .i64 0, .int .u64 q, .int .i64 0, .int .i64 0, .int .i64 0, .int .i64 0, .int .i64 0, .string ⟨#[]⟩] 49)) 92 #[.int .i64 r.off, .int .i64 r.page, .int .i64 r.count, .int .i64 z]
    rw [← hw1, alloc_size, alloc_size, ← hm] at this
    exact this
  have hgem : w.heap.size ≤ m := by omega
  have HM := hide hm
  have HW := hide hw1
  clear hm hw1
  go_wp2_with fail
  rw [← HW.out, ← HM.out]
  clear HW HM
  refine region_mxw [(true, 0), (true, 1), (true, 2), (true, 3), (true, 4), (true, 5), (true, 6), (true, 7), (true, 8), (true, 9), (true, 10), (true, 11), (false, 12), (true, 13), (false, 14), (true, 15), (false, 16), (true, 17), (false, 18), (true, 19), (false, 20)] (fun w' => Blk w' (m + 1 + 1) 92 #[.int .i64 r.off, .int .i64 r.page, .int .i64 r.count, .int .i64 z]) (by kernel_rfl) (by kernel_rfl) ?_
  rintro w3 hw3
  have hm3 : Mod None_ w1 w3 := by rw [hw3]; exact (Mod.refl _ w1).drew
  replace b4 := b4.mod hm3 id
  replace b5 := b5.mod hm3 id
  replace b6 := b6.mod hm3 id
  replace hM := hM.trans hm3
  clear hw3 hm3
  refine ⟨b6, ?_⟩
  iterate 12 (refine mxw_quiet rfl (fun w' i1 K hK => by have x0 := i1.cell 0; have x1 := i1.cell 1; have x2 := i1.cell 2; have x3 := i1.cell 3; (try go_simp); exact hK) ?_; try go_frame)
  have f0 : w3.frozen? ⟨m + 1, 0, none⟩ = false := b5.frozen 0
  have c0 : w3.cell? ⟨m + 1, 0, none⟩ = some (.int .i64 0) := b5.cell 0
  refine mxw_loud rfl (fun K hK => ?_)
  go_simp
  obtain ⟨w10, hw10⟩ : ∃ w', w' = w3.setCell ⟨m + 1, 0, none⟩ (.int .i64 1) := ⟨_, rfl⟩
  have hmw10 : Mod (· = m + 1) w3 w10 := by rw [hw10]; exact (Mod.refl (· = m + 1) w3).setCell (p := ⟨m + 1, 0, none⟩) (.inr rfl) _
  replace b5 : Blk w10 (m + 1) 49 #[.int .i64 1, .int .u64 q, .int .i64 0, .int .i64 0, .int .i64 0, .int .i64 0, .int .i64 0, .string ⟨#[]⟩] := by rw [hw10]; exact b5.set_ 0 (.int .i64 1)
  replace b4 := b4.mod hmw10 (by omega)
  replace b6 := b6.mod hmw10 (by omega)
  replace hM := hM.trans' hmw10 (fun k hk e => by omega)
  rw [← hw10]
  clear hw10 hmw10 f0 c0
  refine ⟨b6, hK _ _ ?_⟩
  clear hK K
  try go_frame
  iterate 1 (refine mxw_quiet rfl (fun w' i1 K hK => by have x0 := i1.cell 0; have x1 := i1.cell 1; have x2 := i1.cell 2; have x3 := i1.cell 3; (try go_simp); exact hK) ?_; try go_frame)
  have f1 : w10.frozen? ⟨m + 1, 2, none⟩ = false := b5.frozen 2
  have c1 : w10.cell? ⟨m + 1, 2, none⟩ = some (.int .i64 0) := b5.cell 2
  refine mxw_loud rfl (fun K hK => ?_)
  go_simp
  obtain ⟨w11, hw11⟩ : ∃ w', w' = w10.setCell ⟨m + 1, 2, none⟩ (.int .i64 r.off) := ⟨_, rfl⟩
  have hmw11 : Mod (· = m + 1) w10 w11 := by rw [hw11]; exact (Mod.refl (· = m + 1) w10).setCell (p := ⟨m + 1, 2, none⟩) (.inr rfl) _
  replace b5 : Blk w11 (m + 1) 49 #[.int .i64 1, .int .u64 q, .int .i64 r.off, .int .i64 0, .int .i64 0, .int .i64 0, .int .i64 0, .string ⟨#[]⟩] := by rw [hw11]; exact b5.set_ 2 (.int .i64 r.off)
  replace b4 := b4.mod hmw11 (by omega)
  replace b6 := b6.mod hmw11 (by omega)
  replace hM := hM.trans' hmw11 (fun k hk e => by omega)
  rw [← hw11]
  clear hw11 hmw11 f1 c1
  refine ⟨b6, hK _ _ ?_⟩
  clear hK K
  try go_frame
  iterate 1 (refine mxw_quiet rfl (fun w' i1 K hK => by have x0 := i1.cell 0; have x1 := i1.cell 1; have x2 := i1.cell 2; have x3 := i1.cell 3; (try go_simp); exact hK) ?_; try go_frame)
  have f2 : w11.frozen? ⟨m + 1, 3, none⟩ = false := b5.frozen 3
  have c2 : w11.cell? ⟨m + 1, 3, none⟩ = some (.int .i64 0) := b5.cell 3
  refine mxw_loud rfl (fun K hK => ?_)
  go_simp
  obtain ⟨w12, hw12⟩ : ∃ w', w' = w11.setCell ⟨m + 1, 3, none⟩ (.int .i64 r.count) := ⟨_, rfl⟩
  have hmw12 : Mod (· = m + 1) w11 w12 := by rw [hw12]; exact (Mod.refl (· = m + 1) w11).setCell (p := ⟨m + 1, 3, none⟩) (.inr rfl) _
  replace b5 : Blk w12 (m + 1) 49 #[.int .i64 1, .int .u64 q, .int .i64 r.off, .int .i64 r.count, .int .i64 0, .int .i64 0, .int .i64 0, .string ⟨#[]⟩] := by rw [hw12]; exact b5.set_ 3 (.int .i64 r.count)
  replace b4 := b4.mod hmw12 (by omega)
  replace b6 := b6.mod hmw12 (by omega)
  replace hM := hM.trans' hmw12 (fun k hk e => by omega)
  rw [← hw12]
  clear hw12 hmw12 f2 c2
  refine ⟨b6, hK _ _ ?_⟩
  clear hK K
  try go_frame
  iterate 1 (refine mxw_quiet rfl (fun w' i1 K hK => by have x0 := i1.cell 0; have x1 := i1.cell 1; have x2 := i1.cell 2; have x3 := i1.cell 3; (try go_simp); exact hK) ?_; try go_frame)
  have f3 : w12.frozen? ⟨m + 1, 4, none⟩ = false := b5.frozen 4
  have c3 : w12.cell? ⟨m + 1, 4, none⟩ = some (.int .i64 0) := b5.cell 4
  refine mxw_loud rfl (fun K hK => ?_)
  go_simp
  obtain ⟨w13, hw13⟩ : ∃ w', w' = w12.setCell ⟨m + 1, 4, none⟩ (.int .i64 r.page) := ⟨_, rfl⟩
  have hmw13 : Mod (· = m + 1) w12 w13 := by rw [hw13]; exact (Mod.refl (· = m + 1) w12).setCell (p := ⟨m + 1, 4, none⟩) (.inr rfl) _
  replace b5 : Blk w13 (m + 1) 49 #[.int .i64 1, .int .u64 q, .int .i64 r.off, .int .i64 r.count, .int .i64 r.page, .int .i64 0, .int .i64 0, .string ⟨#[]⟩] := by rw [hw13]; exact b5.set_ 4 (.int .i64 r.page)
  replace b4 := b4.mod hmw13 (by omega)
  replace b6 := b6.mod hmw13 (by omega)
  replace hM := hM.trans' hmw13 (fun k hk e => by omega)
  rw [← hw13]
  clear hw13 hmw13 f3 c3
  refine ⟨b6, hK _ _ ?_⟩
  clear hK K
  try go_frame
  iterate 1 (refine mxw_quiet rfl (fun w' i1 K hK => by have x0 := i1.cell 0; have x1 := i1.cell 1; have x2 := i1.cell 2; have x3 := i1.cell 3; (try go_simp); exact hK) ?_; try go_frame)
  have f4 : w13.frozen? ⟨m + 1, 5, none⟩ = false := b5.frozen 5
  have c4 : w13.cell? ⟨m + 1, 5, none⟩ = some (.int .i64 0) := b5.cell 5
  refine mxw_loud rfl (fun K hK => ?_)
  go_simp
  obtain ⟨w14, hw14⟩ : ∃ w', w' = w13.setCell ⟨m + 1, 5, none⟩ (.int .i64 z) := ⟨_, rfl⟩
  have hmw14 : Mod (· = m + 1) w13 w14 := by rw [hw14]; exact (Mod.refl (· = m + 1) w13).setCell (p := ⟨m + 1, 5, none⟩) (.inr rfl) _
  replace b5 : Blk w14 (m + 1) 49 #[.int .i64 1, .int .u64 q, .int .i64 r.off, .int .i64 r.count, .int .i64 r.page, .int .i64 z, .int .i64 0, .string ⟨#[]⟩] := by rw [hw14]; exact b5.set_ 5 (.int .i64 z)
  replace b4 := b4.mod hmw14 (by omega)
  replace b6 := b6.mod hmw14 (by omega)
  replace hM := hM.trans' hmw14 (fun k hk e => by omega)
  rw [← hw14]
  clear hw14 hmw14 f4 c4
  refine ⟨b6, hK _ _ ?_⟩
  clear hK K
  try go_frame
  refine mxw_nil ?_
  have e0 : w14.cell? ⟨m + 1, 0, none⟩ = some (.int .i64 1) := b5.cell 0
  have k0 : w14.cell? ⟨m, 0, none⟩ = some (.int .i64 0) := b4.cell 0
  have g0 : w14.frozen? ⟨m, 0, none⟩ = false := b4.frozen 0
  have e1 : w14.cell? ⟨m + 1, 1, none⟩ = some (.int .u64 q) := b5.cell 1
  have k1 : w14.cell? ⟨m, 1, none⟩ = some (.int .u64 0) := b4.cell 1
  have g1 : w14.frozen? ⟨m, 1, none⟩ = false := b4.frozen 1
  have e2 : w14.cell? ⟨m + 1, 2, none⟩ = some (.int .i64 r.off) := b5.cell 2
  have k2 : w14.cell? ⟨m, 2, none⟩ = some (.int .i64 0) := b4.cell 2
  have g2 : w14.frozen? ⟨m, 2, none⟩ = false := b4.frozen 2
  have e3 : w14.cell? ⟨m + 1, 3, none⟩ = some (.int .i64 r.count) := b5.cell 3
  have k3 : w14.cell? ⟨m, 3, none⟩ = some (.int .i64 0) := b4.cell 3
  have g3 : w14.frozen? ⟨m, 3, none⟩ = false := b4.frozen 3
  have e4 : w14.cell? ⟨m + 1, 4, none⟩ = some (.int .i64 r.page) := b5.cell 4
  have k4 : w14.cell? ⟨m, 4, none⟩ = some (.int .i64 0) := b4.cell 4
  have g4 : w14.frozen? ⟨m, 4, none⟩ = false := b4.frozen 4
  have e5 : w14.cell? ⟨m + 1, 5, none⟩ = some (.int .i64 z) := b5.cell 5
  have k5 : w14.cell? ⟨m, 5, none⟩ = some (.int .i64 0) := b4.cell 5
  have g5 : w14.frozen? ⟨m, 5, none⟩ = false := b4.frozen 5
  have e6 : w14.cell? ⟨m + 1, 6, none⟩ = some (.int .i64 0) := b5.cell 6
  have k6 : w14.cell? ⟨m, 6, none⟩ = some (.int .i64 0) := b4.cell 6
  have g6 : w14.frozen? ⟨m, 6, none⟩ = false := b4.frozen 6
  have e7 : w14.cell? ⟨m + 1, 7, none⟩ = some (.string ⟨#[]⟩) := b5.cell 7
  have k7 : w14.cell? ⟨m, 7, none⟩ = some (.string ⟨#[]⟩) := b4.cell 7
  have g7 : w14.frozen? ⟨m, 7, none⟩ = false := b4.frozen 7
  have y0 : Blk (w14.setCell ⟨m, 0, none⟩ (.int .i64 1)) m 49 #[.int .i64 1, .int .u64 0, .int .i64 0, .int .i64 0, .int .i64 0, .int .i64 0, .int .i64 0, .string ⟨#[]⟩] := b4.set_ 0 (.int .i64 1)
  have y1 : Blk ((w14.setCell ⟨m, 0, none⟩ (.int .i64 1)).setCell ⟨m, 1, none⟩ (.int .u64 q)) m 49 #[.int .i64 1, .int .u64 q, .int .i64 0, .int .i64 0, .int .i64 0, .int .i64 0, .int .i64 0, .string ⟨#[]⟩] := y0.set_ 1 (.int .u64 q)
  have y2 : Blk (((w14.setCell ⟨m, 0, none⟩ (.int .i64 1)).setCell ⟨m, 1, none⟩ (.int .u64 q)).setCell ⟨m, 2, none⟩ (.int .i64 r.off)) m 49 #[.int .i64 1, .int .u64 q, .int .i64 r.off, .int .i64 0, .int .i64 0, .int .i64 0, .int .i64 0, .string ⟨#[]⟩] := y1.set_ 2 (.int .i64 r.off)
  have y3 : Blk ((((w14.setCell ⟨m, 0, none⟩ (.int .i64 1)).setCell ⟨m, 1, none⟩ (.int .u64 q)).setCell ⟨m, 2, none⟩ (.int .i64 r.off)).setCell ⟨m, 3, none⟩ (.int .i64 r.count)) m 49 #[.int .i64 1, .int .u64 q, .int .i64 r.off, .int .i64 r.count, .int .i64 0, .int .i64 0, .int .i64 0, .string ⟨#[]⟩] := y2.set_ 3 (.int .i64 r.count)
  have y4 : Blk (((((w14.setCell ⟨m, 0, none⟩ (.int .i64 1)).setCell ⟨m, 1, none⟩ (.int .u64 q)).setCell ⟨m, 2, none⟩ (.int .i64 r.off)).setCell ⟨m, 3, none⟩ (.int .i64 r.count)).setCell ⟨m, 4, none⟩ (.int .i64 r.page)) m 49 #[.int .i64 1, .int .u64 q, .int .i64 r.off, .int .i64 r.count, .int .i64 r.page, .int .i64 0, .int .i64 0, .string ⟨#[]⟩] := y3.set_ 4 (.int .i64 r.page)
  have y5 : Blk ((((((w14.setCell ⟨m, 0, none⟩ (.int .i64 1)).setCell ⟨m, 1, none⟩ (.int .u64 q)).setCell ⟨m, 2, none⟩ (.int .i64 r.off)).setCell ⟨m, 3, none⟩ (.int .i64 r.count)).setCell ⟨m, 4, none⟩ (.int .i64 r.page)).setCell ⟨m, 5, none⟩ (.int .i64 z)) m 49 #[.int .i64 1, .int .u64 q, .int .i64 r.off, .int .i64 r.count, .int .i64 r.page, .int .i64 z, .int .i64 0, .string ⟨#[]⟩] := y4.set_ 5 (.int .i64 z)
  have y6 : Blk (((((((w14.setCell ⟨m, 0, none⟩ (.int .i64 1)).setCell ⟨m, 1, none⟩ (.int .u64 q)).setCell ⟨m, 2, none⟩ (.int .i64 r.off)).setCell ⟨m, 3, none⟩ (.int .i64 r.count)).setCell ⟨m, 4, none⟩ (.int .i64 r.page)).setCell ⟨m, 5, none⟩ (.int .i64 z)).setCell ⟨m, 6, none⟩ (.int .i64 0)) m 49 #[.int .i64 1, .int .u64 q, .int .i64 r.off, .int .i64 r.count, .int .i64 r.page, .int .i64 z, .int .i64 0, .string ⟨#[]⟩] := y5.set_ 6 (.int .i64 0)
  have y7 : Blk ((((((((w14.setCell ⟨m, 0, none⟩ (.int .i64 1)).setCell ⟨m, 1, none⟩ (.int .u64 q)).setCell ⟨m, 2, none⟩ (.int .i64 r.off)).setCell ⟨m, 3, none⟩ (.int .i64 r.count)).setCell ⟨m, 4, none⟩ (.int .i64 r.page)).setCell ⟨m, 5, none⟩ (.int .i64 z)).setCell ⟨m, 6, none⟩ (.int .i64 0)).setCell ⟨m, 7, none⟩ (.string ⟨#[]⟩)) m 49 #[.int .i64 1, .int .u64 q, .int .i64 r.off, .int .i64 r.count, .int .i64 r.page, .int .i64 z, .int .i64 0, .string ⟨#[]⟩] := y6.set_ 7 (.string ⟨#[]⟩)
  have bz := y7
  clear y0 y1 y2 y3 y4 y5 y6 y7
  have hz : Mod None_ w ((((((((w14.setCell ⟨m, 0, none⟩ (.int .i64 1)).setCell ⟨m, 1, none⟩ (.int .u64 q)).setCell ⟨m, 2, none⟩ (.int .i64 r.off)).setCell ⟨m, 3, none⟩ (.int .i64 r.count)).setCell ⟨m, 4, none⟩ (.int .i64 r.page)).setCell ⟨m, 5, none⟩ (.int .i64 z)).setCell ⟨m, 6, none⟩ (.int .i64 0)).setCell ⟨m, 7, none⟩ (.string ⟨#[]⟩)) := (((((((hM.setCell (p := ⟨m, 0, none⟩) (.inl (by show w.heap.size ≤ m; omega)) _).setCell (p := ⟨m, 1, none⟩) (.inl (by show w.heap.size ≤ m; omega)) _).setCell (p := ⟨m, 2, none⟩) (.inl (by show w.heap.size ≤ m; omega)) _).setCell (p := ⟨m, 3, none⟩) (.inl (by show w.heap.size ≤ m; omega)) _).setCell (p := ⟨m, 4, none⟩) (.inl (by show w.heap.size ≤ m; omega)) _).setCell (p := ⟨m, 5, none⟩) (.inl (by show w.heap.size ≤ m; omega)) _).setCell (p := ⟨m, 6, none⟩) (.inl (by show w.heap.size ≤ m; omega)) _).setCell (p := ⟨m, 7, none⟩) (.inl (by show w.heap.size ≤ m; omega)) _
  have BZ := hide bz
  have HZ := hide hz
  clear bz hz
  go_wp2
  have z0 := BZ.out.cell 0
  have z1 := BZ.out.cell 1
  have z2 := BZ.out.cell 2
  have z3 := BZ.out.cell 3
  have z4 := BZ.out.cell 4
  have z5 := BZ.out.cell 5
  have z6 := BZ.out.cell 6
  have z7 := BZ.out.cell 7
  refine ⟨rfl, .agg #[.int .i64 1, .int .u64 q, .int .i64 r.off, .int .i64 r.count, .int .i64 r.page, .int .i64 z, .int .i64 0, .string ⟨#[]⟩], ?_, rfl, HZ.out⟩
  simp [results, Tryz.results35, go_sem, z0, z1, z2, z3, z4, z5, z6, z7]

set_option maxRecDepth 100000 in
set_option maxHeartbeats 4000000 in
theorem entry_resize (w : World) (z : Int) (q : Int) (h0 : 0 ≤ q) (h1 : q ≤ 9223372036854775807) : Calls Tryz.prog 35 #[stepV (.resize z), .int .i64 q] w fun e w' => e = .returned (.agg (encEntry (entOf (.resize z) q)).toArray) ∧ Mod None_ w w' := by
  have a1 := fun v w => as_write v w 62
  have a2 := fun v w => as_resize v w 62
  have a3 := fun v w => as_add v w 62
  have a4 := fun v w => no_write v w 62 94 (by decide)
  have a5 := fun v w => no_write v w 62 96 (by decide)
  have a6 := fun v w => no_resize v w 62 96 (by decide)
  unfold stepV
  go_enter Tryz.func35, Tryz.ntmps35
  obtain ⟨m, hm⟩ : ∃ m, m = w.heap.size := ⟨_, rfl⟩
  obtain ⟨w1, hw1⟩ : ∃ w1, w1 = ((w.alloc (.cells #[.int .i64 0, .int .u64 0, .int .i64 0, .int .i64 0, .int .i64 0, .int .i64 0, .int .i64 0, .string ⟨#[]⟩] 49)).alloc (.cells #[.int .i64 0, .int .u64 q, .int .i64 0, .int .i64 0, .int .i64 0, .int .i64 0, .int .i64 0, .string ⟨#[]⟩] 49)).alloc (.cells #[.int .i64 z] 94) := ⟨_, rfl⟩
  have hM : Mod None_ w w1 := by rw [hw1]; exact (((Mod.refl _ w).alloc _).alloc _).alloc _
  have b4 : Blk w1 m 49 #[.int .i64 0, .int .u64 0, .int .i64 0, .int .i64 0, .int .i64 0, .int .i64 0, .int .i64 0, .string ⟨#[]⟩] := by rw [hw1, hm]; exact ((Blk.new w 49 _).alloc _).alloc _
  have b5 : Blk w1 (m + 1) 49 #[.int .i64 0, .int .u64 q, .int .i64 0, .int .i64 0, .int .i64 0, .int .i64 0, .int .i64 0, .string ⟨#[]⟩] := by
    have := (Blk.new (w.alloc (.cells #[.int .i64 0, .int .u64 0, .int .i64 0, .int .i64 0, .int .i64 0, .int .i64 0, .int .i64 0, .string ⟨#[]⟩] 49)) 49 #[.int .i64 0, .int .u64 q, .int .i64 0, .int .i64 0, .int .i64 0, .int .i64 0, .int .i64 0, .string ⟨#[]⟩]).alloc (.cells #[.int .i64 z] 94)
    rw [← hw1, alloc_size, ← hm] at this
    exact this
  have b6 : Blk w1 (m + 1 + 1) 94 #[.int .i64 z] := by
    have := Blk.new ((w.alloc (.cells #[.int .i64 0, .int .u64 0, .int .i64 0, .int .i64 0, .int .i64 0, .int .i64 0, .int .i64 0, .string ⟨#[]⟩] 49)).alloc (.cells #[.int .i64 0, .int .u64 q, .int .i64 0, .int .i64 0, .int .i64 0, .int .i64 0, .int .i64 0, .string ⟨#[]⟩] 49)) 94 #[.int .i64 z]
    rw [← hw1, alloc_size, alloc_size, ← hm] at this
    exact this
  have hgem : w.heap.size ≤ m := by omega
  have HM := hide hm
  have HW := hide hw1
  clear hm hw1
  go_wp2_with fail
  rw [← HW.out, ← HM.out]
  clear HW HM
  refine region_mxw [(true, 0), (true, 1), (true, 2), (false, 3), (true, 4), (false, 5)] (fun w' => Blk w' (m + 1 + 1) 94 #[.int .i64 z]) (by kernel_rfl) (by kernel_rfl) ?_
  rintro w3 hw3
  have hm3 : Mod None_ w1 w3 := by rw [hw3]; exact (Mod.refl _ w1).drew
  replace b4 := b4.mod hm3 id
  replace b5 := b5.mod hm3 id
  replace b6 := b6.mod hm3 id
  replace hM := hM.trans hm3
  clear hw3 hm3
  refine ⟨b6, ?_⟩
  iterate 3 (refine mxw_quiet rfl (fun w' i1 K hK => by have x0 := i1.cell 0; (try go_simp); exact hK) ?_; try go_frame)
  have f0 : w3.frozen? ⟨m + 1, 0, none⟩ = false := b5.frozen 0
  have c0 : w3.cell? ⟨m + 1, 0, none⟩ = some (.int .i64 0) := b5.cell 0
  refine mxw_loud rfl (fun K hK => ?_)
  go_simp
  obtain ⟨w10, hw10⟩ : ∃ w', w' = w3.setCell ⟨m + 1, 0, none⟩ (.int .i64 2) := ⟨_, rfl⟩
  have hmw10 : Mod (· = m + 1) w3 w10 := by rw [hw10]; exact (Mod.refl (· = m + 1) w3).setCell (p := ⟨m + 1, 0, none⟩) (.inr rfl) _
  replace b5 : Blk w10 (m + 1) 49 #[.int .i64 2, .int .u64 q, .int .i64 0, .int .i64 0, .int .i64 0, .int .i64 0, .int .i64 0, .string ⟨#[]⟩] := by rw [hw10]; exact b5.set_ 0 (.int .i64 2)
  replace b4 := b4.mod hmw10 (by omega)
  replace b6 := b6.mod hmw10 (by omega)
  replace hM := hM.trans' hmw10 (fun k hk e => by omega)
  rw [← hw10]
  clear hw10 hmw10 f0 c0
  refine ⟨b6, hK _ _ ?_⟩
  clear hK K
  try go_frame
  iterate 1 (refine mxw_quiet rfl (fun w' i1 K hK => by have x0 := i1.cell 0; (try go_simp); exact hK) ?_; try go_frame)
  have f1 : w10.frozen? ⟨m + 1, 5, none⟩ = false := b5.frozen 5
  have c1 : w10.cell? ⟨m + 1, 5, none⟩ = some (.int .i64 0) := b5.cell 5
  refine mxw_loud rfl (fun K hK => ?_)
  go_simp
  obtain ⟨w11, hw11⟩ : ∃ w', w' = w10.setCell ⟨m + 1, 5, none⟩ (.int .i64 z) := ⟨_, rfl⟩
  have hmw11 : Mod (· = m + 1) w10 w11 := by rw [hw11]; exact (Mod.refl (· = m + 1) w10).setCell (p := ⟨m + 1, 5, none⟩) (.inr rfl) _
  replace b5 : Blk w11 (m + 1) 49 #[.int .i64 2, .int .u64 q, .int .i64 0, .int .i64 0, .int .i64 0, .int .i64 z, .int .i64 0, .string ⟨#[]⟩] := by rw [hw11]; exact b5.set_ 5 (.int .i64 z)
  replace b4 := b4.mod hmw11 (by omega)
  replace b6 := b6.mod hmw11 (by omega)
  replace hM := hM.trans' hmw11 (fun k hk e => by omega)
  rw [← hw11]
  clear hw11 hmw11 f1 c1
  refine ⟨b6, hK _ _ ?_⟩
  clear hK K
  try go_frame
  refine mxw_nil ?_
  have e0 : w11.cell? ⟨m + 1, 0, none⟩ = some (.int .i64 2) := b5.cell 0
  have k0 : w11.cell? ⟨m, 0, none⟩ = some (.int .i64 0) := b4.cell 0
  have g0 : w11.frozen? ⟨m, 0, none⟩ = false := b4.frozen 0
  have e1 : w11.cell? ⟨m + 1, 1, none⟩ = some (.int .u64 q) := b5.cell 1
  have k1 : w11.cell? ⟨m, 1, none⟩ = some (.int .u64 0) := b4.cell 1
  have g1 : w11.frozen? ⟨m, 1, none⟩ = false := b4.frozen 1
  have e2 : w11.cell? ⟨m + 1, 2, none⟩ = some (.int .i64 0) := b5.cell 2
  have k2 : w11.cell? ⟨m, 2, none⟩ = some (.int .i64 0) := b4.cell 2
  have g2 : w11.frozen? ⟨m, 2, none⟩ = false := b4.frozen 2
  have e3 : w11.cell? ⟨m + 1, 3, none⟩ = some (.int .i64 0) := b5.cell 3
  have k3 : w11.cell? ⟨m, 3, none⟩ = some (.int .i64 0) := b4.cell 3
  have g3 : w11.frozen? ⟨m, 3, none⟩ = false := b4.frozen 3
  have e4 : w11.cell? ⟨m + 1, 4, none⟩ = some (.int .i64 0) := b5.cell 4
  have k4 : w11.cell? ⟨m, 4, none⟩ = some (.int .i64 0) := b4.cell 4
  have g4 : w11.frozen? ⟨m, 4, none⟩ = false := b4.frozen 4
  have e5 : w11.cell? ⟨m + 1, 5, none⟩ = some (.int .i64 z) := b5.cell 5
  have k5 : w11.cell? ⟨m, 5, none⟩ = some (.int .i64 0) := b4.cell 5
  have g5 : w11.frozen? ⟨m, 5, none⟩ = false := b4.frozen 5
  have e6 : w11.cell? ⟨m + 1, 6, none⟩ = some (.int .i64 0) := b5.cell 6
  have k6 : w11.cell? ⟨m, 6, none⟩ = some (.int .i64 0) := b4.cell 6
  have g6 : w11.frozen? ⟨m, 6, none⟩ = false := b4.frozen 6
  have e7 : w11.cell? ⟨m + 1, 7, none⟩ = some (.string ⟨#[]⟩) := b5.cell 7
  have k7 : w11.cell? ⟨m, 7, none⟩ = some (.string ⟨#[]⟩) := b4.cell 7
  have g7 : w11.frozen? ⟨m, 7, none⟩ = false := b4.frozen 7
  have y0 : Blk (w11.setCell ⟨m, 0, none⟩ (.int .i64 2)) m 49 #[.int .i64 2, .int .u64 0, .int .i64 0, .int .i64 0, .int .i64 0, .int .i64 0, .int .i64 0, .string ⟨#[]⟩] := b4.set_ 0 (.int .i64 2)
  have y1 : Blk ((w11.setCell ⟨m, 0, none⟩ (.int .i64 2)).setCell ⟨m, 1, none⟩ (.int .u64 q)) m 49 #[.int .i64 2, .int .u64 q, .int .i64 0, .int .i64 0, .int .i64 0, .int .i64 0, .int .i64 0, .string ⟨#[]⟩] := y0.set_ 1 (.int .u64 q)
  have y2 : Blk (((w11.setCell ⟨m, 0, none⟩ (.int .i64 2)).setCell ⟨m, 1, none⟩ (.int .u64 q)).setCell ⟨m, 2, none⟩ (.int .i64 0)) m 49 #[.int .i64 2, .int .u64 q, .int .i64 0, .int .i64 0, .int .i64 0, .int .i64 0, .int .i64 0, .string ⟨#[]⟩] := y1.set_ 2 (.int .i64 0)
  have y3 : Blk ((((w11.setCell ⟨m, 0, none⟩ (.int .i64 2)).setCell ⟨m, 1, none⟩ (.int .u64 q)).setCell ⟨m, 2, none⟩ (.int .i64 0)).setCell ⟨m, 3, none⟩ (.int .i64 0)) m 49 #[.int .i64 2, .int .u64 q, .int .i64 0, .int .i64 0, .int .i64 0, .int .i64 0, .int .i64 0, .string ⟨#[]⟩] := y2.set_ 3 (.int .i64 0)
  have y4 : Blk (((((w11.setCell ⟨m, 0, none⟩ (.int .i64 2)).setCell ⟨m, 1, none⟩ (.int .u64 q)).setCell ⟨m, 2, none⟩ (.int .i64 0)).setCell ⟨m, 3, none⟩ (.int .i64 0)).setCell ⟨m, 4, none⟩ (.int .i64 0)) m 49 #[.int .i64 2, .int .u64 q, .int .i64 0, .int .i64 0, .int .i64 0, .int .i64 0, .int .i64 0, .string ⟨#[]⟩] := y3.set_ 4 (.int .i64 0)
  have y5 : Blk ((((((w11.setCell ⟨m, 0, none⟩ (.int .i64 2)).setCell ⟨m, 1, none⟩ (.int .u64 q)).setCell ⟨m, 2, none⟩ (.int .i64 0)).setCell ⟨m, 3, none⟩ (.int .i64 0)).setCell ⟨m, 4, none⟩ (.int .i64 0)).setCell ⟨m, 5, none⟩ (.int .i64 z)) m 49 #[.int .i64 2, .int .u64 q, .int .i64 0, .int .i64 0, .int .i64 0, .int .i64 z, .int .i64 0, .string ⟨#[]⟩] := y4.set_ 5 (.int .i64 z)
  have y6 : Blk (((((((w11.setCell ⟨m, 0, none⟩ (.int .i64 2)).setCell ⟨m, 1, none⟩ (.int .u64 q)).setCell ⟨m, 2, none⟩ (.int .i64 0)).setCell ⟨m, 3, none⟩ (.int .i64 0)).setCell ⟨m, 4, none⟩ (.int .i64 0)).setCell ⟨m, 5, none⟩ (.int .i64 z)).setCell ⟨m, 6, none⟩ (.int .i64 0)) m 49 #[.int .i64 2, .int .u64 q, .int .i64 0, .int .i64 0, .int .i64 0, .int .i64 z, .int .i64 0, .string ⟨#[]⟩] := y5.set_ 6 (.int .i64 0)
  have y7 : Blk ((((((((w11.setCell ⟨m, 0, none⟩ (.int .i64 2)).setCell ⟨m, 1, none⟩ (.int .u64 q)).setCell ⟨m, 2, none⟩ (.int .i64 0)).setCell ⟨m, 3, none⟩ (.int .i64 0)).setCell ⟨m, 4, none⟩ (.int .i64 0)).setCell ⟨m, 5, none⟩ (.int .i64 z)).setCell ⟨m, 6, none⟩ (.int .i64 0)).setCell ⟨m, 7, none⟩ (.string ⟨#[]⟩)) m 49 #[.int .i64 2, .int .u64 q, .int .i64 0, .int .i64 0, .int .i64 0, .int .i64 z, .int .i64 0, .string ⟨#[]⟩] := y6.set_ 7 (.string ⟨#[]⟩)
  have bz := y7
  clear y0 y1 y2 y3 y4 y5 y6 y7
  have hz : Mod None_ w ((((((((w11.setCell ⟨m, 0, none⟩ (.int .i64 2)).setCell ⟨m, 1, none⟩ (.int .u64 q)).setCell ⟨m, 2, none⟩ (.int .i64 0)).setCell ⟨m, 3, none⟩ (.int .i64 0)).setCell ⟨m, 4, none⟩ (.int .i64 0)).setCell ⟨m, 5, none⟩ (.int .i64 z)).setCell ⟨m, 6, none⟩ (.int .i64 0)).setCell ⟨m, 7, none⟩ (.string ⟨#[]⟩)) := (((((((hM.setCell (p := ⟨m, 0, none⟩) (.inl (by show w.heap.size ≤ m; omega)) _).setCell (p := ⟨m, 1, none⟩) (.inl (by show w.heap.size ≤ m; omega)) _).setCell (p := ⟨m, 2, none⟩) (.inl (by show w.heap.size ≤ m; omega)) _).setCell (p := ⟨m, 3, none⟩) (.inl (by show w.heap.size ≤ m; omega)) _).setCell (p := ⟨m, 4, none⟩) (.inl (by show w.heap.size ≤ m; omega)) _).setCell (p := ⟨m, 5, none⟩) (.inl (by show w.heap.size ≤ m; omega)) _).setCell (p := ⟨m, 6, none⟩) (.inl (by show w.heap.size ≤ m; omega)) _).setCell (p := ⟨m, 7, none⟩) (.inl (by show w.heap.size ≤ m; omega)) _
  have BZ := hide bz
  have HZ := hide hz
  clear bz hz
  go_wp2
  have z0 := BZ.out.cell 0
  have z1 := BZ.out.cell 1
  have z2 := BZ.out.cell 2
  have z3 := BZ.out.cell 3
  have z4 := BZ.out.cell 4
  have z5 := BZ.out.cell 5
  have z6 := BZ.out.cell 6
  have z7 := BZ.out.cell 7
  refine ⟨rfl, .agg #[.int .i64 2, .int .u64 q, .int .i64 0, .int .i64 0, .int .i64 0, .int .i64 z, .int .i64 0, .string ⟨#[]⟩], ?_, rfl, HZ.out⟩
  simp [results, Tryz.results35, go_sem, z0, z1, z2, z3, z4, z5, z6, z7]

set_option maxRecDepth 100000 in
set_option maxHeartbeats 4000000 in
theorem entry_add (w : World) (nm : ByteArray) (i : Int) (q : Int) (h0 : 0 ≤ q) (h1 : q ≤ 9223372036854775807) : Calls Tryz.prog 35 #[stepV (.add nm i), .int .i64 q] w fun e w' => e = .returned (.agg (encEntry (entOf (.add nm i) q)).toArray) ∧ Mod None_ w w' := by
  have a1 := fun v w => as_write v w 62
  have a2 := fun v w => as_resize v w 62
  have a3 := fun v w => as_add v w 62
  have a4 := fun v w => no_write v w 62 94 (by decide)
  have a5 := fun v w => no_write v w 62 96 (by decide)
  have a6 := fun v w => no_resize v w 62 96 (by decide)
  unfold stepV
  go_enter Tryz.func35, Tryz.ntmps35
  obtain ⟨m, hm⟩ : ∃ m, m = w.heap.size := ⟨_, rfl⟩
  obtain ⟨w1, hw1⟩ : ∃ w1, w1 = ((w.alloc (.cells #[.int .i64 0, .int .u64 0, .int .i64 0, .int .i64 0, .int .i64 0, .int .i64 0, .int .i64 0, .string ⟨#[]⟩] 49)).alloc (.cells #[.int .i64 0, .int .u64 q, .int .i64 0, .int .i64 0, .int .i64 0, .int .i64 0, .int .i64 0, .string ⟨#[]⟩] 49)).alloc (.cells #[.string nm, .int .i64 i] 96) := ⟨_, rfl⟩
  have hM : Mod None_ w w1 := by rw [hw1]; exact (((Mod.refl _ w).alloc _).alloc _).alloc _
  have b4 : Blk w1 m 49 #[.int .i64 0, .int .u64 0, .int .i64 0, .int .i64 0, .int .i64 0, .int .i64 0, .int .i64 0, .string ⟨#[]⟩] := by rw [hw1, hm]; exact ((Blk.new w 49 _).alloc _).alloc _
  have b5 : Blk w1 (m + 1) 49 #[.int .i64 0, .int .u64 q, .int .i64 0, .int .i64 0, .int .i64 0, .int .i64 0, .int .i64 0, .string ⟨#[]⟩] := by
    have := (Blk.new (w.alloc (.cells #[.int .i64 0, .int .u64 0, .int .i64 0, .int .i64 0, .int .i64 0, .int .i64 0, .int .i64 0, .string ⟨#[]⟩] 49)) 49 #[.int .i64 0, .int .u64 q, .int .i64 0, .int .i64 0, .int .i64 0, .int .i64 0, .int .i64 0, .string ⟨#[]⟩]).alloc (.cells #[.string nm, .int .i64 i] 96)
    rw [← hw1, alloc_size, ← hm] at this
    exact this
  have b6 : Blk w1 (m + 1 + 1) 96 #[.string nm, .int .i64 i] := by
    have := Blk.new ((w.alloc (.cells #[.int .i64 0, .int .u64 0, .int .i64 0, .int .i64 0, .int .i64 0, .int .i64 0, .int .i64 0, .string ⟨#[]⟩] 49)).alloc (.cells #[.int .i64 0, .int .u64 q, .int .i64 0, .int .i64 0, .int .i64 0, .int .i64 0, .int .i64 0, .string ⟨#[]⟩] 49)) 96 #[.string nm, .int .i64 i]
    rw [← hw1, alloc_size, alloc_size, ← hm] at this
    exact this
  have hgem : w.heap.size ≤ m := by omega
  have HM := hide hm
  have HW := hide hw1
  clear hm hw1
  go_wp2_with fail
  rw [← HW.out, ← HM.out]
  clear HW HM
  refine region_mxw [(true, 0), (true, 1), (true, 2), (true, 3), (true, 4), (true, 5), (true, 6), (false, 7), (true, 8), (false, 9), (true, 10), (false, 11)] (fun w' => Blk w' (m + 1 + 1) 96 #[.string nm, .int .i64 i]) (by kernel_rfl) (by kernel_rfl) ?_
  rintro w3 hw3
  have hm3 : Mod None_ w1 w3 := by rw [hw3]; exact (Mod.refl _ w1).drew
  replace b4 := b4.mod hm3 id
  replace b5 := b5.mod hm3 id
  replace b6 := b6.mod hm3 id
  replace hM := hM.trans hm3
  clear hw3 hm3
  refine ⟨b6, ?_⟩
  iterate 7 (refine mxw_quiet rfl (fun w' i1 K hK => by have x0 := i1.cell 0; have x1 := i1.cell 1; (try go_simp); exact hK) ?_; try go_frame)
  have f0 : w3.frozen? ⟨m + 1, 0, none⟩ = false := b5.frozen 0
  have c0 : w3.cell? ⟨m + 1, 0, none⟩ = some (.int .i64 0) := b5.cell 0
  refine mxw_loud rfl (fun K hK => ?_)
  go_simp
  obtain ⟨w10, hw10⟩ : ∃ w', w' = w3.setCell ⟨m + 1, 0, none⟩ (.int .i64 3) := ⟨_, rfl⟩
  have hmw10 : Mod (· = m + 1) w3 w10 := by rw [hw10]; exact (Mod.refl (· = m + 1) w3).setCell (p := ⟨m + 1, 0, none⟩) (.inr rfl) _
  replace b5 : Blk w10 (m + 1) 49 #[.int .i64 3, .int .u64 q, .int .i64 0, .int .i64 0, .int .i64 0, .int .i64 0, .int .i64 0, .string ⟨#[]⟩] := by rw [hw10]; exact b5.set_ 0 (.int .i64 3)
  replace b4 := b4.mod hmw10 (by omega)
  replace b6 := b6.mod hmw10 (by omega)
  replace hM := hM.trans' hmw10 (fun k hk e => by omega)
  rw [← hw10]
  clear hw10 hmw10 f0 c0
  refine ⟨b6, hK _ _ ?_⟩
  clear hK K
  try go_frame
  iterate 1 (refine mxw_quiet rfl (fun w' i1 K hK => by have x0 := i1.cell 0; have x1 := i1.cell 1; (try go_simp); exact hK) ?_; try go_frame)
  have f1 : w10.frozen? ⟨m + 1, 7, none⟩ = false := b5.frozen 7
  have c1 : w10.cell? ⟨m + 1, 7, none⟩ = some (.string ⟨#[]⟩) := b5.cell 7
  refine mxw_loud rfl (fun K hK => ?_)
  go_simp
  obtain ⟨w11, hw11⟩ : ∃ w', w' = w10.setCell ⟨m + 1, 7, none⟩ (.string nm) := ⟨_, rfl⟩
  have hmw11 : Mod (· = m + 1) w10 w11 := by rw [hw11]; exact (Mod.refl (· = m + 1) w10).setCell (p := ⟨m + 1, 7, none⟩) (.inr rfl) _
  replace b5 : Blk w11 (m + 1) 49 #[.int .i64 3, .int .u64 q, .int .i64 0, .int .i64 0, .int .i64 0, .int .i64 0, .int .i64 0, .string nm] := by rw [hw11]; exact b5.set_ 7 (.string nm)
  replace b4 := b4.mod hmw11 (by omega)
  replace b6 := b6.mod hmw11 (by omega)
  replace hM := hM.trans' hmw11 (fun k hk e => by omega)
  rw [← hw11]
  clear hw11 hmw11 f1 c1
  refine ⟨b6, hK _ _ ?_⟩
  clear hK K
  try go_frame
  iterate 1 (refine mxw_quiet rfl (fun w' i1 K hK => by have x0 := i1.cell 0; have x1 := i1.cell 1; (try go_simp); exact hK) ?_; try go_frame)
  have f2 : w11.frozen? ⟨m + 1, 6, none⟩ = false := b5.frozen 6
  have c2 : w11.cell? ⟨m + 1, 6, none⟩ = some (.int .i64 0) := b5.cell 6
  refine mxw_loud rfl (fun K hK => ?_)
  go_simp
  obtain ⟨w12, hw12⟩ : ∃ w', w' = w11.setCell ⟨m + 1, 6, none⟩ (.int .i64 i) := ⟨_, rfl⟩
  have hmw12 : Mod (· = m + 1) w11 w12 := by rw [hw12]; exact (Mod.refl (· = m + 1) w11).setCell (p := ⟨m + 1, 6, none⟩) (.inr rfl) _
  replace b5 : Blk w12 (m + 1) 49 #[.int .i64 3, .int .u64 q, .int .i64 0, .int .i64 0, .int .i64 0, .int .i64 0, .int .i64 i, .string nm] := by rw [hw12]; exact b5.set_ 6 (.int .i64 i)
  replace b4 := b4.mod hmw12 (by omega)
  replace b6 := b6.mod hmw12 (by omega)
  replace hM := hM.trans' hmw12 (fun k hk e => by omega)
  rw [← hw12]
  clear hw12 hmw12 f2 c2
  refine ⟨b6, hK _ _ ?_⟩
  clear hK K
  try go_frame
  refine mxw_nil ?_
  have e0 : w12.cell? ⟨m + 1, 0, none⟩ = some (.int .i64 3) := b5.cell 0
  have k0 : w12.cell? ⟨m, 0, none⟩ = some (.int .i64 0) := b4.cell 0
  have g0 : w12.frozen? ⟨m, 0, none⟩ = false := b4.frozen 0
  have e1 : w12.cell? ⟨m + 1, 1, none⟩ = some (.int .u64 q) := b5.cell 1
  have k1 : w12.cell? ⟨m, 1, none⟩ = some (.int .u64 0) := b4.cell 1
  have g1 : w12.frozen? ⟨m, 1, none⟩ = false := b4.frozen 1
  have e2 : w12.cell? ⟨m + 1, 2, none⟩ = some (.int .i64 0) := b5.cell 2
  have k2 : w12.cell? ⟨m, 2, none⟩ = some (.int .i64 0) := b4.cell 2
  have g2 : w12.frozen? ⟨m, 2, none⟩ = false := b4.frozen 2
  have e3 : w12.cell? ⟨m + 1, 3, none⟩ = some (.int .i64 0) := b5.cell 3
  have k3 : w12.cell? ⟨m, 3, none⟩ = some (.int .i64 0) := b4.cell 3
  have g3 : w12.frozen? ⟨m, 3, none⟩ = false := b4.frozen 3
  have e4 : w12.cell? ⟨m + 1, 4, none⟩ = some (.int .i64 0) := b5.cell 4
  have k4 : w12.cell? ⟨m, 4, none⟩ = some (.int .i64 0) := b4.cell 4
  have g4 : w12.frozen? ⟨m, 4, none⟩ = false := b4.frozen 4
  have e5 : w12.cell? ⟨m + 1, 5, none⟩ = some (.int .i64 0) := b5.cell 5
  have k5 : w12.cell? ⟨m, 5, none⟩ = some (.int .i64 0) := b4.cell 5
  have g5 : w12.frozen? ⟨m, 5, none⟩ = false := b4.frozen 5
  have e6 : w12.cell? ⟨m + 1, 6, none⟩ = some (.int .i64 i) := b5.cell 6
  have k6 : w12.cell? ⟨m, 6, none⟩ = some (.int .i64 0) := b4.cell 6
  have g6 : w12.frozen? ⟨m, 6, none⟩ = false := b4.frozen 6
  have e7 : w12.cell? ⟨m + 1, 7, none⟩ = some (.string nm) := b5.cell 7
  have k7 : w12.cell? ⟨m, 7, none⟩ = some (.string ⟨#[]⟩) := b4.cell 7
  have g7 : w12.frozen? ⟨m, 7, none⟩ = false := b4.frozen 7
  have y0 : Blk (w12.setCell ⟨m, 0, none⟩ (.int .i64 3)) m 49 #[.int .i64 3, .int .u64 0, .int .i64 0, .int .i64 0, .int .i64 0, .int .i64 0, .int .i64 0, .string ⟨#[]⟩] := b4.set_ 0 (.int .i64 3)
  have y1 : Blk ((w12.setCell ⟨m, 0, none⟩ (.int .i64 3)).setCell ⟨m, 1, none⟩ (.int .u64 q)) m 49 #[.int .i64 3, .int .u64 q, .int .i64 0, .int .i64 0, .int .i64 0, .int .i64 0, .int .i64 0, .string ⟨#[]⟩] := y0.set_ 1 (.int .u64 q)
  have y2 : Blk (((w12.setCell ⟨m, 0, none⟩ (.int .i64 3)).setCell ⟨m, 1, none⟩ (.int .u64 q)).setCell ⟨m, 2, none⟩ (.int .i64 0)) m 49 #[.int .i64 3, .int .u64 q, .int .i64 0, .int .i64 0, .int .i64 0, .int .i64 0, .int .i64 0, .string ⟨#[]⟩] := y1.set_ 2 (.int .i64 0)
  have y3 : Blk ((((w12.setCell ⟨m, 0, none⟩ (.int .i64 3)).setCell ⟨m, 1, none⟩ (.int .u64 q)).setCell ⟨m, 2, none⟩ (.int .i64 0)).setCell ⟨m, 3, none⟩ (.int .i64 0)) m 49 #[.int .i64 3, .int .u64 q, .int .i64 0, .int .i64 0, .int .i64 0, .int .i64 0, .int .i64 0, .string ⟨#[]⟩] := y2.set_ 3 (.int .i64 0)
  have y4 : Blk (((((w12.setCell ⟨m, 0, none⟩ (.int .i64 3)).setCell ⟨m, 1, none⟩ (.int .u64 q)).setCell ⟨m, 2, none⟩ (.int .i64 0)).setCell ⟨m, 3, none⟩ (.int .i64 0)).setCell ⟨m, 4, none⟩ (.int .i64 0)) m 49 #[.int .i64 3, .int .u64 q, .int .i64 0, .int .i64 0, .int .i64 0, .int .i64 0, .int .i64 0, .string ⟨#[]⟩] := y3.set_ 4 (.int .i64 0)
  have y5 : Blk ((((((w12.setCell ⟨m, 0, none⟩ (.int .i64 3)).setCell ⟨m, 1, none⟩ (.int .u64 q)).setCell ⟨m, 2, none⟩ (.int .i64 0)).setCell ⟨m, 3, none⟩ (.int .i64 0)).setCell ⟨m, 4, none⟩ (.int .i64 0)).setCell ⟨m, 5, none⟩ (.int .i64 0)) m 49 #[.int .i64 3, .int .u64 q, .int .i64 0, .int .i64 0, .int .i64 0, .int .i64 0, .int .i64 0, .string ⟨#[]⟩] := y4.set_ 5 (.int .i64 0)
  have y6 : Blk (((((((w12.setCell ⟨m, 0, none⟩ (.int .i64 3)).setCell ⟨m, 1, none⟩ (.int .u64 q)).setCell ⟨m, 2, none⟩ (.int .i64 0)).setCell ⟨m, 3, none⟩ (.int .i64 0)).setCell ⟨m, 4, none⟩ (.int .i64 0)).setCell ⟨m, 5, none⟩ (.int .i64 0)).setCell ⟨m, 6, none⟩ (.int .i64 i)) m 49 #[.int .i64 3, .int .u64 q, .int .i64 0, .int .i64 0, .int .i64 0, .int .i64 0, .int .i64 i, .string ⟨#[]⟩] := y5.set_ 6 (.int .i64 i)
  have y7 : Blk ((((((((w12.setCell ⟨m, 0, none⟩ (.int .i64 3)).setCell ⟨m, 1, none⟩ (.int .u64 q)).setCell ⟨m, 2, none⟩ (.int .i64 0)).setCell ⟨m, 3, none⟩ (.int .i64 0)).setCell ⟨m, 4, none⟩ (.int .i64 0)).setCell ⟨m, 5, none⟩ (.int .i64 0)).setCell ⟨m, 6, none⟩ (.int .i64 i)).setCell ⟨m, 7, none⟩ (.string nm)) m 49 #[.int .i64 3, .int .u64 q, .int .i64 0, .int .i64 0, .int .i64 0, .int .i64 0, .int .i64 i, .string nm] := y6.set_ 7 (.string nm)
  have bz := y7
  clear y0 y1 y2 y3 y4 y5 y6 y7
  have hz : Mod None_ w ((((((((w12.setCell ⟨m, 0, none⟩ (.int .i64 3)).setCell ⟨m, 1, none⟩ (.int .u64 q)).setCell ⟨m, 2, none⟩ (.int .i64 0)).setCell ⟨m, 3, none⟩ (.int .i64 0)).setCell ⟨m, 4, none⟩ (.int .i64 0)).setCell ⟨m, 5, none⟩ (.int .i64 0)).setCell ⟨m, 6, none⟩ (.int .i64 i)).setCell ⟨m, 7, none⟩ (.string nm)) := (((((((hM.setCell (p := ⟨m, 0, none⟩) (.inl (by show w.heap.size ≤ m; omega)) _).setCell (p := ⟨m, 1, none⟩) (.inl (by show w.heap.size ≤ m; omega)) _).setCell (p := ⟨m, 2, none⟩) (.inl (by show w.heap.size ≤ m; omega)) _).setCell (p := ⟨m, 3, none⟩) (.inl (by show w.heap.size ≤ m; omega)) _).setCell (p := ⟨m, 4, none⟩) (.inl (by show w.heap.size ≤ m; omega)) _).setCell (p := ⟨m, 5, none⟩) (.inl (by show w.heap.size ≤ m; omega)) _).setCell (p := ⟨m, 6, none⟩) (.inl (by show w.heap.size ≤ m; omega)) _).setCell (p := ⟨m, 7, none⟩) (.inl (by show w.heap.size ≤ m; omega)) _
  have BZ := hide bz
  have HZ := hide hz
  clear bz hz
  go_wp2
  have z0 := BZ.out.cell 0
  have z1 := BZ.out.cell 1
  have z2 := BZ.out.cell 2
  have z3 := BZ.out.cell 3
  have z4 := BZ.out.cell 4
  have z5 := BZ.out.cell 5
  have z6 := BZ.out.cell 6
  have z7 := BZ.out.cell 7
  refine ⟨rfl, .agg #[.int .i64 3, .int .u64 q, .int .i64 0, .int .i64 0, .int .i64 0, .int .i64 0, .int .i64 i, .string nm], ?_, rfl, HZ.out⟩
  simp [results, Tryz.results35, go_sem, z0, z1, z2, z3, z4, z5, z6, z7]

theorem entry_any (w : World) (s : StepD) (q : Int) (h0 : 0 ≤ q) (h1 : q ≤ 9223372036854775807) : Calls Tryz.prog 35 #[stepV s, .int .i64 q] w fun e w' => e = .returned (.agg (encEntry (entOf s q)).toArray) ∧ Mod None_ w w' := by
  cases s with
  | write r z => exact entry_write w r z q h0 h1
  | resize z => exact entry_resize w z q h0 h1
  | add n i => exact entry_add w n i q h0 h1
end Go.Proofs.YtabebkffcmajkaaGreatDoor

/-! Walk: steps. -/
namespace Go.Proofs.YtabebkffcmajkaaGreatDoor
open Go.RowKit Go.Maps Go.Shelf
attribute [local go_sem] quietV loudUpon Oper.semAt_some

/-- a run that no sum over overflows -/
structure Tame (r : RunD) : Prop where
  off : 0 ≤ r.off
  page : 0 ≤ r.page
  count : 0 ≤ r.count
  most : r.count ≤ 512
  offs : r.off + r.count ≤ 100000
  pages : r.page + r.count ≤ 100000
def cut16 (c : Int) : Int := if 16 < c then 16 else c
def pieces : Nat → RunD → List RunD
  | 0, _ => []
  | k + 1, r => if r.count ≤ 0 then [] else ⟨r.off, r.page, cut16 r.count⟩ :: pieces k ⟨r.off + cut16 r.count, r.page + cut16 r.count, r.count - cut16 r.count⟩
theorem cut16_pos {c : Int} (h : 0 < c) : 0 < cut16 c ∧ cut16 c ≤ c := by unfold cut16; split <;> omega
theorem pieces_fuel : ∀ (k j : Nat) (r : RunD), r.count.toNat ≤ k → r.count.toNat ≤ j → pieces k r = pieces j r := by
  intro k
  induction k with
  | zero =>
    intro j r h h2
    cases j with
    | zero => rfl
    | succ j => unfold pieces; rw [if_pos (by omega)]
  | succ k ih =>
    intro j r h h2
    by_cases h0 : r.count ≤ 0
    · cases j with
      | zero => unfold pieces; rw [if_pos h0]
      | succ j => unfold pieces; rw [if_pos h0, if_pos h0]
    · have hc := cut16_pos (c := r.count) (by omega)
      cases j with
      | zero => omega
      | succ j =>
        unfold pieces
        rw [if_neg h0, if_neg h0, ih j _ (by show (r.count - cut16 r.count).toNat ≤ k; omega) (by show (r.count - cut16 r.count).toNat ≤ j; omega)]
def piecesOf (r : RunD) : List RunD := pieces r.count.toNat r
def nextRun (r : RunD) : RunD := ⟨r.off + cut16 r.count, r.page + cut16 r.count, r.count - cut16 r.count⟩
theorem piecesOf_none {r : RunD} (h : ¬ 0 < r.count) : piecesOf r = [] := by unfold piecesOf; rw [show r.count.toNat = 0 by omega]; rfl
theorem piecesOf_some {r : RunD} (h : 0 < r.count) : piecesOf r = ⟨r.off, r.page, cut16 r.count⟩ :: piecesOf (nextRun r) := by
  have hc := cut16_pos h
  obtain ⟨j, hj⟩ : ∃ j, r.count.toNat = j + 1 := ⟨r.count.toNat - 1, by omega⟩
  unfold piecesOf nextRun
  rw [hj]
  conv => lhs; unfold pieces
  rw [if_neg (by omega), pieces_fuel j (r.count - cut16 r.count).toNat _ (by show (r.count - cut16 r.count).toNat ≤ j; omega) (Nat.le_refl _)]
theorem pieces_length : ∀ (k : Nat) (r : RunD), (pieces k r).length ≤ k
  | 0, _ => by simp [pieces]
  | k + 1, r => by
    unfold pieces
    split
    · simp
    · have := pieces_length k ⟨r.off + cut16 r.count, r.page + cut16 r.count, r.count - cut16 r.count⟩
      simp only [List.length_cons]; omega
theorem Tame.next {r : RunD} (h : Tame r) (h0 : 0 < r.count) : Tame (nextRun r) := by
  have hc := cut16_pos h0
  obtain ⟨h1, h2, h3, h4, h5, h6⟩ := h
  unfold nextRun
  exact ⟨by show 0 ≤ r.off + cut16 r.count; omega, by show 0 ≤ r.page + cut16 r.count; omega, by show 0 ≤ r.count - cut16 r.count; omega, by show r.count - cut16 r.count ≤ 512; omega,
    by show r.off + cut16 r.count + (r.count - cut16 r.count) ≤ 100000; omega, by show r.page + cut16 r.count + (r.count - cut16 r.count) ≤ 100000; omega⟩
def runSteps (z : Int) (r : RunD) : List StepD := (piecesOf r).map fun p => .write p z
theorem runSteps_length (z : Int) {r : RunD} (h : Tame r) : (runSteps z r).length ≤ 512 := by
  have := pieces_length r.count.toNat r
  have := h.most
  have := h.count
  unfold runSteps piecesOf; rw [List.length_map]; omega
/-- the steps that a node's map means -/
def mapSteps (n : NodeD) : List StepD := n.map.flatMap (runSteps n.size)
def sizeSteps (n : NodeD) : List StepD := if mapSteps n = [] ∧ 0 < n.size then [.resize n.size] else mapSteps n
def addOf (p : ByteArray × Int) : StepD := .add p.1 p.2
def stepsOf (n : NodeD) : List StepD := sizeSteps n ++ n.names.map addOf
theorem oneStep : ∀ (s : StepD), ∀ u ∈ encStep s, u.oneCell' = true := by
  intro s u hu
  simp only [encStep, List.mem_singleton] at hu
  subst hu; cases s <;> rfl
theorem infoStep : (Tryz.prog.info? 62).map (fun i => (i.zero, i.size, i.bytes)) = some (some .nilIface, 1, 16) := by kernel_rfl

theorem own_ne {w : World} {base sz n : Nat} {e : TypeId} {v : Value} {xs : List Value} (h : w.ownsRow base e sz v n xs) {m : Nat} {t : TypeId} {cs : Array Value} (hb : Blk w m t cs) (hne : t ≠ e) {g : Nat} (hg : v.ownBlock = some g) : m ≠ g := by
  rintro rfl
  obtain ⟨_, cur, hh⟩ := own_blk h hg
  rw [hb] at hh
  cases hh
  exact hne rfl
theorem piece_eq {z : Int} {K T : List StepD} {r : RunD} (h : K ++ runSteps z r = T) (h0 : 0 < r.count) : (K ++ [.write ⟨r.off, r.page, cut16 r.count⟩ z]) ++ runSteps z (nextRun r) = T := by
  rw [← h]; unfold runSteps; rw [piecesOf_some h0]; simp
theorem piece_end {z : Int} {K T : List StepD} {r : RunD} (h : K ++ runSteps z r = T) (h0 : ¬ 0 < r.count) : K = T := by
  rw [← h]; unfold runSteps; rw [piecesOf_none h0]; simp
theorem steps_snoc (n : NodeD) {j : Nat} (hj : j < n.map.length) : (n.map.take (j + 1)).flatMap (runSteps n.size) = (n.map.take j).flatMap (runSteps n.size) ++ runSteps n.size n.map[j] := by
  rw [List.take_succ_eq_append_getElem hj, List.flatMap_append]; congr 1; simp

set_option maxRecDepth 100000 in
set_option maxHeartbeats 8000000 in
theorem steps_any (w : World) (n : NodeD) (vm vn vl : Value) (h : NodeAt w n vm vn vl) (s : Nat) (kd : Int) (tp ip : Value) (bs : Blk w s 83 #[.int .i64 kd, .int .i64 n.size, tp, ip]) (hmap : n.map.length ≤ 512) (htame : ∀ r ∈ n.map, Tame r) :
    Calls Tryz.prog 34 #[.pointer (some ⟨s, 0, none⟩), .agg (nodeC n vm vn vl)] w fun e w' => ∃ v, e = .returned v ∧ w'.ownsRow w.heap.size 62 1 v (stepsOf n).length (rowOf encStep (stepsOf n)) ∧ Mod None_ w w' := by
  obtain ⟨An, cn, rfl, hcn1, hcn2, _⟩ := id h.names
  obtain ⟨Am, cm, rfl, hcm1, hcm2, hml, _, _⟩ := id h.map
  have HN := hide h
  have hnl := h.nlen
  have HT := hide htame
  clear h htame
  have hln : ∀ w, (Builtin.len_ #[31] 3 #[.slice An n.names.length cn]).run Tryz.prog w = .ok (.int .i64 n.names.length) w := fun w => by simp [Builtin.len_, run_underlying Tryz.underlying31]; rfl
  have hlm : ∀ w, (Builtin.len_ #[30] 3 #[.slice Am n.map.length cm]).run Tryz.prog w = .ok (.int .i64 n.map.length) w := fun w => by simp [Builtin.len_, run_underlying Tryz.underlying30]; rfl
  have hll : ∀ w A (n c : Nat), (Builtin.len_ #[77] 3 #[.slice A n c]).run Tryz.prog w = .ok (.int .i64 n) w := fun w A n c => by simp [Builtin.len_, run_underlying Tryz.underlying77]; rfl
  unfold nodeC
  go_enter Tryz.func34, Tryz.ntmps34
  obtain ⟨m, hm⟩ : ∃ m, m = w.heap.size := ⟨_, rfl⟩
  obtain ⟨w1, hw1⟩ : ∃ w1, w1 = w.alloc (.cells (nodeC n (.slice Am n.map.length cm) (.slice An n.names.length cn) vl) 34) := ⟨_, rfl⟩
  have hM : Mod None_ w w1 := by rw [hw1]; exact (Mod.refl _ w).alloc _
  have b1 : Blk w1 m 34 (nodeC n (.slice Am n.map.length cm) (.slice An n.names.length cn) vl) := by rw [hw1, hm]; exact Blk.new w 34 _
  have hsz1 : m + 1 ≤ w1.heap.size := b1.lt
  have hgem : w.heap.size ≤ m := by omega
  have hgem2 : m ≤ w.heap.size := by omega
  have hsm : s < m := by rw [hm]; exact bs.lt
  unfold nodeC at hw1
  have HW1 := hide hw1
  have HMM := hide hm
  clear hw1 hm
  go_wp2_with fail
  rw [← HMM.out, ← HW1.out]
  clear HMM HW1
  go_loopw [14, 5] (fun s14 s5 wr => ∃ (j : Nat) (L : List StepD) (v5 : Value), v5 = s5 ∧ j ≤ n.map.length ∧ s14 = .int .i64 j ∧ L = (n.map.take j).flatMap (runSteps n.size) ∧ L.length ≤ j * 512 ∧ wr.ownsRow w1.heap.size 62 1 v5 L.length (rowOf encStep L) ∧ Mod None_ w wr ∧ w1.heap.size ≤ wr.heap.size ∧ Blk wr m 34 (nodeC n (.slice Am n.map.length cm) (.slice An n.names.length cn) vl)) (fun s14 _ _ => n.map.length - (intOf s14).toNat)
  case atStart => exact ⟨0, [], _, rfl, Nat.zero_le _, rfl, rfl, Nat.zero_le _, ⟨rfl, .inl ⟨rfl, rfl⟩⟩, hM, Nat.le_refl _, b1⟩
  clear b1 hM
  obtain ⟨j, L, v5, rfl, hj, rfl, hL, hLl, hown, hM, hsz, b1⟩ := hrel
  by_cases hlt : j < n.map.length
  · have hji : (j : Int) < n.map.length := by omega
    have hsn := steps_snoc n hlt
    have hcell := (HN.out.kept hM).map.list
    obtain ⟨_, _, hcv, _, _, hcell⟩ := hcell
    simp only [Value.slice.injEq, true_and] at hcv
    obtain ⟨rfl, rfl⟩ := hcv
    obtain ⟨g, o, rfl, hg, hcell⟩ := hcell (by omega)
    have x0 : wr.cell? ⟨g, o + j * 3, none⟩ = some (.int .i64 n.map[j].off) := hcell j hlt 0 _ rfl
    have x1 : wr.cell? ⟨g, o + j * 3 + 1, none⟩ = some (.int .i64 n.map[j].page) := hcell j hlt 1 _ rfl
    have x2 : wr.cell? ⟨g, o + j * 3 + 2, none⟩ = some (.int .i64 n.map[j].count) := hcell j hlt 2 _ rfl
    have htx := HT.out _ (List.getElem_mem hlt)
    obtain ⟨x, hx⟩ : ∃ x, x = n.map[j] := ⟨_, rfl⟩
    rw [← hx] at x0 x1 x2 hsn htx
    rw [← hL] at hsn
    have hsl := runSteps_length n.size htx
    obtain ⟨ma, hma⟩ : ∃ k, k = wr.heap.size := ⟨_, rfl⟩
    obtain ⟨wa, hwa⟩ : ∃ wa, wa = wr.alloc (.cells #[.int .i64 x.off, .int .i64 x.page, .int .i64 x.count] 73) := ⟨_, rfl⟩
    have hmwa : Mod None_ wr wa := by rw [hwa]; exact (Mod.refl _ wr).alloc _
    have bx : Blk wa ma 73 #[.int .i64 x.off, .int .i64 x.page, .int .i64 x.count] := by rw [hwa, hma]; exact Blk.new wr 73 _
    have hmam : m < ma := by rw [hma]; exact b1.lt
    have hama : w1.heap.size ≤ ma := by rw [hma]; exact hsz
    replace b1 := b1.mod hmwa (by first | exact id | omega | (unfold Ix; omega) | (unfold LateS Ix; omega))
    replace hM := hM.trans hmwa
    replace hown := own_mod hown hmwa (fun _ _ f => f)
    replace hsz : w1.heap.size ≤ wa.heap.size := Nat.le_trans hsz hmwa.size
    have HWA := hide hwa
    have HMA := hide hma
    have HSN := hide hsn
    have HX := hide hx
    clear hwa hma hmwa hsn hx hcell hL
    go_wp2_with fail
    rw [← HMA.out, ← HWA.out]
    clear HMA HWA x0 x1 x2
    go_loopw [5] (fun s5 wv => ∃ (r : RunD) (K : List StepD) (v6 : Value), v6 = s5 ∧ Blk wv ma 73 #[.int .i64 r.off, .int .i64 r.page, .int .i64 r.count] ∧ Tame r ∧ K ++ runSteps n.size r = L ++ runSteps n.size x ∧ wv.ownsRow w1.heap.size 62 1 v6 K.length (rowOf encStep K) ∧ Mod None_ w wv ∧ w1.heap.size ≤ wv.heap.size ∧ Blk wv m 34 (nodeC n (.slice (some ⟨g, o, none⟩) n.map.length cm) (.slice An n.names.length cn) vl)) (fun _ wv => (intOf ((wv.cell? ⟨ma, 2, none⟩).getD (.int .i64 0))).toNat)
    case atStart => exact ⟨x, L, _, rfl, bx, htx, rfl, hown, hM, hsz, b1⟩
    clear bx hown hM hsz b1
    obtain ⟨r, K, v6, rfl, bx, htr, hK, hown, hM, hsz, b1⟩ := hrel
    have hKl : K.length ≤ j * 512 + 512 := by
      have := congrArg List.length hK
      simp only [List.length_append] at this
      omega
    have HKQ := hide hK
    clear hK
    have x2 : wr.cell? ⟨ma, 2, none⟩ = some (.int .i64 r.count) := bx.cell 2
    by_cases hr0 : 0 < r.count
    · skip
      have hcc := cut16_pos hr0
      obtain ⟨c, hc⟩ : ∃ c, c = cut16 r.count := ⟨_, rfl⟩
      have hmin : min r.count 16 = c := by rw [hc]; unfold cut16; split <;> omega
      have hpe := piece_eq HKQ.out hr0
      have hnt := htr.next hr0
      rw [← hc] at hpe hcc
      obtain ⟨t1, t2, t3, t4, t5, t6⟩ := htr
      have x0 : wr.cell? ⟨ma, 0, none⟩ = some (.int .i64 r.off) := bx.cell 0
      have x1 : wr.cell? ⟨ma, 1, none⟩ = some (.int .i64 r.page) := bx.cell 1
      have HC := hide hc
      have HMIN := hide hmin
      have HPE := hide hpe
      have HNT := hide hnt
      clear hc hmin hpe hnt
      have y2 : (wr.alloc (.cells #[.int .i64 r.off, .int .i64 r.page, .int .i64 r.count] 73)).cell? ⟨ma, 2, none⟩ = some (.int .i64 r.count) := (bx.alloc (.cells #[.int .i64 r.off, .int .i64 r.page, .int .i64 r.count] 73)).cell 2
      go_wp2_with fail
      rw [HMIN.out]
      obtain ⟨mb, hmb⟩ : ∃ k, k = wr.heap.size := ⟨_, rfl⟩
      obtain ⟨wb, hwb⟩ : ∃ wb, wb = wr.alloc (.cells #[.int .i64 r.off, .int .i64 r.page, .int .i64 c] 73) := ⟨_, rfl⟩
      rw [← hmb, ← hwb]
      have hmwb : Mod None_ wr wb := by rw [hwb]; exact (Mod.refl _ wr).alloc _
      have bp : Blk wb mb 73 #[.int .i64 r.off, .int .i64 r.page, .int .i64 c] := by rw [hwb, hmb]; exact Blk.new wr 73 _
      have hltmb : ma < mb := by rw [hmb]; exact bx.lt
      replace b1 := b1.mod hmwb (by first | exact id | omega | (unfold Ix; omega) | (unfold LateS Ix; omega))
      replace bx := bx.mod hmwb (by first | exact id | omega | (unfold Ix; omega) | (unfold LateS Ix; omega))
      replace hM := hM.trans hmwb
      replace hown := own_mod hown hmwb (fun _ _ f => f)
      replace hsz : w1.heap.size ≤ wb.heap.size := Nat.le_trans hsz hmwb.size
      have bs2 : Blk wb s 83 #[.int .i64 kd, .int .i64 n.size, tp, ip] := bs.mod hM id
      have X2 := hide x2
      clear hmb hwb hmwb x0 x1 x2 y2
      refine region_mxw [(true, 0), (true, 1), (true, 2), (true, 3), (true, 4), (true, 5), (true, 6), (true, 7), (false, 8), (false, 9), (true, 10)] (fun w' => Blk w' mb 73 #[.int .i64 r.off, .int .i64 r.page, .int .i64 c] ∧ Blk w' s 83 #[.int .i64 kd, .int .i64 n.size, tp, ip]) (by kernel_rfl) (by kernel_rfl) ?_
      rintro w3 hw3
      have hm3 : Mod None_ wb w3 := by rw [hw3]; exact (Mod.refl _ wb).drew
      replace b1 := b1.mod hm3 (by first | exact id | omega | (unfold Ix; omega) | (unfold LateS Ix; omega))
      replace bx := bx.mod hm3 (by first | exact id | omega | (unfold Ix; omega) | (unfold LateS Ix; omega))
      replace bp := bp.mod hm3 (by first | exact id | omega | (unfold Ix; omega) | (unfold LateS Ix; omega))
      replace bs2 := bs2.mod hm3 (by first | exact id | omega | (unfold Ix; omega) | (unfold LateS Ix; omega))
      replace hM := hM.trans hm3
      replace hown := own_mod hown hm3 (fun _ _ f => f)
      replace hsz : w1.heap.size ≤ w3.heap.size := Nat.le_trans hsz hm3.size
      clear hw3 hm3
      refine ⟨⟨bp, bs2⟩, ?_⟩
      iterate 8 (refine mxw_quiet rfl (fun w' i1 KK hKK => by have i10 := i1.1.cell 0; have i11 := i1.1.cell 1; have i12 := i1.1.cell 2; have i20 := i1.2.cell 1; (try go_simp); exact hKK) ?_; try go_frame)
      refine mxw_loud rfl (fun KK hKK => ?_)
      go_simp
      refine ⟨⟨bp.alloc _, bs2.alloc _⟩, hKK _ _ ?_⟩
      clear hKK KK
      try go_frame
      refine mxw_append_row encStep 77 62 .nilIface 1 16 Tryz.underlying77 infoStep rfl (by decide) (fun _ => rfl) oneStep rfl rfl (.tmp 26) (.tmp 34) rfl w3 w1.heap.size v6 K (.write ⟨r.off, r.page, c⟩ n.size) rfl rfl w3.heap.size rfl rfl hown hsz (by unfold maxLen; omega) (by omega) ?_
      intro v8 w8 hown8 hm8 hat8
      replace bx := bx.mod hm8 (fun e => own_ne hown bx (by decide) e.symm rfl)
      replace bp := bp.mod hm8 (fun e => own_ne hown bp (by decide) e.symm rfl)
      replace bs2 := bs2.mod hm8 (fun e => own_ne hown bs2 (by decide) e.symm rfl)
      replace b1 := b1.mod hm8 (fun e => own_ne hown b1 (by decide) e.symm rfl)
      replace hM := hM.trans' hm8 (fun k hk e => by have := (own_blk hown e.symm).1; omega)
      replace hsz : w1.heap.size ≤ w8.heap.size := Nat.le_trans hsz hm8.size
      clear hown hm8 hat8
      refine ⟨⟨bp, bs2⟩, ?_⟩
      try go_frame
      iterate 1 (refine mxw_quiet rfl (fun w' i1 KK hKK => by (try go_simp); exact hKK) ?_; try go_frame)
      refine mxw_nil ?_
      go_wp2_with fail
      have e1 : IntKind.i64.wrap (r.off + c) = r.off + c := IntWalk.i64_in _ (by omega)
      have e2 : IntKind.i64.wrap (r.page + c) = r.page + c := IntWalk.i64_in _ (by omega)
      have e3 : IntKind.i64.wrap (r.count - c) = r.count - c := IntWalk.i64_in _ (by omega)
      refine region_jxw [(true, 0), (true, 1), (true, 2), (true, 3), (true, 4), (true, 5), (true, 6), (true, 7), (true, 8), (true, 9), (true, 10), (true, 11), (true, 12), (true, 13), (true, 14), (true, 15), (false, 16), (true, 17), (false, 18), (true, 19), (false, 20)] [16, 18, 20] (fun w' => Blk w' mb 73 #[.int .i64 r.off, .int .i64 r.page, .int .i64 c])
        (fun d w' => (d = 16 → w'.cell? ⟨ma, 0, none⟩ = some (.int .i64 r.off)) ∧ (d = 18 → w'.cell? ⟨ma, 1, none⟩ = some (.int .i64 r.page)) ∧ (d = 20 → w'.cell? ⟨ma, 2, none⟩ = some (.int .i64 r.count))) (by kernel_rfl) (by kernel_rfl) ?_
      rintro w9 hw9
      have hm9 : Mod None_ w8 w9 := by rw [hw9]; exact (Mod.refl _ w8).drew
      replace b1 := b1.mod hm9 (by first | exact id | omega | (unfold Ix; omega) | (unfold LateS Ix; omega))
      replace bx := bx.mod hm9 (by first | exact id | omega | (unfold Ix; omega) | (unfold LateS Ix; omega))
      replace bp := bp.mod hm9 (by first | exact id | omega | (unfold Ix; omega) | (unfold LateS Ix; omega))
      replace hM := hM.trans hm9
      replace hown8 := own_mod hown8 hm9 (fun _ _ f => f)
      replace hsz : w1.heap.size ≤ w9.heap.size := Nat.le_trans hsz hm9.size
      clear hw9 hm9 bs2
      refine ⟨bp, fun d _ => ⟨fun _ => bx.cell 0, fun _ => bx.cell 1, fun _ => bx.cell 2⟩, ?_⟩
      refine jxw_quiet rfl rfl [] (by kernel_rfl) (fun w' i1 i2 KK hKK => by have i10 := i1.cell 0; have i11 := i1.cell 1; have i12 := i1.cell 2; (try go_simp); exact hKK) ?_
      try go_frame
      refine jxw_quiet rfl rfl [16] (by kernel_rfl) (fun w' i1 i2 KK hKK => by have i10 := i1.cell 0; have i11 := i1.cell 1; have i12 := i1.cell 2; have j16 := (i2 16 (by simp)).1 rfl; (try go_simp); exact hKK) ?_
      try go_frame
      refine jxw_quiet rfl rfl [] (by kernel_rfl) (fun w' i1 i2 KK hKK => by have i10 := i1.cell 0; have i11 := i1.cell 1; have i12 := i1.cell 2; (try go_simp); exact hKK) ?_
      try go_frame
      refine jxw_quiet rfl rfl [] (by kernel_rfl) (fun w' i1 i2 KK hKK => by have i10 := i1.cell 0; have i11 := i1.cell 1; have i12 := i1.cell 2; (try go_simp); exact hKK) ?_
      try go_frame
      refine jxw_quiet rfl rfl [] (by kernel_rfl) (fun w' i1 i2 KK hKK => by have i10 := i1.cell 0; have i11 := i1.cell 1; have i12 := i1.cell 2; (try go_simp); exact hKK) ?_
      try go_frame
      refine jxw_quiet rfl rfl [] (by kernel_rfl) (fun w' i1 i2 KK hKK => by have i10 := i1.cell 0; have i11 := i1.cell 1; have i12 := i1.cell 2; (try go_simp); exact hKK) ?_
      try go_frame
      refine jxw_quiet rfl rfl [18] (by kernel_rfl) (fun w' i1 i2 KK hKK => by have i10 := i1.cell 0; have i11 := i1.cell 1; have i12 := i1.cell 2; have j18 := (i2 18 (by simp)).2.1 rfl; (try go_simp); exact hKK) ?_
      try go_frame
      refine jxw_quiet rfl rfl [] (by kernel_rfl) (fun w' i1 i2 KK hKK => by have i10 := i1.cell 0; have i11 := i1.cell 1; have i12 := i1.cell 2; (try go_simp); exact hKK) ?_
      try go_frame
      refine jxw_quiet rfl rfl [] (by kernel_rfl) (fun w' i1 i2 KK hKK => by have i10 := i1.cell 0; have i11 := i1.cell 1; have i12 := i1.cell 2; (try go_simp); exact hKK) ?_
      try go_frame
      refine jxw_quiet rfl rfl [] (by kernel_rfl) (fun w' i1 i2 KK hKK => by have i10 := i1.cell 0; have i11 := i1.cell 1; have i12 := i1.cell 2; (try go_simp); exact hKK) ?_
      try go_frame
      refine jxw_quiet rfl rfl [] (by kernel_rfl) (fun w' i1 i2 KK hKK => by have i10 := i1.cell 0; have i11 := i1.cell 1; have i12 := i1.cell 2; (try go_simp); exact hKK) ?_
      try go_frame
      refine jxw_quiet rfl rfl [20] (by kernel_rfl) (fun w' i1 i2 KK hKK => by have i10 := i1.cell 0; have i11 := i1.cell 1; have i12 := i1.cell 2; have j20 := (i2 20 (by simp)).2.2 rfl; (try go_simp); exact hKK) ?_
      try go_frame
      refine jxw_quiet rfl rfl [] (by kernel_rfl) (fun w' i1 i2 KK hKK => by have i10 := i1.cell 0; have i11 := i1.cell 1; have i12 := i1.cell 2; (try go_simp); exact hKK) ?_
      try go_frame
      refine jxw_quiet rfl rfl [] (by kernel_rfl) (fun w' i1 i2 KK hKK => by have i10 := i1.cell 0; have i11 := i1.cell 1; have i12 := i1.cell 2; (try go_simp); exact hKK) ?_
      try go_frame
      refine jxw_quiet rfl rfl [] (by kernel_rfl) (fun w' i1 i2 KK hKK => by have i10 := i1.cell 0; have i11 := i1.cell 1; have i12 := i1.cell 2; (try go_simp); exact hKK) ?_
      try go_frame
      refine jxw_quiet rfl rfl [] (by kernel_rfl) (fun w' i1 i2 KK hKK => by have i10 := i1.cell 0; have i11 := i1.cell 1; have i12 := i1.cell 2; (try go_simp); exact hKK) ?_
      try go_frame
      have fz : w9.frozen? ⟨ma, 0, none⟩ = false := bx.frozen 0
      have cz := bx.cell 0
      refine jxw_loud rfl (fun KK hKK => ?_)
      go_simp
      obtain ⟨w10, hw10⟩ : ∃ w', w' = w9.setCell ⟨ma, 0, none⟩ (.int .i64 (r.off + c)) := ⟨_, rfl⟩
      have hmw10 : Mod (· = ma) w9 w10 := by rw [hw10]; exact (Mod.refl (· = ma) w9).setCell (p := ⟨ma, 0, none⟩) (.inr rfl) _
      have b0x := bx
      replace bx : Blk w10 ma 73 #[.int .i64 (r.off + c), .int .i64 r.page, .int .i64 r.count] := by rw [hw10]; exact bx.set_ 0 (.int .i64 (r.off + c))
      replace bp := bp.mod hmw10 (by omega)
      replace b1 := b1.mod hmw10 (by omega)
      replace hown8 := own_mod hown8 hmw10 (fun g hg e => own_ne hown8 (b0x) (by decide) hg e.symm)
      replace hM := hM.trans' hmw10 (fun k hk e => by omega)
      replace hsz : w1.heap.size ≤ w10.heap.size := Nat.le_trans hsz hmw10.size
      rw [← hw10]
      clear b0x hw10 hmw10 fz cz
      refine ⟨⟨bp, fun d hd hn => ⟨fun e => (hn (by simp [e])).elim, fun _ => bx.cell 1, fun _ => bx.cell 2⟩⟩, hKK _ _ ?_⟩
      clear hKK KK
      try go_frame
      refine jxw_quiet rfl rfl [] (by kernel_rfl) (fun w' i1 i2 KK hKK => by have i10 := i1.cell 0; have i11 := i1.cell 1; have i12 := i1.cell 2; (try go_simp); exact hKK) ?_
      try go_frame
      have fz : w10.frozen? ⟨ma, 1, none⟩ = false := bx.frozen 1
      have cz := bx.cell 1
      refine jxw_loud rfl (fun KK hKK => ?_)
      go_simp
      obtain ⟨w11, hw11⟩ : ∃ w', w' = w10.setCell ⟨ma, 1, none⟩ (.int .i64 (r.page + c)) := ⟨_, rfl⟩
      have hmw11 : Mod (· = ma) w10 w11 := by rw [hw11]; exact (Mod.refl (· = ma) w10).setCell (p := ⟨ma, 1, none⟩) (.inr rfl) _
      have b0x := bx
      replace bx : Blk w11 ma 73 #[.int .i64 (r.off + c), .int .i64 (r.page + c), .int .i64 r.count] := by rw [hw11]; exact bx.set_ 1 (.int .i64 (r.page + c))
      replace bp := bp.mod hmw11 (by omega)
      replace b1 := b1.mod hmw11 (by omega)
      replace hown8 := own_mod hown8 hmw11 (fun g hg e => own_ne hown8 (b0x) (by decide) hg e.symm)
      replace hM := hM.trans' hmw11 (fun k hk e => by omega)
      replace hsz : w1.heap.size ≤ w11.heap.size := Nat.le_trans hsz hmw11.size
      rw [← hw11]
      clear b0x hw11 hmw11 fz cz
      refine ⟨⟨bp, fun d hd hn => ⟨fun e => (hn (by simp [e])).elim, fun e => (hn (by simp [e])).elim, fun _ => bx.cell 2⟩⟩, hKK _ _ ?_⟩
      clear hKK KK
      try go_frame
      refine jxw_quiet rfl rfl [] (by kernel_rfl) (fun w' i1 i2 KK hKK => by have i10 := i1.cell 0; have i11 := i1.cell 1; have i12 := i1.cell 2; (try go_simp); exact hKK) ?_
      try go_frame
      have fz : w11.frozen? ⟨ma, 2, none⟩ = false := bx.frozen 2
      have cz := bx.cell 2
      refine jxw_loud rfl (fun KK hKK => ?_)
      go_simp
      obtain ⟨w12, hw12⟩ : ∃ w', w' = w11.setCell ⟨ma, 2, none⟩ (.int .i64 (r.count - c)) := ⟨_, rfl⟩
      have hmw12 : Mod (· = ma) w11 w12 := by rw [hw12]; exact (Mod.refl (· = ma) w11).setCell (p := ⟨ma, 2, none⟩) (.inr rfl) _
      have b0x := bx
      replace bx : Blk w12 ma 73 #[.int .i64 (r.off + c), .int .i64 (r.page + c), .int .i64 (r.count - c)] := by rw [hw12]; exact bx.set_ 2 (.int .i64 (r.count - c))
      replace bp := bp.mod hmw12 (by omega)
      replace b1 := b1.mod hmw12 (by omega)
      replace hown8 := own_mod hown8 hmw12 (fun g hg e => own_ne hown8 (b0x) (by decide) hg e.symm)
      replace hM := hM.trans' hmw12 (fun k hk e => by omega)
      replace hsz : w1.heap.size ≤ w12.heap.size := Nat.le_trans hsz hmw12.size
      rw [← hw12]
      clear b0x hw12 hmw12 fz cz
      refine ⟨⟨bp, fun d hd hn => ⟨fun e => (hn (by simp [e])).elim, fun e => (hn (by simp [e])).elim, fun e => (hn (by simp [e])).elim⟩⟩, hKK _ _ ?_⟩
      clear hKK KK
      try go_frame
      refine jxw_nil ?_
      go_wp2_with fail
      go_roundw
      case rel => exact ⟨nextRun r, _, _, rfl, (by unfold nextRun; rw [← HC.out]; exact bx), HNT.out, HPE.out, hown8, hM, hsz, b1⟩
      case measure =>
        have z1 := bx.cell 2
        have z2 : (w12.cell? ⟨ma, 2, none⟩) = some (.int .i64 (r.count - c)) := z1
        rw [z2, X2.out]
        simp [intOf]
        omega
    · skip
      have hke := piece_end HKQ.out hr0
      have HKE := hide hke
      clear hke
      go_wp2_with fail
      go_roundw
      case rel => exact ⟨j + 1, K, _, rfl, by omega, by simp, by rw [HKE.out, HSN.out], by omega, hown, hM, hsz, b1⟩
      case measure => simp [intOf]; omega
  · skip
    obtain rfl : j = n.map.length := by omega
    have hjn : ¬ (n.map.length : Int) < n.map.length := by omega
    rw [List.take_length] at hL
    obtain rfl : L = mapSteps n := hL
    clear hlt
    obtain ⟨A5, c5s, rfl⟩ := own_slice hown
    have bs2 : Blk wr s 83 #[.int .i64 kd, .int .i64 n.size, tp, ip] := bs.mod hM id
    have c1 : wr.cell? ⟨s, 1, none⟩ = some (.int .i64 n.size) := bs2.cell 1
    have c5 : wr.cell? ⟨m, 5, none⟩ = some (.slice An n.names.length cn) := b1.cell 5
    have hsl : (mapSteps n).length ≤ 262144 := by omega
    by_cases hcs : mapSteps n = [] ∧ 0 < n.size
    · have hss : sizeSteps n = [.resize n.size] := by unfold sizeSteps; rw [if_pos hcs]
      obtain ⟨hc1, hc2⟩ := hcs
      rw [hc1] at hown
      have hc1x := hc1
      have HSL := hide hss
      clear hss hc1 hsl
      simp only [hc1x, List.length_nil]
      have d2 : decide (0 < n.size) = true := decide_eq_true hc2
      go_wp2_with ((with_reducible refine at_slot 73 ?_); refine wpList_append_row encStep 77 62 .nilIface 1 16 Tryz.underlying77 infoStep rfl (by decide) (fun _ => rfl) oneStep rfl (.tmp 65) (.tmp 72) rfl wr w1.heap.size (.slice A5 0 c5s) ([] : List StepD) (.resize n.size) rfl rfl wr.heap.size rfl rfl hown hsz (by unfold maxLen; simp) (by simp) ?_; intro v8 w8 hown8 hm8 hat8
                   have b18 := b1.mod hm8 (fun e => own_ne hown b1 (by decide) e.symm rfl)
                   have hM8 := hM.trans' hm8 (fun k hk e => by have := (own_blk hown e.symm).1; omega)
                   have hz8 := Nat.le_trans hsz hm8.size
                   have c58 : w8.cell? ⟨m, 5, none⟩ = some (.slice An n.names.length cn) := b18.cell 5
                   clear hown hM hsz hm8 hat8 b1 bs2 c1 c5 b18
                   go_frame)
      have hown : w8.ownsRow w1.heap.size 62 1 v8 (sizeSteps n).length (rowOf encStep (sizeSteps n)) := by rw [HSL.out]; exact hown8
      have hM := hM8
      have hsz := hz8
      have hsl : (sizeSteps n).length ≤ 262144 := by rw [HSL.out]; simp
      clear hown8 hM8 hz8 c58
      go_loopw [77, 5] (fun s77 s5 wq => ∃ (k : Nat) (L : List StepD) (v7 : Value), v7 = s5 ∧ k ≤ n.names.length ∧ s77 = .int .i64 k ∧ L = sizeSteps n ++ (n.names.take k).map addOf ∧ L.length ≤ 262145 + k ∧ wq.ownsRow w1.heap.size 62 1 v7 L.length (rowOf encStep L) ∧ Mod None_ w wq ∧ w1.heap.size ≤ wq.heap.size) (fun s77 _ _ => n.names.length - (intOf s77).toNat)
      case atStart => exact ⟨0, sizeSteps n, _, rfl, Nat.zero_le _, rfl, by simp, by omega, hown, hM, hsz⟩
      clear hown hM hsz
      obtain ⟨k, L, v7, rfl, hk, rfl, hL, hLl, hown, hM, hsz⟩ := hrel
      by_cases hlt : k < n.names.length
      · have hki : (k : Int) < n.names.length := by omega
        have hLs : L ++ [addOf n.names[k]] = sizeSteps n ++ (n.names.take (k + 1)).map addOf := by rw [hL, List.take_succ_eq_append_getElem hlt, List.map_append, List.append_assoc]; rfl
        obtain ⟨_, _, hcv, _, _, hcell⟩ := (HN.out.kept hM).names
        simp only [Value.slice.injEq, true_and] at hcv
        obtain ⟨rfl, rfl⟩ := hcv
        obtain ⟨g, o, rfl, hg, hcell⟩ := hcell (by omega)
        have x0 : wr.cell? ⟨g, o + k * 2, none⟩ = some (.string n.names[k].1) := hcell k hlt 0 (.string n.names[k].1) rfl
        have x1 : wr.cell? ⟨g, o + k * 2 + 1, none⟩ = some (.int .i64 n.names[k].2) := hcell k hlt 1 (.int .i64 n.names[k].2) rfl
        obtain ⟨x, hx⟩ : ∃ x, x = n.names[k] := ⟨_, rfl⟩
        rw [← hx] at x0 x1 hLs
        have hma : Mod None_ wr (wr.alloc (.cells #[.string x.1, .int .i64 x.2] 75)) := (Mod.refl _ wr).alloc _
        have hown2 := own_mod hown hma (fun _ _ f => f)
        have hM2 := hM.trans hma
        have hsz2 : w1.heap.size ≤ (wr.alloc (.cells #[.string x.1, .int .i64 x.2] 75)).heap.size := Nat.le_trans hsz hma.size
        have HLS := hide hLs
        have HO2 := hide hown2
        have HM2 := hide hM2
        have HZ2 := hide hsz2
        clear hcell hx hLs hown hM hsz hma hown2 hM2 hsz2 hL
        go_wp2_with ((with_reducible refine at_slot 86 ?_); refine wpList_append_row encStep 77 62 .nilIface 1 16 Tryz.underlying77 infoStep rfl (by decide) (fun _ => rfl) oneStep rfl (.tmp 81) (.tmp 85) rfl (wr.alloc (.cells #[.string x.1, .int .i64 x.2] 75)) w1.heap.size v7 L (addOf x) rfl rfl (wr.heap.size + 1) (by simp) rfl HO2.out HZ2.out (by unfold maxLen; omega) (by omega) ?_; intro v8 w8 hown8 hm8 hat8
                     have hM8 := HM2.out.trans' hm8 (fun k hk e => by have := (own_blk HO2.out e.symm).1; omega)
                     have hz8 := Nat.le_trans HZ2.out hm8.size
                     have L1 := hide hown8
                     have L2 := hide hM8
                     have L3 := hide hz8
                     clear hown8 hm8 hat8 hM8 hz8
                     go_frame)
        go_roundw
        case rel => exact ⟨k + 1, _, _, rfl, by omega, by simp, HLS.out, by simp only [List.length_append, List.length_singleton]; omega, L1.out, L2.out, L3.out⟩
        case measure => simp [intOf]; omega
      · obtain rfl : k = n.names.length := by omega
        have hkn : ¬ (n.names.length : Int) < n.names.length := by omega
        rw [List.take_length] at hL
        obtain rfl : L = stepsOf n := hL
        have hown3 : wr.ownsRow w.heap.size 62 1 v7 (stepsOf n).length (rowOf encStep (stepsOf n)) := by
          refine ⟨hown.1, ?_⟩
          rcases hown.2 with h | ⟨g, cap, cur, h1, h2, h3⟩
          · exact .inl h
          · exact .inr ⟨g, cap, cur, h1, by omega, h3⟩
        have HO := hide hown3
        have HM := hide hM
        clear hown hown3 hM hlt
        go_wp2
        go_ret
        exact ⟨_, rfl, HO.out, HM.out⟩
    · have hss : sizeSteps n = mapSteps n := by unfold sizeSteps; rw [if_neg hcs]
      have HSL := hide hss
      have hd : (((mapSteps n).length : Int) == 0) = false ∨ ((((mapSteps n).length : Int) == 0) = true ∧ decide (0 < n.size) = false) := by
        by_cases h0 : mapSteps n = []
        · right
          exact ⟨by rw [h0]; rfl, decide_eq_false (fun h => hcs ⟨h0, h⟩)⟩
        · left
          have : (mapSteps n).length ≠ 0 := fun h => h0 (List.length_eq_zero_iff.1 h)
          simpa using this
      clear hss hcs
      rcases hd with d1 | ⟨d1, d2⟩
      · go_wp2_with fail
        go_loopw [77, 5] (fun s77 s5 wq => ∃ (k : Nat) (L : List StepD) (v7 : Value), v7 = s5 ∧ k ≤ n.names.length ∧ s77 = .int .i64 k ∧ L = sizeSteps n ++ (n.names.take k).map addOf ∧ L.length ≤ 262145 + k ∧ wq.ownsRow w1.heap.size 62 1 v7 L.length (rowOf encStep L) ∧ Mod None_ w wq ∧ w1.heap.size ≤ wq.heap.size) (fun s77 _ _ => n.names.length - (intOf s77).toNat)
        case atStart => exact ⟨0, sizeSteps n, _, rfl, Nat.zero_le _, rfl, by simp, by rw [HSL.out]; omega, by rw [HSL.out]; exact hown, hM, hsz⟩
        clear hown hM hsz
        obtain ⟨k, L, v7, rfl, hk, rfl, hL, hLl, hown, hM, hsz⟩ := hrel
        by_cases hlt : k < n.names.length
        · have hki : (k : Int) < n.names.length := by omega
          have hLs : L ++ [addOf n.names[k]] = sizeSteps n ++ (n.names.take (k + 1)).map addOf := by rw [hL, List.take_succ_eq_append_getElem hlt, List.map_append, List.append_assoc]; rfl
          obtain ⟨_, _, hcv, _, _, hcell⟩ := (HN.out.kept hM).names
          simp only [Value.slice.injEq, true_and] at hcv
          obtain ⟨rfl, rfl⟩ := hcv
          obtain ⟨g, o, rfl, hg, hcell⟩ := hcell (by omega)
          have x0 : wr.cell? ⟨g, o + k * 2, none⟩ = some (.string n.names[k].1) := hcell k hlt 0 (.string n.names[k].1) rfl
          have x1 : wr.cell? ⟨g, o + k * 2 + 1, none⟩ = some (.int .i64 n.names[k].2) := hcell k hlt 1 (.int .i64 n.names[k].2) rfl
          obtain ⟨x, hx⟩ : ∃ x, x = n.names[k] := ⟨_, rfl⟩
          rw [← hx] at x0 x1 hLs
          have hma : Mod None_ wr (wr.alloc (.cells #[.string x.1, .int .i64 x.2] 75)) := (Mod.refl _ wr).alloc _
          have hown2 := own_mod hown hma (fun _ _ f => f)
          have hM2 := hM.trans hma
          have hsz2 : w1.heap.size ≤ (wr.alloc (.cells #[.string x.1, .int .i64 x.2] 75)).heap.size := Nat.le_trans hsz hma.size
          have HLS := hide hLs
          have HO2 := hide hown2
          have HM2 := hide hM2
          have HZ2 := hide hsz2
          clear hcell hx hLs hown hM hsz hma hown2 hM2 hsz2 hL
          go_wp2_with ((with_reducible refine at_slot 86 ?_); refine wpList_append_row encStep 77 62 .nilIface 1 16 Tryz.underlying77 infoStep rfl (by decide) (fun _ => rfl) oneStep rfl (.tmp 81) (.tmp 85) rfl (wr.alloc (.cells #[.string x.1, .int .i64 x.2] 75)) w1.heap.size v7 L (addOf x) rfl rfl (wr.heap.size + 1) (by simp) rfl HO2.out HZ2.out (by unfold maxLen; omega) (by omega) ?_; intro v8 w8 hown8 hm8 hat8
                       have hM8 := HM2.out.trans' hm8 (fun k hk e => by have := (own_blk HO2.out e.symm).1; omega)
                       have hz8 := Nat.le_trans HZ2.out hm8.size
                       have L1 := hide hown8
                       have L2 := hide hM8
                       have L3 := hide hz8
                       clear hown8 hm8 hat8 hM8 hz8
                       go_frame)
          go_roundw
          case rel => exact ⟨k + 1, _, _, rfl, by omega, by simp, HLS.out, by simp only [List.length_append, List.length_singleton]; omega, L1.out, L2.out, L3.out⟩
          case measure => simp [intOf]; omega
        · obtain rfl : k = n.names.length := by omega
          have hkn : ¬ (n.names.length : Int) < n.names.length := by omega
          rw [List.take_length] at hL
          obtain rfl : L = stepsOf n := hL
          have hown3 : wr.ownsRow w.heap.size 62 1 v7 (stepsOf n).length (rowOf encStep (stepsOf n)) := by
            refine ⟨hown.1, ?_⟩
            rcases hown.2 with h | ⟨g, cap, cur, h1, h2, h3⟩
            · exact .inl h
            · exact .inr ⟨g, cap, cur, h1, by omega, h3⟩
          have HO := hide hown3
          have HM := hide hM
          clear hown hown3 hM hlt
          go_wp2
          go_ret
          exact ⟨_, rfl, HO.out, HM.out⟩
      · go_wp2_with fail
        go_loopw [77, 5] (fun s77 s5 wq => ∃ (k : Nat) (L : List StepD) (v7 : Value), v7 = s5 ∧ k ≤ n.names.length ∧ s77 = .int .i64 k ∧ L = sizeSteps n ++ (n.names.take k).map addOf ∧ L.length ≤ 262145 + k ∧ wq.ownsRow w1.heap.size 62 1 v7 L.length (rowOf encStep L) ∧ Mod None_ w wq ∧ w1.heap.size ≤ wq.heap.size) (fun s77 _ _ => n.names.length - (intOf s77).toNat)
        case atStart => exact ⟨0, sizeSteps n, _, rfl, Nat.zero_le _, rfl, by simp, by rw [HSL.out]; omega, by rw [HSL.out]; exact hown, hM, hsz⟩
        clear hown hM hsz
        obtain ⟨k, L, v7, rfl, hk, rfl, hL, hLl, hown, hM, hsz⟩ := hrel
        by_cases hlt : k < n.names.length
        · have hki : (k : Int) < n.names.length := by omega
          have hLs : L ++ [addOf n.names[k]] = sizeSteps n ++ (n.names.take (k + 1)).map addOf := by rw [hL, List.take_succ_eq_append_getElem hlt, List.map_append, List.append_assoc]; rfl
          obtain ⟨_, _, hcv, _, _, hcell⟩ := (HN.out.kept hM).names
          simp only [Value.slice.injEq, true_and] at hcv
          obtain ⟨rfl, rfl⟩ := hcv
          obtain ⟨g, o, rfl, hg, hcell⟩ := hcell (by omega)
          have x0 : wr.cell? ⟨g, o + k * 2, none⟩ = some (.string n.names[k].1) := hcell k hlt 0 (.string n.names[k].1) rfl
          have x1 : wr.cell? ⟨g, o + k * 2 + 1, none⟩ = some (.int .i64 n.names[k].2) := hcell k hlt 1 (.int .i64 n.names[k].2) rfl
          obtain ⟨x, hx⟩ : ∃ x, x = n.names[k] := ⟨_, rfl⟩
          rw [← hx] at x0 x1 hLs
          have hma : Mod None_ wr (wr.alloc (.cells #[.string x.1, .int .i64 x.2] 75)) := (Mod.refl _ wr).alloc _
          have hown2 := own_mod hown hma (fun _ _ f => f)
          have hM2 := hM.trans hma
          have hsz2 : w1.heap.size ≤ (wr.alloc (.cells #[.string x.1, .int .i64 x.2] 75)).heap.size := Nat.le_trans hsz hma.size
          have HLS := hide hLs
          have HO2 := hide hown2
          have HM2 := hide hM2
          have HZ2 := hide hsz2
          clear hcell hx hLs hown hM hsz hma hown2 hM2 hsz2 hL
          go_wp2_with ((with_reducible refine at_slot 86 ?_); refine wpList_append_row encStep 77 62 .nilIface 1 16 Tryz.underlying77 infoStep rfl (by decide) (fun _ => rfl) oneStep rfl (.tmp 81) (.tmp 85) rfl (wr.alloc (.cells #[.string x.1, .int .i64 x.2] 75)) w1.heap.size v7 L (addOf x) rfl rfl (wr.heap.size + 1) (by simp) rfl HO2.out HZ2.out (by unfold maxLen; omega) (by omega) ?_; intro v8 w8 hown8 hm8 hat8
                       have hM8 := HM2.out.trans' hm8 (fun k hk e => by have := (own_blk HO2.out e.symm).1; omega)
                       have hz8 := Nat.le_trans HZ2.out hm8.size
                       have L1 := hide hown8
                       have L2 := hide hM8
                       have L3 := hide hz8
                       clear hown8 hm8 hat8 hM8 hz8
                       go_frame)
          go_roundw
          case rel => exact ⟨k + 1, _, _, rfl, by omega, by simp, HLS.out, by simp only [List.length_append, List.length_singleton]; omega, L1.out, L2.out, L3.out⟩
          case measure => simp [intOf]; omega
        · obtain rfl : k = n.names.length := by omega
          have hkn : ¬ (n.names.length : Int) < n.names.length := by omega
          rw [List.take_length] at hL
          obtain rfl : L = stepsOf n := hL
          have hown3 : wr.ownsRow w.heap.size 62 1 v7 (stepsOf n).length (rowOf encStep (stepsOf n)) := by
            refine ⟨hown.1, ?_⟩
            rcases hown.2 with h | ⟨g, cap, cur, h1, h2, h3⟩
            · exact .inl h
            · exact .inr ⟨g, cap, cur, h1, by omega, h3⟩
          have HO := hide hown3
          have HM := hide hM
          clear hown hown3 hM hlt
          go_wp2
          go_ret
          exact ⟨_, rfl, HO.out, HM.out⟩
end Go.Proofs.YtabebkffcmajkaaGreatDoor

/-! Walk: Canon. -/
namespace Go.Proofs.YtabebkffcmajkaaGreatDoor
open Go.RowKit Go.Maps Go.Shelf

theorem mapSteps_length (z : Int) : ∀ (l : List RunD), (∀ r ∈ l, Tame r) → (l.flatMap (runSteps z)).length ≤ l.length * 512
  | [], _ => by simp
  | r :: l, h => by
    have h1 := runSteps_length z (h r (by simp))
    have h2 := mapSteps_length z l (fun x hx => h x (by simp [hx]))
    simp only [List.flatMap_cons, List.length_append, List.length_cons]
    omega
theorem stepsOf_length {n : NodeD} (h : ∀ r ∈ n.map, Tame r) (hm : n.map.length ≤ 512) : (stepsOf n).length ≤ 262145 + n.names.length := by
  have h1 := mapSteps_length n.size n.map h
  unfold stepsOf sizeSteps mapSteps
  rw [List.length_append, List.length_map]
  split
  · simp
  · omega
theorem good_tame {n : NodeD} (h : nodeGood n = true) : n.map.length ≤ 512 ∧ ∀ r ∈ n.map, Tame r := by
  unfold nodeGood at h
  split at h
  · unfold fileGood at h
    simp only [Bool.and_eq_true, decide_eq_true_eq] at h
    obtain ⟨⟨⟨⟨⟨_, _⟩, h3⟩, h4⟩, h5⟩, _⟩ := h
    refine ⟨by rw [← h4]; exact Nat.le_trans (runsOf_length _) (itemsOf_length _ _ _ _), fun r hr => ?_⟩
    have a := List.all_eq_true.1 h3 r hr
    have b := List.all_eq_true.1 h5 r hr
    simp only [okRun, pageOk, Bool.and_eq_true, decide_eq_true_eq, Bool.not_eq_true', Bool.or_eq_false_iff, decide_eq_false_iff_not] at a b
    exact ⟨by omega, by omega, by omega, by omega, by omega, by omega⟩
  · split at h
    · unfold dirGood at h
      simp only [Bool.and_eq_true, decide_eq_true_eq] at h
      have h0 : n.map = [] := List.length_eq_zero_iff.1 h.1.2
      rw [h0]
      exact ⟨by simp, fun r hr => by cases hr⟩
    · cases h
/-- the entries that steps mean, from number q on -/
def entsFrom : Int → List StepD → List EntD
  | _, [] => []
  | q, s :: l => entOf s q :: entsFrom (q + 1) l
theorem entsFrom_snoc (s : StepD) : ∀ (q : Int) (l : List StepD), entsFrom q (l ++ [s]) = entsFrom q l ++ [entOf s (q + l.length)]
  | q, [] => by simp [entsFrom]
  | q, x :: l => by
    have := entsFrom_snoc s (q + 1) l
    simp only [List.cons_append, entsFrom, this, List.length_cons, List.cons.injEq, true_and]
    congr 3
    push_cast; omega
theorem entsFrom_length : ∀ (q : Int) (l : List StepD), (entsFrom q l).length = l.length
  | _, [] => rfl
  | q, _ :: l => by simp [entsFrom, entsFrom_length (q + 1) l]
def canonOf (n : NodeD) : List EntD := entsFrom 1 (stepsOf n)
theorem oneEntry : ∀ (s : EntD), ∀ u ∈ encEntry s, u.oneCell' = true := by
  intro s u hu
  simp only [encEntry, List.mem_cons, List.not_mem_nil, or_false] at hu
  rcases hu with rfl | rfl | rfl | rfl | rfl | rfl | rfl | rfl <;> rfl
theorem infoEntry : (Tryz.prog.info? 49).map (fun i => (i.zero, i.size, i.bytes)) = some (some (.agg #[.int .i64 0, .int .u64 0, .int .i64 0, .int .i64 0, .int .i64 0, .int .i64 0, .int .i64 0, .string ⟨#[]⟩]), 8, 72) := by kernel_rfl
def CanonPost (w : World) (n : NodeD) : Ending → World → Prop := fun e w' =>
  Mod None_ w w' ∧ if nodeGood n = true then ∃ v, e = .returned (.tuple #[v, .int .i64 0]) ∧ ListAt encEntry 8 w' v (canonOf n) else e = .returned (.tuple #[.slice none 0 0, .int .i64 90])

set_option maxRecDepth 100000 in
set_option maxHeartbeats 1000000 in
theorem canon_any (w : World) (n : NodeD) (vm vn vl : Value) (h : NodeAt w n vm vn vl) : Calls Tryz.prog 16 #[.agg (nodeC n vm vn vl)] w (CanonPost w n) := by
  have hM : Mod None_ w (w.alloc (.cells (nodeC n vm vn vl) 34)) := (Mod.refl None_ w).alloc _
  have HS := hide (sense_any _ n vm vn vl (h.kept hM))
  have b1 : Blk (w.alloc (.cells (nodeC n vm vn vl) 34)) w.heap.size 34 (nodeC n vm vn vl) := Blk.new w 34 _
  have HN := hide h
  have HM := hide hM
  have B1 := hide b1
  have hnl := h.nlen
  clear hM h b1
  unfold nodeC at HM HS B1 ⊢
  go_enter Tryz.func16, Tryz.ntmps16
  obtain ⟨m, hm⟩ : ∃ m, m = w.heap.size := ⟨_, rfl⟩
  rw [← hm] at B1
  have HMM := hide hm
  clear hm
  go_wp2_with fail
  rw [← HMM.out]
  refine Calls.mono HS.out ?_
  rintro e w2 hp
  obtain ⟨hm2, hp⟩ := sense_pages hp
  have hM := HM.out.trans hm2
  have b1 := B1.out.mod hm2 id
  clear hm2 HM HS B1 HMM
  by_cases hg : nodeGood n = true
  · rw [if_pos hg] at hp
    obtain ⟨s, k, tp, ip, rfl, bs, hs, hk⟩ := hp
    obtain ⟨hml, htm⟩ := good_tame hg
    have hlen := stepsOf_length htm hml
    have HST := hide (steps_any w2 n vm vn vl (HN.out.kept hM) s k tp ip bs hml htm)
    have HG := hide hg
    clear hg hk htm hs
    have c0 := b1.cell 0
    have c1 := b1.cell 1
    have c2 := b1.cell 2
    have c3 := b1.cell 3
    have c4 := b1.cell 4
    have c5 := b1.cell 5
    have c6 := b1.cell 6
    have c7 := b1.cell 7
    have c8 := b1.cell 8
    have c9 := b1.cell 9
    go_wp2_with fail
    refine Calls.mono HST.out ?_
    rintro e w3 ⟨v, rfl, ho, hm3⟩
    have hli := list_of_ownRow (enc := encStep) (fun _ => rfl) ho
    replace hM := hM.trans hm3
    obtain ⟨T, hT⟩ : ∃ T, T = stepsOf n := ⟨_, rfl⟩
    rw [← hT] at hli hlen
    obtain ⟨As, cs, rfl, hcs1, hcs2, hcell⟩ := id hli
    have hll : ∀ w, (Builtin.len_ #[77] 3 #[.slice As T.length cs]).run Tryz.prog w = .ok (.int .i64 T.length) w := fun w => by simp [Builtin.len_, run_underlying Tryz.underlying77]; rfl
    have HLI := hide hli
    have HT := hide hT
    clear ho hm3 bs b1 c0 c1 c2 c3 c4 c5 c6 c7 c8 c9 HST hcell hli hT
    go_wp2_with fail
    go_loopw [16, 5] (fun s16 s5 wr => ∃ (k : Nat) (v5 : Value), v5 = s5 ∧ k ≤ T.length ∧ s16 = .int .i64 k ∧ wr.ownsRow w3.heap.size 49 8 v5 (entsFrom 1 (T.take k)).length (rowOf encEntry (entsFrom 1 (T.take k))) ∧ Mod None_ w3 wr) (fun s16 _ _ => T.length - (intOf s16).toNat)
    case atStart => exact ⟨0, _, rfl, Nat.zero_le _, rfl, ⟨rfl, .inl ⟨rfl, rfl⟩⟩, Mod.refl _ _⟩
    obtain ⟨k, v5, rfl, hk, rfl, hown, hMr⟩ := hrel
    by_cases hlt : k < T.length
    · have hki : (k : Int) < T.length := by omega
      have hli := HLI.out.kept hMr
      obtain ⟨_, _, hcv, _, _, hcell⟩ := hli
      simp only [Value.slice.injEq, true_and] at hcv
      obtain ⟨rfl, rfl⟩ := hcv
      obtain ⟨g, o, rfl, hg, hcell⟩ := hcell (by omega)
      have x0 : wr.cell? ⟨g, o + k, none⟩ = some (stepV T[k]) := by simpa using hcell k hlt 0 _ rfl
      have hsn : entsFrom 1 (T.take (k + 1)) = entsFrom 1 (T.take k) ++ [entOf T[k] (1 + k)] := by
        rw [List.take_succ_eq_append_getElem hlt, entsFrom_snoc, List.length_take, Nat.min_eq_left hk]
      have hEl := entsFrom_length 1 (T.take k)
      rw [List.length_take, Nat.min_eq_left hk] at hEl
      obtain ⟨x, hx⟩ : ∃ x, x = T[k] := ⟨_, rfl⟩
      rw [← hx] at x0 hsn
      obtain ⟨E, hE⟩ : ∃ E, E = entsFrom 1 (T.take k) := ⟨_, rfl⟩
      rw [← hE] at hown hsn hEl
      have HSN := hide hsn
      clear hcell hx hsn hE
      have hq : (k : Int) + 1 = 1 + k := by omega
      go_wp2_with fail
      refine (entry_any wr x (1 + (k : Int)) (by omega) (by omega)).mono ?_
      rintro e w4 ⟨rfl, hm4⟩
      obtain ⟨y, hy⟩ : ∃ y, y = entOf x (1 + k) := ⟨_, rfl⟩
      rw [← hy]
      have HY := hide hy
      have hown4 := own_mod hown hm4 (fun _ _ f => f)
      have hM4 := hMr.trans hm4
      clear hown hMr hm4 x0 hq hy
      have hb4 := hM4.size
      have hy8 : (encEntry y).length = 8 := rfl
      go_wp2_with ((with_reducible refine at_slot 27 ?_); refine wpList_append_row encEntry 37 49 (.agg #[.int .i64 0, .int .u64 0, .int .i64 0, .int .i64 0, .int .i64 0, .int .i64 0, .int .i64 0, .string ⟨#[]⟩]) 8 72 Tryz.underlying37 infoEntry rfl (by decide) (fun _ => rfl) oneEntry rfl (.tmp 21) (.tmp 26) rfl w4 w3.heap.size v5 E y rfl rfl w4.heap.size rfl rfl hown4 hb4 (by unfold maxLen; omega) (by omega) ?_; intro v8 w8 hown8 hm8 hat8
                   have hM8 := hM4.trans' hm8 (fun k hk e => by have := (own_blk hown4 e.symm).1; omega)
                   have L1 := hide hown8
                   have L2 := hide hM8
                   clear hown8 hm8 hat8 hM8 hown4 hM4
                   go_frame)
      go_roundw
      case rel => exact ⟨k + 1, _, rfl, by omega, by simp, by rw [HSN.out, ← HY.out]; exact L1.out, L2.out⟩
      case measure => simp [intOf]; omega
    · obtain rfl : k = T.length := by omega
      have hkn : ¬ (T.length : Int) < T.length := by omega
      rw [List.take_length] at hown
      have hl2 := list_of_ownRow (enc := encEntry) (fun _ => rfl) hown
      have HF : Hid (CanonPost w n (.returned (.tuple #[v5, .int .i64 0])) wr) := hide ⟨hM.trans hMr, by
        rw [if_pos HG.out]; exact ⟨v5, rfl, by unfold canonOf; rw [← HT.out]; exact hl2⟩⟩
      clear hown hMr hM hlt hl2
      go_wp2
      go_ret2
      exact HF.out
  · rw [if_neg hg] at hp
    obtain rfl := hp
    have HF : Hid (CanonPost w n (.returned (.tuple #[.slice none 0 0, .int .i64 90])) w2) := hide ⟨hM, by rw [if_neg hg]⟩
    clear hg hM b1
    go_wp2
    go_ret2
    exact HF.out
end Go.Proofs.YtabebkffcmajkaaGreatDoor
