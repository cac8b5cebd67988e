import Derived.Test.YtabebkffcmajkaaRW
import Derived.Deep.CutRange
/-! Walk: entryOf. -/
namespace Go.Proofs.Ytabebkffcmajkaa
open Go.RowKit Go.Maps Go.Shelf
attribute [local go_sem] quietV loudUpon Oper.semAt_some

inductive StepD where
  | write (r : RunD) (size : Int)
  | resize (size : Int)
  | add (name : ByteArray) (ino : Int)
def stepV : StepD → Value
  | .write r s => .iface 64 (.agg #[.int .i64 r.off, .int .i64 r.page, .int .i64 r.count, .int .i64 s])
  | .resize s => .iface 66 (.agg #[.int .i64 s])
  | .add n i => .iface 68 (.agg #[.string n, .int .i64 i])
def encStep (s : StepD) : List Value := [stepV s]
/-- a step's entry -/
def entOf (s : StepD) (q : Int) : EntD :=
  match s with
  | .write r z => ⟨1, q, r.off, r.count, r.page, z, 0, ⟨#[]⟩⟩
  | .resize z => ⟨2, q, 0, 0, 0, z, 0, ⟨#[]⟩⟩
  | .add n i => ⟨3, q, 0, 0, 0, 0, i, n⟩
section
open Go.Instr
variable (v : Value) (w : World) (xT : TypeId)
theorem as_write : (typeAssert (.iface 64 v) xT 64 true).run Try.prog w = .ok (.tuple #[v, .bool true]) w := by
  unfold typeAssert; simp [run_underlying Try.underlying64]
theorem as_resize : (typeAssert (.iface 66 v) xT 66 true).run Try.prog w = .ok (.tuple #[v, .bool true]) w := by
  unfold typeAssert; simp [run_underlying Try.underlying66]
theorem as_add : (typeAssert (.iface 68 v) xT 68 true).run Try.prog w = .ok (.tuple #[v, .bool true]) w := by
  unfold typeAssert; simp [run_underlying Try.underlying68]
theorem no_write (t : TypeId) (h : t ≠ 64) : (typeAssert (.iface t v) xT 64 true).run Try.prog w = .ok (.tuple #[.agg #[.int .i64 0, .int .i64 0, .int .i64 0, .int .i64 0], .bool false]) w := by
  unfold typeAssert; simp [run_underlying Try.underlying64, h]
theorem no_resize (t : TypeId) (h : t ≠ 66) : (typeAssert (.iface t v) xT 66 true).run Try.prog w = .ok (.tuple #[.agg #[.int .i64 0], .bool false]) w := by
  unfold typeAssert; simp [run_underlying Try.underlying66, h]
end


set_option maxRecDepth 100000 in
set_option maxHeartbeats 4000000 in
theorem entry_write (w : World) (r : RunD) (z : Int) (q : Int) (h0 : 0 ≤ q) (h1 : q ≤ 9223372036854775807) : Calls Try.prog 22 #[stepV (.write r z), .int .i64 q] w fun e w' => e = .returned (.agg (encEntry (entOf (.write r z) q)).toArray) ∧ Mod None_ w w' := by
  have a1 := fun v w => as_write v w 43
  have a2 := fun v w => as_resize v w 43
  have a3 := fun v w => as_add v w 43
  have a4 := fun v w => no_write v w 43 66 (by decide)
  have a5 := fun v w => no_write v w 43 68 (by decide)
  have a6 := fun v w => no_resize v w 43 68 (by decide)
  unfold stepV
  go_enter Try.func22, Try.ntmps22
  obtain ⟨m, hm⟩ : ∃ m, m = w.heap.size := ⟨_, rfl⟩
  obtain ⟨w1, hw1⟩ : ∃ w1, w1 = ((w.alloc (.cells #[.int .i64 0, .int .u64 0, .int .i64 0, .int .i64 0, .int .i64 0, .int .i64 0, .int .i64 0, .string ⟨#[]⟩] 46)).alloc (.cells #[.int .i64 0, .int .u64 q, .int .i64 0, .int .i64 0, .int .i64 0, .int .i64 0, .int .i64 0, .string ⟨#[]⟩] 46)).alloc (.cells #[.int .i64 r.off, .int .i64 r.page, .int .i64 r.count, .int .i64 z] 64) := ⟨_, rfl⟩
  have hM : Mod None_ w w1 := by rw [hw1]; exact (((Mod.refl _ w).alloc _).alloc _).alloc _
  have b4 : Blk w1 m 46 #[.int .i64 0, .int .u64 0, .int .i64 0, .int .i64 0, .int .i64 0, .int .i64 0, .int .i64 0, .string ⟨#[]⟩] := by rw [hw1, hm]; exact ((Blk.new w 46 _).alloc _).alloc _
  have b5 : Blk w1 (m + 1) 46 #[.int .i64 0, .int .u64 q, .int .i64 0, .int .i64 0, .int .i64 0, .int .i64 0, .int .i64 0, .string ⟨#[]⟩] := by
    have := (Blk.new (w.alloc (.cells #[.int .i64 0, .int .u64 0, .int .i64 0, .int .i64 0, .int .i64 0, .int .i64 0, .int .i64 0, .string ⟨#[]⟩] 46)) 46 #[.int .i64 0, .int .u64 q, .int .i64 0, .int .i64 0, .int .i64 0, .int .i64 0, .int .i64 0, .string ⟨#[]⟩]).alloc (.cells #[.int .i64 r.off, .int .i64 r.page, .int .i64 r.count, .int .i64 z] 64)
    rw [← hw1, alloc_size, ← hm] at this
    exact this
  have b6 : Blk w1 (m + 1 + 1) 64 #[.int .i64 r.off, .int .i64 r.page, .int .i64 r.count, .int .i64 z] := by
    have := Blk.new ((w.alloc (.cells #[.int .i64 0, .int .u64 0, .int .i64 0, .int .i64 0, .int .i64 0, .int .i64 0, .int .i64 0, .string ⟨#[]⟩] 46)).alloc (.cells #[.int .i64 0, .int .u64 q, .int .i64 0, .int .i64 0, .int .i64 0, .int .i64 0, .int .i64 0, .string ⟨#[]⟩] 46)) 64 #[.int .i64 r.off, .int .i64 r.page, .int .i64 r.count, .int .i64 z]
    rw [← hw1, alloc_size, alloc_size, ← hm] at this
    exact this
  have hgem : w.heap.size ≤ m := by omega
  have HM := hide hm
  have HW := hide hw1
  clear hm hw1
  go_wp2_with fail
  rw [← HW.out, ← HM.out]
  clear HW HM
  refine region_mxw [(true, 0), (true, 1), (true, 2), (true, 3), (true, 4), (true, 5), (true, 6), (true, 7), (true, 8), (true, 9), (true, 10), (true, 11), (false, 12), (true, 13), (false, 14), (true, 15), (false, 16), (true, 17), (false, 18), (true, 19), (false, 20)] (fun w' => Blk w' (m + 1 + 1) 64 #[.int .i64 r.off, .int .i64 r.page, .int .i64 r.count, .int .i64 z]) (by kernel_rfl) (by kernel_rfl) ?_
  rintro w3 hw3
  have hm3 : Mod None_ w1 w3 := by rw [hw3]; exact (Mod.refl _ w1).drew
  replace b4 := b4.mod hm3 id
  replace b5 := b5.mod hm3 id
  replace b6 := b6.mod hm3 id
  replace hM := hM.trans hm3
  clear hw3 hm3
  refine ⟨b6, ?_⟩
  iterate 12 (refine mxw_quiet rfl (fun w' i1 K hK => by have x0 := i1.cell 0; have x1 := i1.cell 1; have x2 := i1.cell 2; have x3 := i1.cell 3; (try go_simp); exact hK) ?_; try go_frame)
  have f0 : w3.frozen? ⟨m + 1, 0, none⟩ = false := b5.frozen 0
  have c0 : w3.cell? ⟨m + 1, 0, none⟩ = some (.int .i64 0) := b5.cell 0
  refine mxw_loud rfl (fun K hK => ?_)
  go_simp
  obtain ⟨w10, hw10⟩ : ∃ w', w' = w3.setCell ⟨m + 1, 0, none⟩ (.int .i64 1) := ⟨_, rfl⟩
  have hmw10 : Mod (· = m + 1) w3 w10 := by rw [hw10]; exact (Mod.refl (· = m + 1) w3).setCell (p := ⟨m + 1, 0, none⟩) (.inr rfl) _
  replace b5 : Blk w10 (m + 1) 46 #[.int .i64 1, .int .u64 q, .int .i64 0, .int .i64 0, .int .i64 0, .int .i64 0, .int .i64 0, .string ⟨#[]⟩] := by rw [hw10]; exact b5.set_ 0 (.int .i64 1)
  replace b4 := b4.mod hmw10 (by omega)
  replace b6 := b6.mod hmw10 (by omega)
  replace hM := hM.trans' hmw10 (fun k hk e => by omega)
  rw [← hw10]
  clear hw10 hmw10 f0 c0
  refine ⟨b6, hK _ _ ?_⟩
  clear hK K
  try go_frame
  iterate 1 (refine mxw_quiet rfl (fun w' i1 K hK => by have x0 := i1.cell 0; have x1 := i1.cell 1; have x2 := i1.cell 2; have x3 := i1.cell 3; (try go_simp); exact hK) ?_; try go_frame)
  have f1 : w10.frozen? ⟨m + 1, 2, none⟩ = false := b5.frozen 2
  have c1 : w10.cell? ⟨m + 1, 2, none⟩ = some (.int .i64 0) := b5.cell 2
  refine mxw_loud rfl (fun K hK => ?_)
  go_simp
  obtain ⟨w11, hw11⟩ : ∃ w', w' = w10.setCell ⟨m + 1, 2, none⟩ (.int .i64 r.off) := ⟨_, rfl⟩
  have hmw11 : Mod (· = m + 1) w10 w11 := by rw [hw11]; exact (Mod.refl (· = m + 1) w10).setCell (p := ⟨m + 1, 2, none⟩) (.inr rfl) _
  replace b5 : Blk w11 (m + 1) 46 #[.int .i64 1, .int .u64 q, .int .i64 r.off, .int .i64 0, .int .i64 0, .int .i64 0, .int .i64 0, .string ⟨#[]⟩] := by rw [hw11]; exact b5.set_ 2 (.int .i64 r.off)
  replace b4 := b4.mod hmw11 (by omega)
  replace b6 := b6.mod hmw11 (by omega)
  replace hM := hM.trans' hmw11 (fun k hk e => by omega)
  rw [← hw11]
  clear hw11 hmw11 f1 c1
  refine ⟨b6, hK _ _ ?_⟩
  clear hK K
  try go_frame
  iterate 1 (refine mxw_quiet rfl (fun w' i1 K hK => by have x0 := i1.cell 0; have x1 := i1.cell 1; have x2 := i1.cell 2; have x3 := i1.cell 3; (try go_simp); exact hK) ?_; try go_frame)
  have f2 : w11.frozen? ⟨m + 1, 3, none⟩ = false := b5.frozen 3
  have c2 : w11.cell? ⟨m + 1, 3, none⟩ = some (.int .i64 0) := b5.cell 3
  refine mxw_loud rfl (fun K hK => ?_)
  go_simp
  obtain ⟨w12, hw12⟩ : ∃ w', w' = w11.setCell ⟨m + 1, 3, none⟩ (.int .i64 r.count) := ⟨_, rfl⟩
  have hmw12 : Mod (· = m + 1) w11 w12 := by rw [hw12]; exact (Mod.refl (· = m + 1) w11).setCell (p := ⟨m + 1, 3, none⟩) (.inr rfl) _
  replace b5 : Blk w12 (m + 1) 46 #[.int .i64 1, .int .u64 q, .int .i64 r.off, .int .i64 r.count, .int .i64 0, .int .i64 0, .int .i64 0, .string ⟨#[]⟩] := by rw [hw12]; exact b5.set_ 3 (.int .i64 r.count)
  replace b4 := b4.mod hmw12 (by omega)
  replace b6 := b6.mod hmw12 (by omega)
  replace hM := hM.trans' hmw12 (fun k hk e => by omega)
  rw [← hw12]
  clear hw12 hmw12 f2 c2
  refine ⟨b6, hK _ _ ?_⟩
  clear hK K
  try go_frame
  iterate 1 (refine mxw_quiet rfl (fun w' i1 K hK => by have x0 := i1.cell 0; have x1 := i1.cell 1; have x2 := i1.cell 2; have x3 := i1.cell 3; (try go_simp); exact hK) ?_; try go_frame)
  have f3 : w12.frozen? ⟨m + 1, 4, none⟩ = false := b5.frozen 4
  have c3 : w12.cell? ⟨m + 1, 4, none⟩ = some (.int .i64 0) := b5.cell 4
  refine mxw_loud rfl (fun K hK => ?_)
  go_simp
  obtain ⟨w13, hw13⟩ : ∃ w', w' = w12.setCell ⟨m + 1, 4, none⟩ (.int .i64 r.page) := ⟨_, rfl⟩
  have hmw13 : Mod (· = m + 1) w12 w13 := by rw [hw13]; exact (Mod.refl (· = m + 1) w12).setCell (p := ⟨m + 1, 4, none⟩) (.inr rfl) _
  replace b5 : Blk w13 (m + 1) 46 #[.int .i64 1, .int .u64 q, .int .i64 r.off, .int .i64 r.count, .int .i64 r.page, .int .i64 0, .int .i64 0, .string ⟨#[]⟩] := by rw [hw13]; exact b5.set_ 4 (.int .i64 r.page)
  replace b4 := b4.mod hmw13 (by omega)
  replace b6 := b6.mod hmw13 (by omega)
  replace hM := hM.trans' hmw13 (fun k hk e => by omega)
  rw [← hw13]
  clear hw13 hmw13 f3 c3
  refine ⟨b6, hK _ _ ?_⟩
  clear hK K
  try go_frame
  iterate 1 (refine mxw_quiet rfl (fun w' i1 K hK => by have x0 := i1.cell 0; have x1 := i1.cell 1; have x2 := i1.cell 2; have x3 := i1.cell 3; (try go_simp); exact hK) ?_; try go_frame)
  have f4 : w13.frozen? ⟨m + 1, 5, none⟩ = false := b5.frozen 5
  have c4 : w13.cell? ⟨m + 1, 5, none⟩ = some (.int .i64 0) := b5.cell 5
  refine mxw_loud rfl (fun K hK => ?_)
  go_simp
  obtain ⟨w14, hw14⟩ : ∃ w', w' = w13.setCell ⟨m + 1, 5, none⟩ (.int .i64 z) := ⟨_, rfl⟩
  have hmw14 : Mod (· = m + 1) w13 w14 := by rw [hw14]; exact (Mod.refl (· = m + 1) w13).setCell (p := ⟨m + 1, 5, none⟩) (.inr rfl) _
  replace b5 : Blk w14 (m + 1) 46 #[.int .i64 1, .int .u64 q, .int .i64 r.off, .int .i64 r.count, .int .i64 r.page, .int .i64 z, .int .i64 0, .string ⟨#[]⟩] := by rw [hw14]; exact b5.set_ 5 (.int .i64 z)
  replace b4 := b4.mod hmw14 (by omega)
  replace b6 := b6.mod hmw14 (by omega)
  replace hM := hM.trans' hmw14 (fun k hk e => by omega)
  rw [← hw14]
  clear hw14 hmw14 f4 c4
  refine ⟨b6, hK _ _ ?_⟩
  clear hK K
  try go_frame
  refine mxw_nil ?_
  have e0 : w14.cell? ⟨m + 1, 0, none⟩ = some (.int .i64 1) := b5.cell 0
  have k0 : w14.cell? ⟨m, 0, none⟩ = some (.int .i64 0) := b4.cell 0
  have g0 : w14.frozen? ⟨m, 0, none⟩ = false := b4.frozen 0
  have e1 : w14.cell? ⟨m + 1, 1, none⟩ = some (.int .u64 q) := b5.cell 1
  have k1 : w14.cell? ⟨m, 1, none⟩ = some (.int .u64 0) := b4.cell 1
  have g1 : w14.frozen? ⟨m, 1, none⟩ = false := b4.frozen 1
  have e2 : w14.cell? ⟨m + 1, 2, none⟩ = some (.int .i64 r.off) := b5.cell 2
  have k2 : w14.cell? ⟨m, 2, none⟩ = some (.int .i64 0) := b4.cell 2
  have g2 : w14.frozen? ⟨m, 2, none⟩ = false := b4.frozen 2
  have e3 : w14.cell? ⟨m + 1, 3, none⟩ = some (.int .i64 r.count) := b5.cell 3
  have k3 : w14.cell? ⟨m, 3, none⟩ = some (.int .i64 0) := b4.cell 3
  have g3 : w14.frozen? ⟨m, 3, none⟩ = false := b4.frozen 3
  have e4 : w14.cell? ⟨m + 1, 4, none⟩ = some (.int .i64 r.page) := b5.cell 4
  have k4 : w14.cell? ⟨m, 4, none⟩ = some (.int .i64 0) := b4.cell 4
  have g4 : w14.frozen? ⟨m, 4, none⟩ = false := b4.frozen 4
  have e5 : w14.cell? ⟨m + 1, 5, none⟩ = some (.int .i64 z) := b5.cell 5
  have k5 : w14.cell? ⟨m, 5, none⟩ = some (.int .i64 0) := b4.cell 5
  have g5 : w14.frozen? ⟨m, 5, none⟩ = false := b4.frozen 5
  have e6 : w14.cell? ⟨m + 1, 6, none⟩ = some (.int .i64 0) := b5.cell 6
  have k6 : w14.cell? ⟨m, 6, none⟩ = some (.int .i64 0) := b4.cell 6
  have g6 : w14.frozen? ⟨m, 6, none⟩ = false := b4.frozen 6
  have e7 : w14.cell? ⟨m + 1, 7, none⟩ = some (.string ⟨#[]⟩) := b5.cell 7
  have k7 : w14.cell? ⟨m, 7, none⟩ = some (.string ⟨#[]⟩) := b4.cell 7
  have g7 : w14.frozen? ⟨m, 7, none⟩ = false := b4.frozen 7
  have y0 : Blk (w14.setCell ⟨m, 0, none⟩ (.int .i64 1)) m 46 #[.int .i64 1, .int .u64 0, .int .i64 0, .int .i64 0, .int .i64 0, .int .i64 0, .int .i64 0, .string ⟨#[]⟩] := b4.set_ 0 (.int .i64 1)
  have y1 : Blk ((w14.setCell ⟨m, 0, none⟩ (.int .i64 1)).setCell ⟨m, 1, none⟩ (.int .u64 q)) m 46 #[.int .i64 1, .int .u64 q, .int .i64 0, .int .i64 0, .int .i64 0, .int .i64 0, .int .i64 0, .string ⟨#[]⟩] := y0.set_ 1 (.int .u64 q)
  have y2 : Blk (((w14.setCell ⟨m, 0, none⟩ (.int .i64 1)).setCell ⟨m, 1, none⟩ (.int .u64 q)).setCell ⟨m, 2, none⟩ (.int .i64 r.off)) m 46 #[.int .i64 1, .int .u64 q, .int .i64 r.off, .int .i64 0, .int .i64 0, .int .i64 0, .int .i64 0, .string ⟨#[]⟩] := y1.set_ 2 (.int .i64 r.off)
  have y3 : Blk ((((w14.setCell ⟨m, 0, none⟩ (.int .i64 1)).setCell ⟨m, 1, none⟩ (.int .u64 q)).setCell ⟨m, 2, none⟩ (.int .i64 r.off)).setCell ⟨m, 3, none⟩ (.int .i64 r.count)) m 46 #[.int .i64 1, .int .u64 q, .int .i64 r.off, .int .i64 r.count, .int .i64 0, .int .i64 0, .int .i64 0, .string ⟨#[]⟩] := y2.set_ 3 (.int .i64 r.count)
  have y4 : Blk (((((w14.setCell ⟨m, 0, none⟩ (.int .i64 1)).setCell ⟨m, 1, none⟩ (.int .u64 q)).setCell ⟨m, 2, none⟩ (.int .i64 r.off)).setCell ⟨m, 3, none⟩ (.int .i64 r.count)).setCell ⟨m, 4, none⟩ (.int .i64 r.page)) m 46 #[.int .i64 1, .int .u64 q, .int .i64 r.off, .int .i64 r.count, .int .i64 r.page, .int .i64 0, .int .i64 0, .string ⟨#[]⟩] := y3.set_ 4 (.int .i64 r.page)
  have y5 : Blk ((((((w14.setCell ⟨m, 0, none⟩ (.int .i64 1)).setCell ⟨m, 1, none⟩ (.int .u64 q)).setCell ⟨m, 2, none⟩ (.int .i64 r.off)).setCell ⟨m, 3, none⟩ (.int .i64 r.count)).setCell ⟨m, 4, none⟩ (.int .i64 r.page)).setCell ⟨m, 5, none⟩ (.int .i64 z)) m 46 #[.int .i64 1, .int .u64 q, .int .i64 r.off, .int .i64 r.count, .int .i64 r.page, .int .i64 z, .int .i64 0, .string ⟨#[]⟩] := y4.set_ 5 (.int .i64 z)
  have y6 : Blk (((((((w14.setCell ⟨m, 0, none⟩ (.int .i64 1)).setCell ⟨m, 1, none⟩ (.int .u64 q)).setCell ⟨m, 2, none⟩ (.int .i64 r.off)).setCell ⟨m, 3, none⟩ (.int .i64 r.count)).setCell ⟨m, 4, none⟩ (.int .i64 r.page)).setCell ⟨m, 5, none⟩ (.int .i64 z)).setCell ⟨m, 6, none⟩ (.int .i64 0)) m 46 #[.int .i64 1, .int .u64 q, .int .i64 r.off, .int .i64 r.count, .int .i64 r.page, .int .i64 z, .int .i64 0, .string ⟨#[]⟩] := y5.set_ 6 (.int .i64 0)
  have y7 : Blk ((((((((w14.setCell ⟨m, 0, none⟩ (.int .i64 1)).setCell ⟨m, 1, none⟩ (.int .u64 q)).setCell ⟨m, 2, none⟩ (.int .i64 r.off)).setCell ⟨m, 3, none⟩ (.int .i64 r.count)).setCell ⟨m, 4, none⟩ (.int .i64 r.page)).setCell ⟨m, 5, none⟩ (.int .i64 z)).setCell ⟨m, 6, none⟩ (.int .i64 0)).setCell ⟨m, 7, none⟩ (.string ⟨#[]⟩)) m 46 #[.int .i64 1, .int .u64 q, .int .i64 r.off, .int .i64 r.count, .int .i64 r.page, .int .i64 z, .int .i64 0, .string ⟨#[]⟩] := y6.set_ 7 (.string ⟨#[]⟩)
  have bz := y7
  clear y0 y1 y2 y3 y4 y5 y6 y7
  have hz : Mod None_ w ((((((((w14.setCell ⟨m, 0, none⟩ (.int .i64 1)).setCell ⟨m, 1, none⟩ (.int .u64 q)).setCell ⟨m, 2, none⟩ (.int .i64 r.off)).setCell ⟨m, 3, none⟩ (.int .i64 r.count)).setCell ⟨m, 4, none⟩ (.int .i64 r.page)).setCell ⟨m, 5, none⟩ (.int .i64 z)).setCell ⟨m, 6, none⟩ (.int .i64 0)).setCell ⟨m, 7, none⟩ (.string ⟨#[]⟩)) := (((((((hM.setCell (p := ⟨m, 0, none⟩) (.inl (by show w.heap.size ≤ m; omega)) _).setCell (p := ⟨m, 1, none⟩) (.inl (by show w.heap.size ≤ m; omega)) _).setCell (p := ⟨m, 2, none⟩) (.inl (by show w.heap.size ≤ m; omega)) _).setCell (p := ⟨m, 3, none⟩) (.inl (by show w.heap.size ≤ m; omega)) _).setCell (p := ⟨m, 4, none⟩) (.inl (by show w.heap.size ≤ m; omega)) _).setCell (p := ⟨m, 5, none⟩) (.inl (by show w.heap.size ≤ m; omega)) _).setCell (p := ⟨m, 6, none⟩) (.inl (by show w.heap.size ≤ m; omega)) _).setCell (p := ⟨m, 7, none⟩) (.inl (by show w.heap.size ≤ m; omega)) _
  have BZ := hide bz
  have HZ := hide hz
  clear bz hz
  go_wp2
  have z0 := BZ.out.cell 0
  have z1 := BZ.out.cell 1
  have z2 := BZ.out.cell 2
  have z3 := BZ.out.cell 3
  have z4 := BZ.out.cell 4
  have z5 := BZ.out.cell 5
  have z6 := BZ.out.cell 6
  have z7 := BZ.out.cell 7
  refine ⟨rfl, .agg #[.int .i64 1, .int .u64 q, .int .i64 r.off, .int .i64 r.count, .int .i64 r.page, .int .i64 z, .int .i64 0, .string ⟨#[]⟩], ?_, rfl, HZ.out⟩
  simp [results, Try.results22, go_sem, z0, z1, z2, z3, z4, z5, z6, z7]

set_option maxRecDepth 100000 in
set_option maxHeartbeats 4000000 in
theorem entry_resize (w : World) (z : Int) (q : Int) (h0 : 0 ≤ q) (h1 : q ≤ 9223372036854775807) : Calls Try.prog 22 #[stepV (.resize z), .int .i64 q] w fun e w' => e = .returned (.agg (encEntry (entOf (.resize z) q)).toArray) ∧ Mod None_ w w' := by
  have a1 := fun v w => as_write v w 43
  have a2 := fun v w => as_resize v w 43
  have a3 := fun v w => as_add v w 43
  have a4 := fun v w => no_write v w 43 66 (by decide)
  have a5 := fun v w => no_write v w 43 68 (by decide)
  have a6 := fun v w => no_resize v w 43 68 (by decide)
  unfold stepV
  go_enter Try.func22, Try.ntmps22
  obtain ⟨m, hm⟩ : ∃ m, m = w.heap.size := ⟨_, rfl⟩
  obtain ⟨w1, hw1⟩ : ∃ w1, w1 = ((w.alloc (.cells #[.int .i64 0, .int .u64 0, .int .i64 0, .int .i64 0, .int .i64 0, .int .i64 0, .int .i64 0, .string ⟨#[]⟩] 46)).alloc (.cells #[.int .i64 0, .int .u64 q, .int .i64 0, .int .i64 0, .int .i64 0, .int .i64 0, .int .i64 0, .string ⟨#[]⟩] 46)).alloc (.cells #[.int .i64 z] 66) := ⟨_, rfl⟩
  have hM : Mod None_ w w1 := by rw [hw1]; exact (((Mod.refl _ w).alloc _).alloc _).alloc _
  have b4 : Blk w1 m 46 #[.int .i64 0, .int .u64 0, .int .i64 0, .int .i64 0, .int .i64 0, .int .i64 0, .int .i64 0, .string ⟨#[]⟩] := by rw [hw1, hm]; exact ((Blk.new w 46 _).alloc _).alloc _
  have b5 : Blk w1 (m + 1) 46 #[.int .i64 0, .int .u64 q, .int .i64 0, .int .i64 0, .int .i64 0, .int .i64 0, .int .i64 0, .string ⟨#[]⟩] := by
    have := (Blk.new (w.alloc (.cells #[.int .i64 0, .int .u64 0, .int .i64 0, .int .i64 0, .int .i64 0, .int .i64 0, .int .i64 0, .string ⟨#[]⟩] 46)) 46 #[.int .i64 0, .int .u64 q, .int .i64 0, .int .i64 0, .int .i64 0, .int .i64 0, .int .i64 0, .string ⟨#[]⟩]).alloc (.cells #[.int .i64 z] 66)
    rw [← hw1, alloc_size, ← hm] at this
    exact this
  have b6 : Blk w1 (m + 1 + 1) 66 #[.int .i64 z] := by
    have := Blk.new ((w.alloc (.cells #[.int .i64 0, .int .u64 0, .int .i64 0, .int .i64 0, .int .i64 0, .int .i64 0, .int .i64 0, .string ⟨#[]⟩] 46)).alloc (.cells #[.int .i64 0, .int .u64 q, .int .i64 0, .int .i64 0, .int .i64 0, .int .i64 0, .int .i64 0, .string ⟨#[]⟩] 46)) 66 #[.int .i64 z]
    rw [← hw1, alloc_size, alloc_size, ← hm] at this
    exact this
  have hgem : w.heap.size ≤ m := by omega
  have HM := hide hm
  have HW := hide hw1
  clear hm hw1
  go_wp2_with fail
  rw [← HW.out, ← HM.out]
  clear HW HM
  refine region_mxw [(true, 0), (true, 1), (true, 2), (false, 3), (true, 4), (false, 5)] (fun w' => Blk w' (m + 1 + 1) 66 #[.int .i64 z]) (by kernel_rfl) (by kernel_rfl) ?_
  rintro w3 hw3
  have hm3 : Mod None_ w1 w3 := by rw [hw3]; exact (Mod.refl _ w1).drew
  replace b4 := b4.mod hm3 id
  replace b5 := b5.mod hm3 id
  replace b6 := b6.mod hm3 id
  replace hM := hM.trans hm3
  clear hw3 hm3
  refine ⟨b6, ?_⟩
  iterate 3 (refine mxw_quiet rfl (fun w' i1 K hK => by have x0 := i1.cell 0; (try go_simp); exact hK) ?_; try go_frame)
  have f0 : w3.frozen? ⟨m + 1, 0, none⟩ = false := b5.frozen 0
  have c0 : w3.cell? ⟨m + 1, 0, none⟩ = some (.int .i64 0) := b5.cell 0
  refine mxw_loud rfl (fun K hK => ?_)
  go_simp
  obtain ⟨w10, hw10⟩ : ∃ w', w' = w3.setCell ⟨m + 1, 0, none⟩ (.int .i64 2) := ⟨_, rfl⟩
  have hmw10 : Mod (· = m + 1) w3 w10 := by rw [hw10]; exact (Mod.refl (· = m + 1) w3).setCell (p := ⟨m + 1, 0, none⟩) (.inr rfl) _
  replace b5 : Blk w10 (m + 1) 46 #[.int .i64 2, .int .u64 q, .int .i64 0, .int .i64 0, .int .i64 0, .int .i64 0, .int .i64 0, .string ⟨#[]⟩] := by rw [hw10]; exact b5.set_ 0 (.int .i64 2)
  replace b4 := b4.mod hmw10 (by omega)
  replace b6 := b6.mod hmw10 (by omega)
  replace hM := hM.trans' hmw10 (fun k hk e => by omega)
  rw [← hw10]
  clear hw10 hmw10 f0 c0
  refine ⟨b6, hK _ _ ?_⟩
  clear hK K
  try go_frame
  iterate 1 (refine mxw_quiet rfl (fun w' i1 K hK => by have x0 := i1.cell 0; (try go_simp); exact hK) ?_; try go_frame)
  have f1 : w10.frozen? ⟨m + 1, 5, none⟩ = false := b5.frozen 5
  have c1 : w10.cell? ⟨m + 1, 5, none⟩ = some (.int .i64 0) := b5.cell 5
  refine mxw_loud rfl (fun K hK => ?_)
  go_simp
  obtain ⟨w11, hw11⟩ : ∃ w', w' = w10.setCell ⟨m + 1, 5, none⟩ (.int .i64 z) := ⟨_, rfl⟩
  have hmw11 : Mod (· = m + 1) w10 w11 := by rw [hw11]; exact (Mod.refl (· = m + 1) w10).setCell (p := ⟨m + 1, 5, none⟩) (.inr rfl) _
  replace b5 : Blk w11 (m + 1) 46 #[.int .i64 2, .int .u64 q, .int .i64 0, .int .i64 0, .int .i64 0, .int .i64 z, .int .i64 0, .string ⟨#[]⟩] := by rw [hw11]; exact b5.set_ 5 (.int .i64 z)
  replace b4 := b4.mod hmw11 (by omega)
  replace b6 := b6.mod hmw11 (by omega)
  replace hM := hM.trans' hmw11 (fun k hk e => by omega)
  rw [← hw11]
  clear hw11 hmw11 f1 c1
  refine ⟨b6, hK _ _ ?_⟩
  clear hK K
  try go_frame
  refine mxw_nil ?_
  have e0 : w11.cell? ⟨m + 1, 0, none⟩ = some (.int .i64 2) := b5.cell 0
  have k0 : w11.cell? ⟨m, 0, none⟩ = some (.int .i64 0) := b4.cell 0
  have g0 : w11.frozen? ⟨m, 0, none⟩ = false := b4.frozen 0
  have e1 : w11.cell? ⟨m + 1, 1, none⟩ = some (.int .u64 q) := b5.cell 1
  have k1 : w11.cell? ⟨m, 1, none⟩ = some (.int .u64 0) := b4.cell 1
  have g1 : w11.frozen? ⟨m, 1, none⟩ = false := b4.frozen 1
  have e2 : w11.cell? ⟨m + 1, 2, none⟩ = some (.int .i64 0) := b5.cell 2
  have k2 : w11.cell? ⟨m, 2, none⟩ = some (.int .i64 0) := b4.cell 2
  have g2 : w11.frozen? ⟨m, 2, none⟩ = false := b4.frozen 2
  have e3 : w11.cell? ⟨m + 1, 3, none⟩ = some (.int .i64 0) := b5.cell 3
  have k3 : w11.cell? ⟨m, 3, none⟩ = some (.int .i64 0) := b4.cell 3
  have g3 : w11.frozen? ⟨m, 3, none⟩ = false := b4.frozen 3
  have e4 : w11.cell? ⟨m + 1, 4, none⟩ = some (.int .i64 0) := b5.cell 4
  have k4 : w11.cell? ⟨m, 4, none⟩ = some (.int .i64 0) := b4.cell 4
  have g4 : w11.frozen? ⟨m, 4, none⟩ = false := b4.frozen 4
  have e5 : w11.cell? ⟨m + 1, 5, none⟩ = some (.int .i64 z) := b5.cell 5
  have k5 : w11.cell? ⟨m, 5, none⟩ = some (.int .i64 0) := b4.cell 5
  have g5 : w11.frozen? ⟨m, 5, none⟩ = false := b4.frozen 5
  have e6 : w11.cell? ⟨m + 1, 6, none⟩ = some (.int .i64 0) := b5.cell 6
  have k6 : w11.cell? ⟨m, 6, none⟩ = some (.int .i64 0) := b4.cell 6
  have g6 : w11.frozen? ⟨m, 6, none⟩ = false := b4.frozen 6
  have e7 : w11.cell? ⟨m + 1, 7, none⟩ = some (.string ⟨#[]⟩) := b5.cell 7
  have k7 : w11.cell? ⟨m, 7, none⟩ = some (.string ⟨#[]⟩) := b4.cell 7
  have g7 : w11.frozen? ⟨m, 7, none⟩ = false := b4.frozen 7
  have y0 : Blk (w11.setCell ⟨m, 0, none⟩ (.int .i64 2)) m 46 #[.int .i64 2, .int .u64 0, .int .i64 0, .int .i64 0, .int .i64 0, .int .i64 0, .int .i64 0, .string ⟨#[]⟩] := b4.set_ 0 (.int .i64 2)
  have y1 : Blk ((w11.setCell ⟨m, 0, none⟩ (.int .i64 2)).setCell ⟨m, 1, none⟩ (.int .u64 q)) m 46 #[.int .i64 2, .int .u64 q, .int .i64 0, .int .i64 0, .int .i64 0, .int .i64 0, .int .i64 0, .string ⟨#[]⟩] := y0.set_ 1 (.int .u64 q)
  have y2 : Blk (((w11.setCell ⟨m, 0, none⟩ (.int .i64 2)).setCell ⟨m, 1, none⟩ (.int .u64 q)).setCell ⟨m, 2, none⟩ (.int .i64 0)) m 46 #[.int .i64 2, .int .u64 q, .int .i64 0, .int .i64 0, .int .i64 0, .int .i64 0, .int .i64 0, .string ⟨#[]⟩] := y1.set_ 2 (.int .i64 0)
  have y3 : Blk ((((w11.setCell ⟨m, 0, none⟩ (.int .i64 2)).setCell ⟨m, 1, none⟩ (.int .u64 q)).setCell ⟨m, 2, none⟩ (.int .i64 0)).setCell ⟨m, 3, none⟩ (.int .i64 0)) m 46 #[.int .i64 2, .int .u64 q, .int .i64 0, .int .i64 0, .int .i64 0, .int .i64 0, .int .i64 0, .string ⟨#[]⟩] := y2.set_ 3 (.int .i64 0)
  have y4 : Blk (((((w11.setCell ⟨m, 0, none⟩ (.int .i64 2)).setCell ⟨m, 1, none⟩ (.int .u64 q)).setCell ⟨m, 2, none⟩ (.int .i64 0)).setCell ⟨m, 3, none⟩ (.int .i64 0)).setCell ⟨m, 4, none⟩ (.int .i64 0)) m 46 #[.int .i64 2, .int .u64 q, .int .i64 0, .int .i64 0, .int .i64 0, .int .i64 0, .int .i64 0, .string ⟨#[]⟩] := y3.set_ 4 (.int .i64 0)
  have y5 : Blk ((((((w11.setCell ⟨m, 0, none⟩ (.int .i64 2)).setCell ⟨m, 1, none⟩ (.int .u64 q)).setCell ⟨m, 2, none⟩ (.int .i64 0)).setCell ⟨m, 3, none⟩ (.int .i64 0)).setCell ⟨m, 4, none⟩ (.int .i64 0)).setCell ⟨m, 5, none⟩ (.int .i64 z)) m 46 #[.int .i64 2, .int .u64 q, .int .i64 0, .int .i64 0, .int .i64 0, .int .i64 z, .int .i64 0, .string ⟨#[]⟩] := y4.set_ 5 (.int .i64 z)
  have y6 : Blk (((((((w11.setCell ⟨m, 0, none⟩ (.int .i64 2)).setCell ⟨m, 1, none⟩ (.int .u64 q)).setCell ⟨m, 2, none⟩ (.int .i64 0)).setCell ⟨m, 3, none⟩ (.int .i64 0)).setCell ⟨m, 4, none⟩ (.int .i64 0)).setCell ⟨m, 5, none⟩ (.int .i64 z)).setCell ⟨m, 6, none⟩ (.int .i64 0)) m 46 #[.int .i64 2, .int .u64 q, .int .i64 0, .int .i64 0, .int .i64 0, .int .i64 z, .int .i64 0, .string ⟨#[]⟩] := y5.set_ 6 (.int .i64 0)
  have y7 : Blk ((((((((w11.setCell ⟨m, 0, none⟩ (.int .i64 2)).setCell ⟨m, 1, none⟩ (.int .u64 q)).setCell ⟨m, 2, none⟩ (.int .i64 0)).setCell ⟨m, 3, none⟩ (.int .i64 0)).setCell ⟨m, 4, none⟩ (.int .i64 0)).setCell ⟨m, 5, none⟩ (.int .i64 z)).setCell ⟨m, 6, none⟩ (.int .i64 0)).setCell ⟨m, 7, none⟩ (.string ⟨#[]⟩)) m 46 #[.int .i64 2, .int .u64 q, .int .i64 0, .int .i64 0, .int .i64 0, .int .i64 z, .int .i64 0, .string ⟨#[]⟩] := y6.set_ 7 (.string ⟨#[]⟩)
  have bz := y7
  clear y0 y1 y2 y3 y4 y5 y6 y7
  have hz : Mod None_ w ((((((((w11.setCell ⟨m, 0, none⟩ (.int .i64 2)).setCell ⟨m, 1, none⟩ (.int .u64 q)).setCell ⟨m, 2, none⟩ (.int .i64 0)).setCell ⟨m, 3, none⟩ (.int .i64 0)).setCell ⟨m, 4, none⟩ (.int .i64 0)).setCell ⟨m, 5, none⟩ (.int .i64 z)).setCell ⟨m, 6, none⟩ (.int .i64 0)).setCell ⟨m, 7, none⟩ (.string ⟨#[]⟩)) := (((((((hM.setCell (p := ⟨m, 0, none⟩) (.inl (by show w.heap.size ≤ m; omega)) _).setCell (p := ⟨m, 1, none⟩) (.inl (by show w.heap.size ≤ m; omega)) _).setCell (p := ⟨m, 2, none⟩) (.inl (by show w.heap.size ≤ m; omega)) _).setCell (p := ⟨m, 3, none⟩) (.inl (by show w.heap.size ≤ m; omega)) _).setCell (p := ⟨m, 4, none⟩) (.inl (by show w.heap.size ≤ m; omega)) _).setCell (p := ⟨m, 5, none⟩) (.inl (by show w.heap.size ≤ m; omega)) _).setCell (p := ⟨m, 6, none⟩) (.inl (by show w.heap.size ≤ m; omega)) _).setCell (p := ⟨m, 7, none⟩) (.inl (by show w.heap.size ≤ m; omega)) _
  have BZ := hide bz
  have HZ := hide hz
  clear bz hz
  go_wp2
  have z0 := BZ.out.cell 0
  have z1 := BZ.out.cell 1
  have z2 := BZ.out.cell 2
  have z3 := BZ.out.cell 3
  have z4 := BZ.out.cell 4
  have z5 := BZ.out.cell 5
  have z6 := BZ.out.cell 6
  have z7 := BZ.out.cell 7
  refine ⟨rfl, .agg #[.int .i64 2, .int .u64 q, .int .i64 0, .int .i64 0, .int .i64 0, .int .i64 z, .int .i64 0, .string ⟨#[]⟩], ?_, rfl, HZ.out⟩
  simp [results, Try.results22, go_sem, z0, z1, z2, z3, z4, z5, z6, z7]

set_option maxRecDepth 100000 in
set_option maxHeartbeats 4000000 in
theorem entry_add (w : World) (nm : ByteArray) (i : Int) (q : Int) (h0 : 0 ≤ q) (h1 : q ≤ 9223372036854775807) : Calls Try.prog 22 #[stepV (.add nm i), .int .i64 q] w fun e w' => e = .returned (.agg (encEntry (entOf (.add nm i) q)).toArray) ∧ Mod None_ w w' := by
  have a1 := fun v w => as_write v w 43
  have a2 := fun v w => as_resize v w 43
  have a3 := fun v w => as_add v w 43
  have a4 := fun v w => no_write v w 43 66 (by decide)
  have a5 := fun v w => no_write v w 43 68 (by decide)
  have a6 := fun v w => no_resize v w 43 68 (by decide)
  unfold stepV
  go_enter Try.func22, Try.ntmps22
  obtain ⟨m, hm⟩ : ∃ m, m = w.heap.size := ⟨_, rfl⟩
  obtain ⟨w1, hw1⟩ : ∃ w1, w1 = ((w.alloc (.cells #[.int .i64 0, .int .u64 0, .int .i64 0, .int .i64 0, .int .i64 0, .int .i64 0, .int .i64 0, .string ⟨#[]⟩] 46)).alloc (.cells #[.int .i64 0, .int .u64 q, .int .i64 0, .int .i64 0, .int .i64 0, .int .i64 0, .int .i64 0, .string ⟨#[]⟩] 46)).alloc (.cells #[.string nm, .int .i64 i] 68) := ⟨_, rfl⟩
  have hM : Mod None_ w w1 := by rw [hw1]; exact (((Mod.refl _ w).alloc _).alloc _).alloc _
  have b4 : Blk w1 m 46 #[.int .i64 0, .int .u64 0, .int .i64 0, .int .i64 0, .int .i64 0, .int .i64 0, .int .i64 0, .string ⟨#[]⟩] := by rw [hw1, hm]; exact ((Blk.new w 46 _).alloc _).alloc _
  have b5 : Blk w1 (m + 1) 46 #[.int .i64 0, .int .u64 q, .int .i64 0, .int .i64 0, .int .i64 0, .int .i64 0, .int .i64 0, .string ⟨#[]⟩] := by
    have := (Blk.new (w.alloc (.cells #[.int .i64 0, .int .u64 0, .int .i64 0, .int .i64 0, .int .i64 0, .int .i64 0, .int .i64 0, .string ⟨#[]⟩] 46)) 46 #[.int .i64 0, .int .u64 q, .int .i64 0, .int .i64 0, .int .i64 0, .int .i64 0, .int .i64 0, .string ⟨#[]⟩]).alloc (.cells #[.string nm, .int .i64 i] 68)
    rw [← hw1, alloc_size, ← hm] at this
    exact this
  have b6 : Blk w1 (m + 1 + 1) 68 #[.string nm, .int .i64 i] := by
    have := Blk.new ((w.alloc (.cells #[.int .i64 0, .int .u64 0, .int .i64 0, .int .i64 0, .int .i64 0, .int .i64 0, .int .i64 0, .string ⟨#[]⟩] 46)).alloc (.cells #[.int .i64 0, .int .u64 q, .int .i64 0, .int .i64 0, .int .i64 0, .int .i64 0, .int .i64 0, .string ⟨#[]⟩] 46)) 68 #[.string nm, .int .i64 i]
    rw [← hw1, alloc_size, alloc_size, ← hm] at this
    exact this
  have hgem : w.heap.size ≤ m := by omega
  have HM := hide hm
  have HW := hide hw1
  clear hm hw1
  go_wp2_with fail
  rw [← HW.out, ← HM.out]
  clear HW HM
  refine region_mxw [(true, 0), (true, 1), (true, 2), (true, 3), (true, 4), (true, 5), (true, 6), (false, 7), (true, 8), (false, 9), (true, 10), (false, 11)] (fun w' => Blk w' (m + 1 + 1) 68 #[.string nm, .int .i64 i]) (by kernel_rfl) (by kernel_rfl) ?_
  rintro w3 hw3
  have hm3 : Mod None_ w1 w3 := by rw [hw3]; exact (Mod.refl _ w1).drew
  replace b4 := b4.mod hm3 id
  replace b5 := b5.mod hm3 id
  replace b6 := b6.mod hm3 id
  replace hM := hM.trans hm3
  clear hw3 hm3
  refine ⟨b6, ?_⟩
  iterate 7 (refine mxw_quiet rfl (fun w' i1 K hK => by have x0 := i1.cell 0; have x1 := i1.cell 1; (try go_simp); exact hK) ?_; try go_frame)
  have f0 : w3.frozen? ⟨m + 1, 0, none⟩ = false := b5.frozen 0
  have c0 : w3.cell? ⟨m + 1, 0, none⟩ = some (.int .i64 0) := b5.cell 0
  refine mxw_loud rfl (fun K hK => ?_)
  go_simp
  obtain ⟨w10, hw10⟩ : ∃ w', w' = w3.setCell ⟨m + 1, 0, none⟩ (.int .i64 3) := ⟨_, rfl⟩
  have hmw10 : Mod (· = m + 1) w3 w10 := by rw [hw10]; exact (Mod.refl (· = m + 1) w3).setCell (p := ⟨m + 1, 0, none⟩) (.inr rfl) _
  replace b5 : Blk w10 (m + 1) 46 #[.int .i64 3, .int .u64 q, .int .i64 0, .int .i64 0, .int .i64 0, .int .i64 0, .int .i64 0, .string ⟨#[]⟩] := by rw [hw10]; exact b5.set_ 0 (.int .i64 3)
  replace b4 := b4.mod hmw10 (by omega)
  replace b6 := b6.mod hmw10 (by omega)
  replace hM := hM.trans' hmw10 (fun k hk e => by omega)
  rw [← hw10]
  clear hw10 hmw10 f0 c0
  refine ⟨b6, hK _ _ ?_⟩
  clear hK K
  try go_frame
  iterate 1 (refine mxw_quiet rfl (fun w' i1 K hK => by have x0 := i1.cell 0; have x1 := i1.cell 1; (try go_simp); exact hK) ?_; try go_frame)
  have f1 : w10.frozen? ⟨m + 1, 7, none⟩ = false := b5.frozen 7
  have c1 : w10.cell? ⟨m + 1, 7, none⟩ = some (.string ⟨#[]⟩) := b5.cell 7
  refine mxw_loud rfl (fun K hK => ?_)
  go_simp
  obtain ⟨w11, hw11⟩ : ∃ w', w' = w10.setCell ⟨m + 1, 7, none⟩ (.string nm) := ⟨_, rfl⟩
  have hmw11 : Mod (· = m + 1) w10 w11 := by rw [hw11]; exact (Mod.refl (· = m + 1) w10).setCell (p := ⟨m + 1, 7, none⟩) (.inr rfl) _
  replace b5 : Blk w11 (m + 1) 46 #[.int .i64 3, .int .u64 q, .int .i64 0, .int .i64 0, .int .i64 0, .int .i64 0, .int .i64 0, .string nm] := by rw [hw11]; exact b5.set_ 7 (.string nm)
  replace b4 := b4.mod hmw11 (by omega)
  replace b6 := b6.mod hmw11 (by omega)
  replace hM := hM.trans' hmw11 (fun k hk e => by omega)
  rw [← hw11]
  clear hw11 hmw11 f1 c1
  refine ⟨b6, hK _ _ ?_⟩
  clear hK K
  try go_frame
  iterate 1 (refine mxw_quiet rfl (fun w' i1 K hK => by have x0 := i1.cell 0; have x1 := i1.cell 1; (try go_simp); exact hK) ?_; try go_frame)
  have f2 : w11.frozen? ⟨m + 1, 6, none⟩ = false := b5.frozen 6
  have c2 : w11.cell? ⟨m + 1, 6, none⟩ = some (.int .i64 0) := b5.cell 6
  refine mxw_loud rfl (fun K hK => ?_)
  go_simp
  obtain ⟨w12, hw12⟩ : ∃ w', w' = w11.setCell ⟨m + 1, 6, none⟩ (.int .i64 i) := ⟨_, rfl⟩
  have hmw12 : Mod (· = m + 1) w11 w12 := by rw [hw12]; exact (Mod.refl (· = m + 1) w11).setCell (p := ⟨m + 1, 6, none⟩) (.inr rfl) _
  replace b5 : Blk w12 (m + 1) 46 #[.int .i64 3, .int .u64 q, .int .i64 0, .int .i64 0, .int .i64 0, .int .i64 0, .int .i64 i, .string nm] := by rw [hw12]; exact b5.set_ 6 (.int .i64 i)
  replace b4 := b4.mod hmw12 (by omega)
  replace b6 := b6.mod hmw12 (by omega)
  replace hM := hM.trans' hmw12 (fun k hk e => by omega)
  rw [← hw12]
  clear hw12 hmw12 f2 c2
  refine ⟨b6, hK _ _ ?_⟩
  clear hK K
  try go_frame
  refine mxw_nil ?_
  have e0 : w12.cell? ⟨m + 1, 0, none⟩ = some (.int .i64 3) := b5.cell 0
  have k0 : w12.cell? ⟨m, 0, none⟩ = some (.int .i64 0) := b4.cell 0
  have g0 : w12.frozen? ⟨m, 0, none⟩ = false := b4.frozen 0
  have e1 : w12.cell? ⟨m + 1, 1, none⟩ = some (.int .u64 q) := b5.cell 1
  have k1 : w12.cell? ⟨m, 1, none⟩ = some (.int .u64 0) := b4.cell 1
  have g1 : w12.frozen? ⟨m, 1, none⟩ = false := b4.frozen 1
  have e2 : w12.cell? ⟨m + 1, 2, none⟩ = some (.int .i64 0) := b5.cell 2
  have k2 : w12.cell? ⟨m, 2, none⟩ = some (.int .i64 0) := b4.cell 2
  have g2 : w12.frozen? ⟨m, 2, none⟩ = false := b4.frozen 2
  have e3 : w12.cell? ⟨m + 1, 3, none⟩ = some (.int .i64 0) := b5.cell 3
  have k3 : w12.cell? ⟨m, 3, none⟩ = some (.int .i64 0) := b4.cell 3
  have g3 : w12.frozen? ⟨m, 3, none⟩ = false := b4.frozen 3
  have e4 : w12.cell? ⟨m + 1, 4, none⟩ = some (.int .i64 0) := b5.cell 4
  have k4 : w12.cell? ⟨m, 4, none⟩ = some (.int .i64 0) := b4.cell 4
  have g4 : w12.frozen? ⟨m, 4, none⟩ = false := b4.frozen 4
  have e5 : w12.cell? ⟨m + 1, 5, none⟩ = some (.int .i64 0) := b5.cell 5
  have k5 : w12.cell? ⟨m, 5, none⟩ = some (.int .i64 0) := b4.cell 5
  have g5 : w12.frozen? ⟨m, 5, none⟩ = false := b4.frozen 5
  have e6 : w12.cell? ⟨m + 1, 6, none⟩ = some (.int .i64 i) := b5.cell 6
  have k6 : w12.cell? ⟨m, 6, none⟩ = some (.int .i64 0) := b4.cell 6
  have g6 : w12.frozen? ⟨m, 6, none⟩ = false := b4.frozen 6
  have e7 : w12.cell? ⟨m + 1, 7, none⟩ = some (.string nm) := b5.cell 7
  have k7 : w12.cell? ⟨m, 7, none⟩ = some (.string ⟨#[]⟩) := b4.cell 7
  have g7 : w12.frozen? ⟨m, 7, none⟩ = false := b4.frozen 7
  have y0 : Blk (w12.setCell ⟨m, 0, none⟩ (.int .i64 3)) m 46 #[.int .i64 3, .int .u64 0, .int .i64 0, .int .i64 0, .int .i64 0, .int .i64 0, .int .i64 0, .string ⟨#[]⟩] := b4.set_ 0 (.int .i64 3)
  have y1 : Blk ((w12.setCell ⟨m, 0, none⟩ (.int .i64 3)).setCell ⟨m, 1, none⟩ (.int .u64 q)) m 46 #[.int .i64 3, .int .u64 q, .int .i64 0, .int .i64 0, .int .i64 0, .int .i64 0, .int .i64 0, .string ⟨#[]⟩] := y0.set_ 1 (.int .u64 q)
  have y2 : Blk (((w12.setCell ⟨m, 0, none⟩ (.int .i64 3)).setCell ⟨m, 1, none⟩ (.int .u64 q)).setCell ⟨m, 2, none⟩ (.int .i64 0)) m 46 #[.int .i64 3, .int .u64 q, .int .i64 0, .int .i64 0, .int .i64 0, .int .i64 0, .int .i64 0, .string ⟨#[]⟩] := y1.set_ 2 (.int .i64 0)
  have y3 : Blk ((((w12.setCell ⟨m, 0, none⟩ (.int .i64 3)).setCell ⟨m, 1, none⟩ (.int .u64 q)).setCell ⟨m, 2, none⟩ (.int .i64 0)).setCell ⟨m, 3, none⟩ (.int .i64 0)) m 46 #[.int .i64 3, .int .u64 q, .int .i64 0, .int .i64 0, .int .i64 0, .int .i64 0, .int .i64 0, .string ⟨#[]⟩] := y2.set_ 3 (.int .i64 0)
  have y4 : Blk (((((w12.setCell ⟨m, 0, none⟩ (.int .i64 3)).setCell ⟨m, 1, none⟩ (.int .u64 q)).setCell ⟨m, 2, none⟩ (.int .i64 0)).setCell ⟨m, 3, none⟩ (.int .i64 0)).setCell ⟨m, 4, none⟩ (.int .i64 0)) m 46 #[.int .i64 3, .int .u64 q, .int .i64 0, .int .i64 0, .int .i64 0, .int .i64 0, .int .i64 0, .string ⟨#[]⟩] := y3.set_ 4 (.int .i64 0)
  have y5 : Blk ((((((w12.setCell ⟨m, 0, none⟩ (.int .i64 3)).setCell ⟨m, 1, none⟩ (.int .u64 q)).setCell ⟨m, 2, none⟩ (.int .i64 0)).setCell ⟨m, 3, none⟩ (.int .i64 0)).setCell ⟨m, 4, none⟩ (.int .i64 0)).setCell ⟨m, 5, none⟩ (.int .i64 0)) m 46 #[.int .i64 3, .int .u64 q, .int .i64 0, .int .i64 0, .int .i64 0, .int .i64 0, .int .i64 0, .string ⟨#[]⟩] := y4.set_ 5 (.int .i64 0)
  have y6 : Blk (((((((w12.setCell ⟨m, 0, none⟩ (.int .i64 3)).setCell ⟨m, 1, none⟩ (.int .u64 q)).setCell ⟨m, 2, none⟩ (.int .i64 0)).setCell ⟨m, 3, none⟩ (.int .i64 0)).setCell ⟨m, 4, none⟩ (.int .i64 0)).setCell ⟨m, 5, none⟩ (.int .i64 0)).setCell ⟨m, 6, none⟩ (.int .i64 i)) m 46 #[.int .i64 3, .int .u64 q, .int .i64 0, .int .i64 0, .int .i64 0, .int .i64 0, .int .i64 i, .string ⟨#[]⟩] := y5.set_ 6 (.int .i64 i)
  have y7 : Blk ((((((((w12.setCell ⟨m, 0, none⟩ (.int .i64 3)).setCell ⟨m, 1, none⟩ (.int .u64 q)).setCell ⟨m, 2, none⟩ (.int .i64 0)).setCell ⟨m, 3, none⟩ (.int .i64 0)).setCell ⟨m, 4, none⟩ (.int .i64 0)).setCell ⟨m, 5, none⟩ (.int .i64 0)).setCell ⟨m, 6, none⟩ (.int .i64 i)).setCell ⟨m, 7, none⟩ (.string nm)) m 46 #[.int .i64 3, .int .u64 q, .int .i64 0, .int .i64 0, .int .i64 0, .int .i64 0, .int .i64 i, .string nm] := y6.set_ 7 (.string nm)
  have bz := y7
  clear y0 y1 y2 y3 y4 y5 y6 y7
  have hz : Mod None_ w ((((((((w12.setCell ⟨m, 0, none⟩ (.int .i64 3)).setCell ⟨m, 1, none⟩ (.int .u64 q)).setCell ⟨m, 2, none⟩ (.int .i64 0)).setCell ⟨m, 3, none⟩ (.int .i64 0)).setCell ⟨m, 4, none⟩ (.int .i64 0)).setCell ⟨m, 5, none⟩ (.int .i64 0)).setCell ⟨m, 6, none⟩ (.int .i64 i)).setCell ⟨m, 7, none⟩ (.string nm)) := (((((((hM.setCell (p := ⟨m, 0, none⟩) (.inl (by show w.heap.size ≤ m; omega)) _).setCell (p := ⟨m, 1, none⟩) (.inl (by show w.heap.size ≤ m; omega)) _).setCell (p := ⟨m, 2, none⟩) (.inl (by show w.heap.size ≤ m; omega)) _).setCell (p := ⟨m, 3, none⟩) (.inl (by show w.heap.size ≤ m; omega)) _).setCell (p := ⟨m, 4, none⟩) (.inl (by show w.heap.size ≤ m; omega)) _).setCell (p := ⟨m, 5, none⟩) (.inl (by show w.heap.size ≤ m; omega)) _).setCell (p := ⟨m, 6, none⟩) (.inl (by show w.heap.size ≤ m; omega)) _).setCell (p := ⟨m, 7, none⟩) (.inl (by show w.heap.size ≤ m; omega)) _
  have BZ := hide bz
  have HZ := hide hz
  clear bz hz
  go_wp2
  have z0 := BZ.out.cell 0
  have z1 := BZ.out.cell 1
  have z2 := BZ.out.cell 2
  have z3 := BZ.out.cell 3
  have z4 := BZ.out.cell 4
  have z5 := BZ.out.cell 5
  have z6 := BZ.out.cell 6
  have z7 := BZ.out.cell 7
  refine ⟨rfl, .agg #[.int .i64 3, .int .u64 q, .int .i64 0, .int .i64 0, .int .i64 0, .int .i64 0, .int .i64 i, .string nm], ?_, rfl, HZ.out⟩
  simp [results, Try.results22, go_sem, z0, z1, z2, z3, z4, z5, z6, z7]

theorem entry_any (w : World) (s : StepD) (q : Int) (h0 : 0 ≤ q) (h1 : q ≤ 9223372036854775807) : Calls Try.prog 22 #[stepV s, .int .i64 q] w fun e w' => e = .returned (.agg (encEntry (entOf s q)).toArray) ∧ Mod None_ w w' := by
  cases s with
  | write r z => exact entry_write w r z q h0 h1
  | resize z => exact entry_resize w z q h0 h1
  | add n i => exact entry_add w n i q h0 h1
end Go.Proofs.Ytabebkffcmajkaa

