import Derived.Test.YtmamdacmpikdbaaD2
/-! The steps that a law is handed; filled. -/
namespace Go.Proofs.Ytmamdacmpikdbaa
open Go.RowKit Go.Maps

structure OpD where
  kind : Int
  a : Int
  b : Int
  dir : Int
  name : ByteArray
  ino : Int
def I64 (n : Int) : Prop := -9223372036854775808 ≤ n ∧ n ≤ 9223372036854775807
def OpD.Ok (o : OpD) : Prop := I64 o.kind ∧ I64 o.a ∧ I64 o.b ∧ I64 o.dir ∧ I64 o.ino
/-- a slice of steps -/
def OpsAt (w : World) (v : Value) (ops : List OpD) : Prop :=
  ∃ A c, v = .slice A ops.length c ∧ ops.length ≤ 2513169434843 ∧ (∀ x ∈ ops, x.Ok) ∧ (0 < ops.length → ∃ g o, A = some ⟨g, o, none⟩ ∧ g < w.heap.size ∧ ∀ i (h : i < ops.length),
    w.cell? ⟨g, o + i * 6, none⟩ = some (.int .i64 ops[i].kind) ∧ w.cell? ⟨g, o + i * 6 + 1, none⟩ = some (.int .i64 ops[i].a) ∧ w.cell? ⟨g, o + i * 6 + 2, none⟩ = some (.int .i64 ops[i].b) ∧
    w.cell? ⟨g, o + i * 6 + 3, none⟩ = some (.int .i64 ops[i].dir) ∧ w.cell? ⟨g, o + i * 6 + 4, none⟩ = some (.string ops[i].name) ∧ w.cell? ⟨g, o + i * 6 + 5, none⟩ = some (.int .i64 ops[i].ino))
theorem OpsAt.mod {w w' : World} {v : Value} {ops : List OpD} (h : OpsAt w v ops) (hm : Mod None_ w w') : OpsAt w' v ops := by
  obtain ⟨A, c, h1, h2, h3, h4⟩ := h
  refine ⟨A, c, h1, h2, h3, fun h0 => ?_⟩
  obtain ⟨g, o, e, hg, hc⟩ := h4 h0
  refine ⟨g, o, e, Nat.lt_of_lt_of_le hg hm.size, fun i hi => ?_⟩
  obtain ⟨c0, c1, c2, c3, c4, c5⟩ := hc i hi
  have hb := hm.block g hg id
  exact ⟨(World.cell?_of_block hb).trans c0, (World.cell?_of_block hb).trans c1, (World.cell?_of_block hb).trans c2, (World.cell?_of_block hb).trans c3, (World.cell?_of_block hb).trans c4, (World.cell?_of_block hb).trans c5⟩

def putOp (rows : List Row) (o : OpD) : List Row := putRows rows (inoOf o.dir) o.name (inoOf o.ino)
def fillRows (ops : List OpD) : List Row := ops.foldl putOp []
theorem putRows_length (rows : List Row) (d : Int) (s : ByteArray) (i : Int) : (putRows rows d s i).length ≤ rows.length + 1 := by
  unfold putRows; split <;> simp
theorem fold_length (ops : List OpD) : ∀ rows : List Row, (ops.foldl putOp rows).length ≤ rows.length + ops.length := by
  induction ops with
  | nil => intro rows; simp
  | cons o l ih =>
    intro rows
    have h1 := ih (putOp rows o)
    have h2 := putRows_length rows (inoOf o.dir) o.name (inoOf o.ino)
    simp only [List.foldl_cons, List.length_cons]
    unfold putOp at h1 ⊢
    omega
theorem fillRows_length (ops : List OpD) : (fillRows ops).length ≤ ops.length := by
  have := fold_length ops []
  simpa [fillRows] using this

theorem ino_left (n : Int) (w : World) (h : I64 n) : Calls Try.prog 16 #[.int .i64 n] w fun e w' => e = .returned (.int .i64 (inoOf n)) ∧ w' = w :=
  (ino_any n w h.1 h.2).mono fun _ _ ⟨h1, h2⟩ => ⟨h1, h2.symm⟩

set_option maxRecDepth 100000 in
set_option maxHeartbeats 2000000 in
theorem filled_any (w : World) (v : Value) (ops : List OpD) (h : OpsAt w v ops) :
    Calls Try.prog 15 #[v] w fun e w' => e = .returned (.pointer (some ⟨w.heap.size + 3, 0, none⟩)) ∧ IndexAt w' w.heap.size (fillRows ops) ∧ Mod None_ w w' := by
  obtain ⟨A, c, rfl, hlen, hok, hA⟩ := h
  have HO := hide hok
  have HA := hide hA
  clear hok hA
  go_enter Try.func15, Try.ntmps15
  go_wp2_with fail
  refine (new_any w).mono ?_
  rintro e w1 ⟨rfl, hI1, hM1, hs1⟩
  obtain ⟨b, hb⟩ : ∃ b, b = w.heap.size := ⟨_, rfl⟩
  have hge : w.heap.size ≤ b := by omega
  have HB := hide hb
  rw [← hb] at hI1 ⊢
  clear hs1 hb
  go_wp2
  go_loopg [4] ops.length (fun n i wr => ∃ k : Nat, k + n = ops.length ∧ i = .int .i64 k ∧ IndexAt wr b ((ops.take k).foldl putOp []) ∧ Mod None_ w wr)
  case atStart => exact ⟨0, by omega, rfl, by simpa using hI1, hM1⟩
  case round =>
    clear hI1 hM1
    obtain ⟨k, hk, rfl, hI, hM⟩ := hrel
    by_cases hlt : k < ops.length
    · obtain ⟨g, o, rfl, hg, hc⟩ := HA.out (by omega)
      obtain ⟨_, _, _, c3, c4, c5⟩ := hc k hlt
      have hokk := HO.out ops[k] (List.getElem_mem hlt)
      obtain ⟨x, hx⟩ : ∃ x, x = ops[k] := ⟨_, rfl⟩
      rw [← hx] at c3 c4 c5 hokk
      have hM3 : Mod None_ w wr.drew := hM.drew
      have hI3 := hI.drew
      replace c3 := (World.cell?_of_block (hM3.block g hg id)).trans c3
      replace c4 := (World.cell?_of_block (hM3.block g hg id)).trans c4
      replace c5 := (World.cell?_of_block (hM3.block g hg id)).trans c5
      have hkl : (k : Int) < ops.length := by omega
      have hfl : ((ops.take k).foldl putOp []).length < 4611686018427387900 := by
        have := fold_length (ops.take k) []
        rw [List.length_take] at this
        simp only [List.length_nil] at this
        omega
      have hst : (ops.take (k + 1)).foldl putOp [] = putOp ((ops.take k).foldl putOp []) x := by
        rw [List.take_succ_eq_append_getElem hlt, List.foldl_append, hx]; rfl
      have HS := hide hst
      obtain ⟨rows, hr⟩ : ∃ rows, rows = (ops.take k).foldl putOp [] := ⟨_, rfl⟩
      rw [← hr] at hfl hI3
      have HR := hide hr
      clear hc hI hM hx hst hr
      obtain ⟨_, _, _, hxd, hxi⟩ := hokk
      go_wp2
      refine region_tail 18 (by kernel_rfl) (by kernel_rfl) ?_
      rintro w3 hw3
      rw [← hw3] at hM3 hI3 c3 c4 c5
      clear hw3
      simp only [List.take_succ_cons, List.take_zero, List.drop_succ_cons, List.drop_zero]
      repeat still_step
      still_call (ino_left _ _ hxd)
      repeat still_step
      still_call (ino_left _ _ hxi)
      refine wpStill_nil ?_
      go_wp2_with fail
      refine (put_any w3 b rows (inoOf x.dir) x.name (inoOf x.ino) hfl hI3).mono ?_
      rintro e w4 ⟨rfl, hm4, hI4⟩
      have hM4 := ix_new hM3 hm4 hge
      clear hM3 hI3 hm4 c3 c4 c5
      go_wp2
      go_roundg (gk - 1)
      case measure => omega
      case rel =>
        refine ⟨k + 1, by omega, by go_num, ?_, hM4⟩
        rw [HS.out, ← HR.out]
        exact hI4
    · have hkl : ¬ (k : Int) < ops.length := by omega
      have ht : ops.take k = ops := List.take_of_length_le (by omega)
      rw [ht] at hI
      have HI := hide hI
      clear hI ht
      go_wp2
      go_ret
      exact ⟨by rw [HB.out]; rfl, by rw [← HB.out]; exact HI.out, hM⟩
end Go.Proofs.Ytmamdacmpikdbaa
