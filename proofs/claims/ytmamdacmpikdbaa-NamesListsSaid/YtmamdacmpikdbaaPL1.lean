import Derived.Test.YtmamdacmpikdbaaP5
import Derived.Test.YtmamdacmpikdbaaA2
import Derived.Test.YtmamdacmpikdbaaSt
/-! The walk of plays: printed by gen_plays.py. -/
namespace Go.Proofs.Ytmamdacmpikdbaa
open Go.RowKit Go.Maps
attribute [local go_sem] quietV loudUpon

theorem RefAt.afterX {w w' : World} {b y : Nat} {R L : List Row} (hR : RefAt w y L) (hI : IndexAt w b R) (hm : Mod (Ix b) w w') : RefAt w' y L := hR.mod hm hI.noRows (hR.notIx hI)
theorem IndexAt.afterY {w w' : World} {b y : Nat} {R L : List Row} (hI : IndexAt w b R) (hR : RefAt w y L) (hm : Mod (· = y) w w') : IndexAt w' b R :=
  hI.mod hm fun k h1 h2 e => hR.notIx hI (by subst e; exact ⟨h1, h2⟩)
/-- the blocks that a step may change -/
def Both (b y : Nat) : Nat → Prop := fun k => Ix b k ∨ k = y
/-- behind a step: the answer is the document's, and the two tell the same -/
def PlaysPost (w : World) (b y : Nat) (n : Nat) : Ending → World → Prop := fun e w' =>
  e = .returned (.bool true) ∧ ∃ R' L', R'.length ≤ n + 1 ∧ Rel R' L' ∧ IndexAt w' b R' ∧ RefAt w' y L' ∧ Mod (Both b y) w w'
theorem get_eq (w : World) (b : Nat) (R : List Row) (d : Int) (s : ByteArray) (z : Int) (hd : (Lit.int .i64 d).wf = true) (h : IndexAt w b R) (hz : findIno R d s = z) :
    Calls Try.prog 17 #[.pointer (some ⟨b + 3, 0, none⟩), .int .i64 d, .string s] w fun e w' => e = .returned (.int .i64 z) ∧ Mod None_ w w' := by rw [← hz]; exact get_any w b R d s hd h
theorem refGet_eq (w : World) (y : Nat) (L : List Row) (d : Int) (s : ByteArray) (z : Int) (h : RefAt w y L) (hz : refIno L d s = z) :
    Calls Try.prog 51 #[.pointer (some ⟨y, 0, none⟩), .int .i64 d, .string s] w fun e w' => e = .returned (.int .i64 z) ∧ w = w' := by rw [← hz]; exact refGet_any w y L d s h
theorem len_eq (w : World) (b : Nat) (R : List Row) (d : Int) (z : Nat) (hd : (Lit.int .i64 d).wf = true) (h : IndexAt w b R) (hz : cntDir R d = z) :
    Calls Try.prog 20 #[.pointer (some ⟨b + 3, 0, none⟩), .int .i64 d] w fun e w' => e = .returned (.int .i64 z) ∧ w = w' := by rw [← hz]; exact len_any w b R d hd h
theorem refLen_eq (w : World) (y : Nat) (L : List Row) (d : Int) (z : Nat) (h : RefAt w y L) (hz : cntDir L d = z) :
    Calls Try.prog 52 #[.pointer (some ⟨y, 0, none⟩), .int .i64 d] w fun e w' => e = .returned (.int .i64 z) ∧ Mod None_ w w' := by rw [← hz]; exact refLen_any w y L d h
theorem links_eq (w : World) (b : Nat) (R : List Row) (d : Int) (z : Nat) (hd : (Lit.int .i64 d).wf = true) (h : IndexAt w b R) (hz : cntIno R d = z) :
    Calls Try.prog 21 #[.pointer (some ⟨b + 3, 0, none⟩), .int .i64 d] w fun e w' => e = .returned (.int .i64 z) ∧ w = w' := by rw [← hz]; exact links_any w b R d hd h
theorem refLinks_eq (w : World) (y : Nat) (L : List Row) (d : Int) (z : Nat) (h : RefAt w y L) (hz : cntIno L d = z) :
    Calls Try.prog 53 #[.pointer (some ⟨y, 0, none⟩), .int .i64 d] w fun e w' => e = .returned (.int .i64 z) ∧ w = w' := by rw [← hz]; exact refLinks_any w y L d h
theorem same_eq (w : World) (lo lo' : Nat) (v v' : Value) (l l' : List (ByteArray × Int)) (h : Dents w lo v l) (h' : Dents w lo' v' l') (e : l = l') :
    Calls Try.prog 23 #[v, v'] w fun e w' => e = .returned (.bool true) ∧ Mod None_ w w' := by have := same_any w lo lo' v v' l l' h h'; rw [decide_eq_true e] at this; exact this
theorem drop_eq (w : World) (b : Nat) (R : List Row) (d : Int) (s : ByteArray) (z z2 : Int) (hlen : R.length < 4611686018427387900) (hd : (Lit.int .i64 d).wf = true) (h : IndexAt w b R) (hz : findIno R d s = z) (hz2 : dropErr R d s = z2) :
    Calls Try.prog 25 #[.pointer (some ⟨b + 3, 0, none⟩), .int .i64 d, .string s] w fun e w' => e = .returned (.tuple #[.int .i64 z, .int .i64 z2]) ∧ Mod (Ix b) w w' ∧ IndexAt w' b (dropRows R d s) := by rw [← hz, ← hz2]; exact drop_any w b R d s hlen hd h
theorem refDrop_eq (w : World) (y : Nat) (L : List Row) (d : Int) (s : ByteArray) (z z2 : Int) (h : RefAt w y L) (hz : refIno L d s = z) (hz2 : refDropErr L d s = z2) :
    Calls Try.prog 50 #[.pointer (some ⟨y, 0, none⟩), .int .i64 d, .string s] w fun e w' => e = .returned (.tuple #[.int .i64 z, .int .i64 z2]) ∧ Mod (· = y) w w' ∧ RefAt w' y (refDrop L d s) := by rw [← hz, ← hz2]; exact refDrop_any w y L d s h
theorem refPut_eq (w : World) (y : Nat) (L : List Row) (d : Int) (s : ByteArray) (i n : Int) (h : RefAt w y L) (hlen : L.length ≤ 2520000000000) (he : refPutErr L d s i = n) :
    Calls Try.prog 49 #[.pointer (some ⟨y, 0, none⟩), .int .i64 d, .string s, .int .i64 i] w fun e w' => e = .returned (.int .i64 n) ∧ Mod (· = y) w w' ∧ RefAt w' y (refPut L d s i) :=
  (refPut_any w y L d s i h hlen).mono fun e w' ⟨h1, h2, h3⟩ => ⟨by rw [h1, he], h2, h3⟩
theorem clear_eq (w : World) (b : Nat) (R : List Row) (d : Int) (n : Nat) (hlen : R.length ≤ 5000000000000) (hd : (Lit.int .i64 d).wf = true) (h : IndexAt w b R) (hn : cntDir R d = n) :
    Calls Try.prog 31 #[.pointer (some ⟨b + 3, 0, none⟩), .int .i64 d] w fun e w' => e = .returned (.int .i64 n) ∧ Mod (Ix b) w w' ∧ IndexAt w' b (clearRows R d) :=
  (clear_any w b R d hlen hd h).mono fun e w' ⟨h1, h2, h3⟩ => ⟨by rw [h1, hn], h3, h2⟩
theorem refClear_eq (w : World) (y : Nat) (L : List Row) (d : Int) (n : Nat) (h : RefAt w y L) (hn : cntDir L d = n) :
    Calls Try.prog 55 #[.pointer (some ⟨y, 0, none⟩), .int .i64 d] w fun e w' => e = .returned (.int .i64 n) ∧ Mod (· = y) w w' ∧ RefAt w' y (clearRows L d) :=
  (refClear_any w y L d h).mono fun e w' ⟨h1, h2, h3⟩ => ⟨by rw [h1, hn], h2, h3⟩
theorem PlaysPost.same {w w' : World} {b y : Nat} {R L : List Row} (hr : Rel R L) (hI : IndexAt w' b R) (hR : RefAt w' y L) (hm : Mod None_ w w') : PlaysPost w b y R.length (.returned (.bool true)) w' :=
  ⟨rfl, R, L, by omega, hr, hI, hR, hm.none⟩

set_option maxRecDepth 100000 in
set_option maxHeartbeats 4000000 in
theorem plays_put (w : World) (b y : Nat) (R L : List Row) (o : OpD) (ho : o.Ok) (hr : Rel R L) (hlen : R.length ≤ 2520000000000) (hI : IndexAt w b R) (hR : RefAt w y L) (hk : o.kind = 1) :
    Calls Try.prog 45 #[.pointer (some ⟨b + 3, 0, none⟩), .pointer (some ⟨y, 0, none⟩), .agg #[.int .i64 o.kind, .int .i64 o.a, .int .i64 o.b, .int .i64 o.dir, .string o.name, .int .i64 o.ino]] w (PlaysPost w b y R.length) := by
  obtain ⟨_, _, _, hod, hoi⟩ := ho
  have hwd : (Lit.int .i64 o.dir).wf = true := wf_i64 hod.1 hod.2
  have hwi : (Lit.int .i64 o.ino).wf = true := wf_i64 hoi.1 hoi.2
  have hlenL : L.length ≤ 2520000000000 := by rw [← hr.len]; exact hlen
  have he := hr.putErr o.dir o.name o.ino
  have hrp := hr.put o.dir o.name o.ino
  have hll := putRows_length R o.dir o.name o.ino
  obtain ⟨z, hz⟩ : ∃ z, z = putErr R o.dir o.name o.ino := ⟨_, rfl⟩
  have HZ := hide hz
  have HRP := hide hrp
  have HE := hide he
  clear hz he hrp
  rw [hk]
  have HR := hide hr
  clear hr hk
  have hbl := hI.lt
  have hyl := hR.lt
  obtain ⟨g, hg⟩ : ∃ g, g = w.heap.size := ⟨_, rfl⟩
  have hgw : w.heap.size ≤ g := by omega
  obtain ⟨w1, hw1⟩ : ∃ w1, w1 = w.alloc (.cells #[.int .i64 1, .int .i64 o.a, .int .i64 o.b, .int .i64 o.dir, .string o.name, .int .i64 o.ino] 41) := ⟨_, rfl⟩
  have hB : Blk w1 g 41 #[.int .i64 1, .int .i64 o.a, .int .i64 o.b, .int .i64 o.dir, .string o.name, .int .i64 o.ino] := by rw [hw1, hg]; exact Blk.new _ _ _
  have hM : Mod None_ w w1 := by rw [hw1]; exact (Mod.refl _ w).alloc _
  replace hI := hI.kept hM
  replace hR := hR.kept hM
  have c0 : w1.cell? ⟨g, 0, none⟩ = some (.int .i64 1) := hB.cell 0
  have c3 : w1.cell? ⟨g, 3, none⟩ = some (.int .i64 o.dir) := hB.cell 3
  have c4 : w1.cell? ⟨g, 4, none⟩ = some (.string o.name) := hB.cell 4
  have c5 : w1.cell? ⟨g, 5, none⟩ = some (.int .i64 o.ino) := hB.cell 5
  have HB := hide hB
  have HW := hide hw1
  have HG := hide hg
  clear hB hw1 hg
  go_enter Try.func45, Try.ntmps45
  go_wp2_with ((with_reducible refine at_slot 5 ?_); refine wpList_val rfl (v := .pointer (some ⟨g, 0, none⟩)) (w' := w1) (ex_box rfl (by rw [HG.out, HW.out]; rfl)) ?_; go_frame)
  refine region_mxw [(true, 0), (true, 1), (true, 2), (true, 3), (true, 4), (true, 5), (true, 6), (true, 8), (true, 9), (true, 10), (true, 11), (true, 12), (true, 13), (true, 14), (false, 7), (false, 15), (true, 16), (true, 17)] (fun w' => w'.cell? ⟨g, 3, none⟩ = some (.int .i64 o.dir) ∧ w'.cell? ⟨g, 4, none⟩ = some (.string o.name) ∧ w'.cell? ⟨g, 5, none⟩ = some (.int .i64 o.ino)) (by kernel_rfl) (by kernel_rfl) ?_
  rintro w2 hw2
  replace hI : IndexAt w2 b R := by rw [hw2]; exact hI.drew
  replace hR : RefAt w2 y L := by rw [hw2]; exact hR.kept ((Mod.refl _ w1).drew)
  replace hM : Mod None_ w w2 := by rw [hw2]; exact hM.drew
  replace c3 : w2.cell? ⟨g, 3, none⟩ = some (.int .i64 o.dir) := by rw [hw2]; exact c3
  replace c4 : w2.cell? ⟨g, 4, none⟩ = some (.string o.name) := by rw [hw2]; exact c4
  replace c5 : w2.cell? ⟨g, 5, none⟩ = some (.int .i64 o.ino) := by rw [hw2]; exact c5
  clear hw2 c0 HB HW
  refine ⟨⟨c3, c4, c5⟩, ?_⟩
  replace hM : Mod (Both b y) w w2 := hM.none
  iterate 14 (refine mxw_quiet rfl (fun w' ⟨i3, i4, i5⟩ K hK => by go_simp; exact hK) ?_; go_frame)
  refine mxw_loud rfl (fun K hK => ?_)
  go_simp
  refine (put_eq w2 b R _ o.dir o.name o.ino z (by omega) hI HZ.out.symm rfl).mono ?_
  rintro e w3 ⟨rfl, hm, hI2⟩
  replace hR := hR.afterX hI hm
  replace hM : Mod (Both b y) w w3 := hM.trans' hm (fun k _ e => .inl e)
  clear hI
  have hI := hI2
  clear hI2
  replace c3 : w3.cell? ⟨g, 3, none⟩ = some (.int .i64 o.dir) := (World.cell?_of_block (hm.block g (block_lt_of_cell c3) (fun e => by unfold Ix at e; omega))).trans c3
  replace c4 : w3.cell? ⟨g, 4, none⟩ = some (.string o.name) := (World.cell?_of_block (hm.block g (block_lt_of_cell c4) (fun e => by unfold Ix at e; omega))).trans c4
  replace c5 : w3.cell? ⟨g, 5, none⟩ = some (.int .i64 o.ino) := (World.cell?_of_block (hm.block g (block_lt_of_cell c5) (fun e => by unfold Ix at e; omega))).trans c5
  refine ⟨_, rfl, ⟨c3, c4, c5⟩, hK _ _ ?_⟩
  clear hK K hm
  try go_frame
  refine mxw_loud rfl (fun K hK => ?_)
  go_simp
  refine (refPut_eq w3 y L o.dir o.name o.ino z hR hlenL (HE.out.symm.trans HZ.out.symm)).mono ?_
  rintro e w4 ⟨rfl, hm, hR2⟩
  replace hI := hI.afterY hR hm
  replace hM : Mod (Both b y) w w4 := hM.trans' hm (fun k _ e => .inr e)
  clear hR
  have hR := hR2
  clear hR2
  replace c3 : w4.cell? ⟨g, 3, none⟩ = some (.int .i64 o.dir) := (World.cell?_of_block (hm.block g (block_lt_of_cell c3) (by omega))).trans c3
  replace c4 : w4.cell? ⟨g, 4, none⟩ = some (.string o.name) := (World.cell?_of_block (hm.block g (block_lt_of_cell c4) (by omega))).trans c4
  replace c5 : w4.cell? ⟨g, 5, none⟩ = some (.int .i64 o.ino) := (World.cell?_of_block (hm.block g (block_lt_of_cell c5) (by omega))).trans c5
  refine ⟨_, rfl, ⟨c3, c4, c5⟩, hK _ _ ?_⟩
  clear hK K hm
  try go_frame
  iterate 2 (refine mxw_quiet rfl (fun w' ⟨i3, i4, i5⟩ K hK => by go_simp; exact hK) ?_; go_frame)
  refine mxw_nil ?_
  have HF : Hid (PlaysPost w b y R.length (.returned (.bool true)) w4) := hide ⟨rfl, _, _, hll, HRP.out, hI, hR, hM⟩
  clear hI hR hM c3 c4 c5
  go_wp2
  go_ret
  exact HF.out

set_option maxRecDepth 100000 in
set_option maxHeartbeats 4000000 in
theorem plays_clear (w : World) (b y : Nat) (R L : List Row) (o : OpD) (ho : o.Ok) (hr : Rel R L) (hlen : R.length ≤ 2520000000000) (hI : IndexAt w b R) (hR : RefAt w y L) (hk : o.kind = 8) :
    Calls Try.prog 45 #[.pointer (some ⟨b + 3, 0, none⟩), .pointer (some ⟨y, 0, none⟩), .agg #[.int .i64 o.kind, .int .i64 o.a, .int .i64 o.b, .int .i64 o.dir, .string o.name, .int .i64 o.ino]] w (PlaysPost w b y R.length) := by
  obtain ⟨_, _, _, hod, hoi⟩ := ho
  have hwd : (Lit.int .i64 o.dir).wf = true := wf_i64 hod.1 hod.2
  have hwi : (Lit.int .i64 o.ino).wf = true := wf_i64 hoi.1 hoi.2
  have hlenL : L.length ≤ 2520000000000 := by rw [← hr.len]; exact hlen
  have hrp := hr.clear o.dir
  have hll := clear_length R o.dir
  have he : cntDir L o.dir = cntDir R o.dir := (cntDir_perm hr.perm o.dir).symm
  have HRP := hide hrp
  have HE := hide he
  clear he hrp
  rw [hk]
  have HR := hide hr
  clear hr hk
  have hbl := hI.lt
  have hyl := hR.lt
  obtain ⟨g, hg⟩ : ∃ g, g = w.heap.size := ⟨_, rfl⟩
  have hgw : w.heap.size ≤ g := by omega
  obtain ⟨w1, hw1⟩ : ∃ w1, w1 = w.alloc (.cells #[.int .i64 8, .int .i64 o.a, .int .i64 o.b, .int .i64 o.dir, .string o.name, .int .i64 o.ino] 41) := ⟨_, rfl⟩
  have hB : Blk w1 g 41 #[.int .i64 8, .int .i64 o.a, .int .i64 o.b, .int .i64 o.dir, .string o.name, .int .i64 o.ino] := by rw [hw1, hg]; exact Blk.new _ _ _
  have hM : Mod None_ w w1 := by rw [hw1]; exact (Mod.refl _ w).alloc _
  replace hI := hI.kept hM
  replace hR := hR.kept hM
  have c0 : w1.cell? ⟨g, 0, none⟩ = some (.int .i64 8) := hB.cell 0
  have c3 : w1.cell? ⟨g, 3, none⟩ = some (.int .i64 o.dir) := hB.cell 3
  have c4 : w1.cell? ⟨g, 4, none⟩ = some (.string o.name) := hB.cell 4
  have c5 : w1.cell? ⟨g, 5, none⟩ = some (.int .i64 o.ino) := hB.cell 5
  have HB := hide hB
  have HW := hide hw1
  have HG := hide hg
  clear hB hw1 hg
  go_enter Try.func45, Try.ntmps45
  go_wp2_with ((with_reducible refine at_slot 5 ?_); refine wpList_val rfl (v := .pointer (some ⟨g, 0, none⟩)) (w' := w1) (ex_box rfl (by rw [HG.out, HW.out]; rfl)) ?_; go_frame)
  refine region_mxw [(true, 0), (true, 1), (true, 2), (true, 4), (true, 5), (true, 6), (false, 3), (false, 7), (true, 8), (true, 9)] (fun w' => w'.cell? ⟨g, 3, none⟩ = some (.int .i64 o.dir) ∧ w'.cell? ⟨g, 4, none⟩ = some (.string o.name) ∧ w'.cell? ⟨g, 5, none⟩ = some (.int .i64 o.ino)) (by kernel_rfl) (by kernel_rfl) ?_
  rintro w2 hw2
  replace hI : IndexAt w2 b R := by rw [hw2]; exact hI.drew
  replace hR : RefAt w2 y L := by rw [hw2]; exact hR.kept ((Mod.refl _ w1).drew)
  replace hM : Mod None_ w w2 := by rw [hw2]; exact hM.drew
  replace c3 : w2.cell? ⟨g, 3, none⟩ = some (.int .i64 o.dir) := by rw [hw2]; exact c3
  replace c4 : w2.cell? ⟨g, 4, none⟩ = some (.string o.name) := by rw [hw2]; exact c4
  replace c5 : w2.cell? ⟨g, 5, none⟩ = some (.int .i64 o.ino) := by rw [hw2]; exact c5
  clear hw2 c0 HB HW
  refine ⟨⟨c3, c4, c5⟩, ?_⟩
  replace hM : Mod (Both b y) w w2 := hM.none
  iterate 6 (refine mxw_quiet rfl (fun w' ⟨i3, i4, i5⟩ K hK => by go_simp; exact hK) ?_; go_frame)
  refine mxw_loud rfl (fun K hK => ?_)
  go_simp
  refine (clear_eq w2 b R o.dir (cntDir R o.dir) (by omega) hwd hI rfl).mono ?_
  rintro e w3 ⟨rfl, hm, hI2⟩
  replace hR := hR.afterX hI hm
  replace hM : Mod (Both b y) w w3 := hM.trans' hm (fun k _ e => .inl e)
  clear hI
  have hI := hI2
  clear hI2
  replace c3 : w3.cell? ⟨g, 3, none⟩ = some (.int .i64 o.dir) := (World.cell?_of_block (hm.block g (block_lt_of_cell c3) (fun e => by unfold Ix at e; omega))).trans c3
  replace c4 : w3.cell? ⟨g, 4, none⟩ = some (.string o.name) := (World.cell?_of_block (hm.block g (block_lt_of_cell c4) (fun e => by unfold Ix at e; omega))).trans c4
  replace c5 : w3.cell? ⟨g, 5, none⟩ = some (.int .i64 o.ino) := (World.cell?_of_block (hm.block g (block_lt_of_cell c5) (fun e => by unfold Ix at e; omega))).trans c5
  refine ⟨_, rfl, ⟨c3, c4, c5⟩, hK _ _ ?_⟩
  clear hK K hm
  try go_frame
  refine mxw_loud rfl (fun K hK => ?_)
  go_simp
  refine (refClear_eq w3 y L o.dir (cntDir R o.dir) hR HE.out).mono ?_
  rintro e w4 ⟨rfl, hm, hR2⟩
  replace hI := hI.afterY hR hm
  replace hM : Mod (Both b y) w w4 := hM.trans' hm (fun k _ e => .inr e)
  clear hR
  have hR := hR2
  clear hR2
  replace c3 : w4.cell? ⟨g, 3, none⟩ = some (.int .i64 o.dir) := (World.cell?_of_block (hm.block g (block_lt_of_cell c3) (by omega))).trans c3
  replace c4 : w4.cell? ⟨g, 4, none⟩ = some (.string o.name) := (World.cell?_of_block (hm.block g (block_lt_of_cell c4) (by omega))).trans c4
  replace c5 : w4.cell? ⟨g, 5, none⟩ = some (.int .i64 o.ino) := (World.cell?_of_block (hm.block g (block_lt_of_cell c5) (by omega))).trans c5
  refine ⟨_, rfl, ⟨c3, c4, c5⟩, hK _ _ ?_⟩
  clear hK K hm
  try go_frame
  iterate 2 (refine mxw_quiet rfl (fun w' ⟨i3, i4, i5⟩ K hK => by go_simp; exact hK) ?_; go_frame)
  refine mxw_nil ?_
  have HF : Hid (PlaysPost w b y R.length (.returned (.bool true)) w4) := hide ⟨rfl, _, _, by omega, HRP.out, hI, hR, hM⟩
  clear hI hR hM c3 c4 c5
  go_wp2
  go_ret
  exact HF.out

set_option maxRecDepth 100000 in
set_option maxHeartbeats 4000000 in
theorem plays_get (w : World) (b y : Nat) (R L : List Row) (o : OpD) (ho : o.Ok) (hr : Rel R L) (hlen : R.length ≤ 2520000000000) (hI : IndexAt w b R) (hR : RefAt w y L) (hk : o.kind = 3) :
    Calls Try.prog 45 #[.pointer (some ⟨b + 3, 0, none⟩), .pointer (some ⟨y, 0, none⟩), .agg #[.int .i64 o.kind, .int .i64 o.a, .int .i64 o.b, .int .i64 o.dir, .string o.name, .int .i64 o.ino]] w (PlaysPost w b y R.length) := by
  obtain ⟨_, _, _, hod, hoi⟩ := ho
  have hwd : (Lit.int .i64 o.dir).wf = true := wf_i64 hod.1 hod.2
  have hwi : (Lit.int .i64 o.ino).wf = true := wf_i64 hoi.1 hoi.2
  have hlenL : L.length ≤ 2520000000000 := by rw [← hr.len]; exact hlen
  have HE := hide (hr.find o.dir o.name)
  obtain ⟨z, hz⟩ : ∃ z, z = findIno R o.dir o.name := ⟨_, rfl⟩
  have HZ := hide hz
  clear hz
  rw [hk]
  have HR := hide hr
  clear hr hk
  have hbl := hI.lt
  have hyl := hR.lt
  obtain ⟨g, hg⟩ : ∃ g, g = w.heap.size := ⟨_, rfl⟩
  have hgw : w.heap.size ≤ g := by omega
  obtain ⟨w1, hw1⟩ : ∃ w1, w1 = w.alloc (.cells #[.int .i64 3, .int .i64 o.a, .int .i64 o.b, .int .i64 o.dir, .string o.name, .int .i64 o.ino] 41) := ⟨_, rfl⟩
  have hB : Blk w1 g 41 #[.int .i64 3, .int .i64 o.a, .int .i64 o.b, .int .i64 o.dir, .string o.name, .int .i64 o.ino] := by rw [hw1, hg]; exact Blk.new _ _ _
  have hM : Mod None_ w w1 := by rw [hw1]; exact (Mod.refl _ w).alloc _
  replace hI := hI.kept hM
  replace hR := hR.kept hM
  have c0 : w1.cell? ⟨g, 0, none⟩ = some (.int .i64 3) := hB.cell 0
  have c3 : w1.cell? ⟨g, 3, none⟩ = some (.int .i64 o.dir) := hB.cell 3
  have c4 : w1.cell? ⟨g, 4, none⟩ = some (.string o.name) := hB.cell 4
  have c5 : w1.cell? ⟨g, 5, none⟩ = some (.int .i64 o.ino) := hB.cell 5
  have HB := hide hB
  have HW := hide hw1
  have HG := hide hg
  clear hB hw1 hg
  go_enter Try.func45, Try.ntmps45
  go_wp2_with ((with_reducible refine at_slot 5 ?_); refine wpList_val rfl (v := .pointer (some ⟨g, 0, none⟩)) (w' := w1) (ex_box rfl (by rw [HG.out, HW.out]; rfl)) ?_; go_frame)
  refine region_mxw [(true, 0), (true, 1), (true, 2), (true, 3), (true, 4), (true, 6), (true, 7), (true, 8), (true, 9), (true, 10), (false, 5), (false, 11), (true, 12), (true, 13)] (fun w' => w'.cell? ⟨g, 3, none⟩ = some (.int .i64 o.dir) ∧ w'.cell? ⟨g, 4, none⟩ = some (.string o.name) ∧ w'.cell? ⟨g, 5, none⟩ = some (.int .i64 o.ino)) (by kernel_rfl) (by kernel_rfl) ?_
  rintro w2 hw2
  replace hI : IndexAt w2 b R := by rw [hw2]; exact hI.drew
  replace hR : RefAt w2 y L := by rw [hw2]; exact hR.kept ((Mod.refl _ w1).drew)
  replace hM : Mod None_ w w2 := by rw [hw2]; exact hM.drew
  replace c3 : w2.cell? ⟨g, 3, none⟩ = some (.int .i64 o.dir) := by rw [hw2]; exact c3
  replace c4 : w2.cell? ⟨g, 4, none⟩ = some (.string o.name) := by rw [hw2]; exact c4
  replace c5 : w2.cell? ⟨g, 5, none⟩ = some (.int .i64 o.ino) := by rw [hw2]; exact c5
  clear hw2 c0 HB HW
  refine ⟨⟨c3, c4, c5⟩, ?_⟩
  replace hM : Mod (Both b y) w w2 := hM.none
  iterate 10 (refine mxw_quiet rfl (fun w' ⟨i3, i4, i5⟩ K hK => by go_simp; exact hK) ?_; go_frame)
  refine mxw_loud rfl (fun K hK => ?_)
  go_simp
  refine (get_eq w2 b R o.dir o.name z hwd hI HZ.out.symm).mono ?_
  rintro e w3 ⟨rfl, hm⟩
  replace hI := hI.kept hm
  replace hR := hR.kept hm
  replace hM : Mod (Both b y) w w3 := hM.trans hm.none
  replace c3 : w3.cell? ⟨g, 3, none⟩ = some (.int .i64 o.dir) := (World.cell?_of_block (hm.block g (block_lt_of_cell c3) id)).trans c3
  replace c4 : w3.cell? ⟨g, 4, none⟩ = some (.string o.name) := (World.cell?_of_block (hm.block g (block_lt_of_cell c4) id)).trans c4
  replace c5 : w3.cell? ⟨g, 5, none⟩ = some (.int .i64 o.ino) := (World.cell?_of_block (hm.block g (block_lt_of_cell c5) id)).trans c5
  refine ⟨_, rfl, ⟨c3, c4, c5⟩, hK _ _ ?_⟩
  clear hK K hm
  try go_frame
  refine mxw_loud rfl (fun K hK => ?_)
  go_simp
  refine (refGet_eq w3 y L o.dir o.name z hR (HE.out.symm.trans HZ.out.symm)).mono ?_
  rintro e _ ⟨rfl, rfl⟩
  refine ⟨_, rfl, ⟨c3, c4, c5⟩, hK _ _ ?_⟩
  clear hK K
  try go_frame
  iterate 2 (refine mxw_quiet rfl (fun w' ⟨i3, i4, i5⟩ K hK => by go_simp; exact hK) ?_; go_frame)
  refine mxw_nil ?_
  have HF : Hid (PlaysPost w b y R.length (.returned (.bool true)) w3) := hide ⟨rfl, _, _, by omega, HR.out, hI, hR, hM⟩
  clear hI hR hM c3 c4 c5
  go_wp2
  go_ret
  exact HF.out

set_option maxRecDepth 100000 in
set_option maxHeartbeats 4000000 in
theorem plays_len (w : World) (b y : Nat) (R L : List Row) (o : OpD) (ho : o.Ok) (hr : Rel R L) (hlen : R.length ≤ 2520000000000) (hI : IndexAt w b R) (hR : RefAt w y L) (hk : o.kind = 4) :
    Calls Try.prog 45 #[.pointer (some ⟨b + 3, 0, none⟩), .pointer (some ⟨y, 0, none⟩), .agg #[.int .i64 o.kind, .int .i64 o.a, .int .i64 o.b, .int .i64 o.dir, .string o.name, .int .i64 o.ino]] w (PlaysPost w b y R.length) := by
  obtain ⟨_, _, _, hod, hoi⟩ := ho
  have hwd : (Lit.int .i64 o.dir).wf = true := wf_i64 hod.1 hod.2
  have hwi : (Lit.int .i64 o.ino).wf = true := wf_i64 hoi.1 hoi.2
  have hlenL : L.length ≤ 2520000000000 := by rw [← hr.len]; exact hlen
  have HE := hide (cntDir_perm hr.perm o.dir)
  obtain ⟨z, hz⟩ : ∃ z, z = cntDir R o.dir := ⟨_, rfl⟩
  have HZ := hide hz
  clear hz
  rw [hk]
  have HR := hide hr
  clear hr hk
  have hbl := hI.lt
  have hyl := hR.lt
  obtain ⟨g, hg⟩ : ∃ g, g = w.heap.size := ⟨_, rfl⟩
  have hgw : w.heap.size ≤ g := by omega
  obtain ⟨w1, hw1⟩ : ∃ w1, w1 = w.alloc (.cells #[.int .i64 4, .int .i64 o.a, .int .i64 o.b, .int .i64 o.dir, .string o.name, .int .i64 o.ino] 41) := ⟨_, rfl⟩
  have hB : Blk w1 g 41 #[.int .i64 4, .int .i64 o.a, .int .i64 o.b, .int .i64 o.dir, .string o.name, .int .i64 o.ino] := by rw [hw1, hg]; exact Blk.new _ _ _
  have hM : Mod None_ w w1 := by rw [hw1]; exact (Mod.refl _ w).alloc _
  replace hI := hI.kept hM
  replace hR := hR.kept hM
  have c0 : w1.cell? ⟨g, 0, none⟩ = some (.int .i64 4) := hB.cell 0
  have c3 : w1.cell? ⟨g, 3, none⟩ = some (.int .i64 o.dir) := hB.cell 3
  have c4 : w1.cell? ⟨g, 4, none⟩ = some (.string o.name) := hB.cell 4
  have c5 : w1.cell? ⟨g, 5, none⟩ = some (.int .i64 o.ino) := hB.cell 5
  have HB := hide hB
  have HW := hide hw1
  have HG := hide hg
  clear hB hw1 hg
  go_enter Try.func45, Try.ntmps45
  go_wp2_with ((with_reducible refine at_slot 5 ?_); refine wpList_val rfl (v := .pointer (some ⟨g, 0, none⟩)) (w' := w1) (ex_box rfl (by rw [HG.out, HW.out]; rfl)) ?_; go_frame)
  refine region_mxw [(true, 0), (true, 1), (true, 2), (true, 4), (true, 5), (true, 6), (false, 3), (false, 7), (true, 8), (true, 9)] (fun w' => w'.cell? ⟨g, 3, none⟩ = some (.int .i64 o.dir) ∧ w'.cell? ⟨g, 4, none⟩ = some (.string o.name) ∧ w'.cell? ⟨g, 5, none⟩ = some (.int .i64 o.ino)) (by kernel_rfl) (by kernel_rfl) ?_
  rintro w2 hw2
  replace hI : IndexAt w2 b R := by rw [hw2]; exact hI.drew
  replace hR : RefAt w2 y L := by rw [hw2]; exact hR.kept ((Mod.refl _ w1).drew)
  replace hM : Mod None_ w w2 := by rw [hw2]; exact hM.drew
  replace c3 : w2.cell? ⟨g, 3, none⟩ = some (.int .i64 o.dir) := by rw [hw2]; exact c3
  replace c4 : w2.cell? ⟨g, 4, none⟩ = some (.string o.name) := by rw [hw2]; exact c4
  replace c5 : w2.cell? ⟨g, 5, none⟩ = some (.int .i64 o.ino) := by rw [hw2]; exact c5
  clear hw2 c0 HB HW
  refine ⟨⟨c3, c4, c5⟩, ?_⟩
  replace hM : Mod (Both b y) w w2 := hM.none
  iterate 6 (refine mxw_quiet rfl (fun w' ⟨i3, i4, i5⟩ K hK => by go_simp; exact hK) ?_; go_frame)
  refine mxw_loud rfl (fun K hK => ?_)
  go_simp
  refine (len_eq w2 b R o.dir z hwd hI HZ.out.symm).mono ?_
  rintro e _ ⟨rfl, rfl⟩
  refine ⟨_, rfl, ⟨c3, c4, c5⟩, hK _ _ ?_⟩
  clear hK K
  try go_frame
  refine mxw_loud rfl (fun K hK => ?_)
  go_simp
  refine (refLen_eq w2 y L o.dir z hR (HE.out.symm.trans HZ.out.symm)).mono ?_
  rintro e w3 ⟨rfl, hm⟩
  replace hI := hI.kept hm
  replace hR := hR.kept hm
  replace hM : Mod (Both b y) w w3 := hM.trans hm.none
  replace c3 : w3.cell? ⟨g, 3, none⟩ = some (.int .i64 o.dir) := (World.cell?_of_block (hm.block g (block_lt_of_cell c3) id)).trans c3
  replace c4 : w3.cell? ⟨g, 4, none⟩ = some (.string o.name) := (World.cell?_of_block (hm.block g (block_lt_of_cell c4) id)).trans c4
  replace c5 : w3.cell? ⟨g, 5, none⟩ = some (.int .i64 o.ino) := (World.cell?_of_block (hm.block g (block_lt_of_cell c5) id)).trans c5
  refine ⟨_, rfl, ⟨c3, c4, c5⟩, hK _ _ ?_⟩
  clear hK K hm
  try go_frame
  iterate 2 (refine mxw_quiet rfl (fun w' ⟨i3, i4, i5⟩ K hK => by go_simp; exact hK) ?_; go_frame)
  refine mxw_nil ?_
  have HF : Hid (PlaysPost w b y R.length (.returned (.bool true)) w3) := hide ⟨rfl, _, _, by omega, HR.out, hI, hR, hM⟩
  clear hI hR hM c3 c4 c5
  go_wp2
  go_ret
  exact HF.out

set_option maxRecDepth 100000 in
set_option maxHeartbeats 4000000 in
theorem plays_links (w : World) (b y : Nat) (R L : List Row) (o : OpD) (ho : o.Ok) (hr : Rel R L) (hlen : R.length ≤ 2520000000000) (hI : IndexAt w b R) (hR : RefAt w y L) (hk : o.kind = 5) :
    Calls Try.prog 45 #[.pointer (some ⟨b + 3, 0, none⟩), .pointer (some ⟨y, 0, none⟩), .agg #[.int .i64 o.kind, .int .i64 o.a, .int .i64 o.b, .int .i64 o.dir, .string o.name, .int .i64 o.ino]] w (PlaysPost w b y R.length) := by
  obtain ⟨_, _, _, hod, hoi⟩ := ho
  have hwd : (Lit.int .i64 o.dir).wf = true := wf_i64 hod.1 hod.2
  have hwi : (Lit.int .i64 o.ino).wf = true := wf_i64 hoi.1 hoi.2
  have hlenL : L.length ≤ 2520000000000 := by rw [← hr.len]; exact hlen
  have HE := hide (cntIno_perm hr.perm o.ino)
  obtain ⟨z, hz⟩ : ∃ z, z = cntIno R o.ino := ⟨_, rfl⟩
  have HZ := hide hz
  clear hz
  rw [hk]
  have HR := hide hr
  clear hr hk
  have hbl := hI.lt
  have hyl := hR.lt
  obtain ⟨g, hg⟩ : ∃ g, g = w.heap.size := ⟨_, rfl⟩
  have hgw : w.heap.size ≤ g := by omega
  obtain ⟨w1, hw1⟩ : ∃ w1, w1 = w.alloc (.cells #[.int .i64 5, .int .i64 o.a, .int .i64 o.b, .int .i64 o.dir, .string o.name, .int .i64 o.ino] 41) := ⟨_, rfl⟩
  have hB : Blk w1 g 41 #[.int .i64 5, .int .i64 o.a, .int .i64 o.b, .int .i64 o.dir, .string o.name, .int .i64 o.ino] := by rw [hw1, hg]; exact Blk.new _ _ _
  have hM : Mod None_ w w1 := by rw [hw1]; exact (Mod.refl _ w).alloc _
  replace hI := hI.kept hM
  replace hR := hR.kept hM
  have c0 : w1.cell? ⟨g, 0, none⟩ = some (.int .i64 5) := hB.cell 0
  have c3 : w1.cell? ⟨g, 3, none⟩ = some (.int .i64 o.dir) := hB.cell 3
  have c4 : w1.cell? ⟨g, 4, none⟩ = some (.string o.name) := hB.cell 4
  have c5 : w1.cell? ⟨g, 5, none⟩ = some (.int .i64 o.ino) := hB.cell 5
  have HB := hide hB
  have HW := hide hw1
  have HG := hide hg
  clear hB hw1 hg
  go_enter Try.func45, Try.ntmps45
  go_wp2_with ((with_reducible refine at_slot 5 ?_); refine wpList_val rfl (v := .pointer (some ⟨g, 0, none⟩)) (w' := w1) (ex_box rfl (by rw [HG.out, HW.out]; rfl)) ?_; go_frame)
  refine region_mxw [(true, 0), (true, 1), (true, 2), (true, 4), (true, 5), (true, 6), (false, 3), (false, 7), (true, 8), (true, 9)] (fun w' => w'.cell? ⟨g, 3, none⟩ = some (.int .i64 o.dir) ∧ w'.cell? ⟨g, 4, none⟩ = some (.string o.name) ∧ w'.cell? ⟨g, 5, none⟩ = some (.int .i64 o.ino)) (by kernel_rfl) (by kernel_rfl) ?_
  rintro w2 hw2
  replace hI : IndexAt w2 b R := by rw [hw2]; exact hI.drew
  replace hR : RefAt w2 y L := by rw [hw2]; exact hR.kept ((Mod.refl _ w1).drew)
  replace hM : Mod None_ w w2 := by rw [hw2]; exact hM.drew
  replace c3 : w2.cell? ⟨g, 3, none⟩ = some (.int .i64 o.dir) := by rw [hw2]; exact c3
  replace c4 : w2.cell? ⟨g, 4, none⟩ = some (.string o.name) := by rw [hw2]; exact c4
  replace c5 : w2.cell? ⟨g, 5, none⟩ = some (.int .i64 o.ino) := by rw [hw2]; exact c5
  clear hw2 c0 HB HW
  refine ⟨⟨c3, c4, c5⟩, ?_⟩
  replace hM : Mod (Both b y) w w2 := hM.none
  iterate 6 (refine mxw_quiet rfl (fun w' ⟨i3, i4, i5⟩ K hK => by go_simp; exact hK) ?_; go_frame)
  refine mxw_loud rfl (fun K hK => ?_)
  go_simp
  refine (links_eq w2 b R o.ino z hwi hI HZ.out.symm).mono ?_
  rintro e _ ⟨rfl, rfl⟩
  refine ⟨_, rfl, ⟨c3, c4, c5⟩, hK _ _ ?_⟩
  clear hK K
  try go_frame
  refine mxw_loud rfl (fun K hK => ?_)
  go_simp
  refine (refLinks_eq w2 y L o.ino z hR (HE.out.symm.trans HZ.out.symm)).mono ?_
  rintro e _ ⟨rfl, rfl⟩
  refine ⟨_, rfl, ⟨c3, c4, c5⟩, hK _ _ ?_⟩
  clear hK K
  try go_frame
  iterate 2 (refine mxw_quiet rfl (fun w' ⟨i3, i4, i5⟩ K hK => by go_simp; exact hK) ?_; go_frame)
  refine mxw_nil ?_
  have HF : Hid (PlaysPost w b y R.length (.returned (.bool true)) w2) := hide ⟨rfl, _, _, by omega, HR.out, hI, hR, hM⟩
  clear hI hR hM c3 c4 c5
  go_wp2
  go_ret
  exact HF.out

set_option maxRecDepth 100000 in
set_option maxHeartbeats 4000000 in
theorem plays_list (w : World) (b y : Nat) (R L : List Row) (o : OpD) (ho : o.Ok) (hr : Rel R L) (hlen : R.length ≤ 2520000000000) (hI : IndexAt w b R) (hR : RefAt w y L) (hk : o.kind = 6) :
    Calls Try.prog 45 #[.pointer (some ⟨b + 3, 0, none⟩), .pointer (some ⟨y, 0, none⟩), .agg #[.int .i64 o.kind, .int .i64 o.a, .int .i64 o.b, .int .i64 o.dir, .string o.name, .int .i64 o.ino]] w (PlaysPost w b y R.length) := by
  obtain ⟨_, _, _, hod, hoi⟩ := ho
  have hwd : (Lit.int .i64 o.dir).wf = true := wf_i64 hod.1 hod.2
  have hwi : (Lit.int .i64 o.ino).wf = true := wf_i64 hoi.1 hoi.2
  have hlenL : L.length ≤ 2520000000000 := by rw [← hr.len]; exact hlen
  have HE := hide (hr.list o.dir)
  rw [hk]
  have HR := hide hr
  clear hr hk
  have hbl := hI.lt
  have hyl := hR.lt
  obtain ⟨g, hg⟩ : ∃ g, g = w.heap.size := ⟨_, rfl⟩
  have hgw : w.heap.size ≤ g := by omega
  obtain ⟨w1, hw1⟩ : ∃ w1, w1 = w.alloc (.cells #[.int .i64 6, .int .i64 o.a, .int .i64 o.b, .int .i64 o.dir, .string o.name, .int .i64 o.ino] 41) := ⟨_, rfl⟩
  have hB : Blk w1 g 41 #[.int .i64 6, .int .i64 o.a, .int .i64 o.b, .int .i64 o.dir, .string o.name, .int .i64 o.ino] := by rw [hw1, hg]; exact Blk.new _ _ _
  have hM : Mod None_ w w1 := by rw [hw1]; exact (Mod.refl _ w).alloc _
  replace hI := hI.kept hM
  replace hR := hR.kept hM
  have c0 : w1.cell? ⟨g, 0, none⟩ = some (.int .i64 6) := hB.cell 0
  have c3 : w1.cell? ⟨g, 3, none⟩ = some (.int .i64 o.dir) := hB.cell 3
  have c4 : w1.cell? ⟨g, 4, none⟩ = some (.string o.name) := hB.cell 4
  have c5 : w1.cell? ⟨g, 5, none⟩ = some (.int .i64 o.ino) := hB.cell 5
  have HB := hide hB
  have HW := hide hw1
  have HG := hide hg
  clear hB hw1 hg
  go_enter Try.func45, Try.ntmps45
  go_wp2_with ((with_reducible refine at_slot 5 ?_); refine wpList_val rfl (v := .pointer (some ⟨g, 0, none⟩)) (w' := w1) (ex_box rfl (by rw [HG.out, HW.out]; rfl)) ?_; go_frame)
  refine region_mxw [(true, 0), (true, 1), (true, 2), (true, 4), (true, 5), (true, 6), (false, 3), (false, 7), (false, 8), (true, 9)] (fun w' => w'.cell? ⟨g, 3, none⟩ = some (.int .i64 o.dir) ∧ w'.cell? ⟨g, 4, none⟩ = some (.string o.name) ∧ w'.cell? ⟨g, 5, none⟩ = some (.int .i64 o.ino)) (by kernel_rfl) (by kernel_rfl) ?_
  rintro w2 hw2
  replace hI : IndexAt w2 b R := by rw [hw2]; exact hI.drew
  replace hR : RefAt w2 y L := by rw [hw2]; exact hR.kept ((Mod.refl _ w1).drew)
  replace hM : Mod None_ w w2 := by rw [hw2]; exact hM.drew
  replace c3 : w2.cell? ⟨g, 3, none⟩ = some (.int .i64 o.dir) := by rw [hw2]; exact c3
  replace c4 : w2.cell? ⟨g, 4, none⟩ = some (.string o.name) := by rw [hw2]; exact c4
  replace c5 : w2.cell? ⟨g, 5, none⟩ = some (.int .i64 o.ino) := by rw [hw2]; exact c5
  clear hw2 c0 HB HW
  refine ⟨⟨c3, c4, c5⟩, ?_⟩
  replace hM : Mod (Both b y) w w2 := hM.none
  iterate 6 (refine mxw_quiet rfl (fun w' ⟨i3, i4, i5⟩ K hK => by go_simp; exact hK) ?_; go_frame)
  refine mxw_loud rfl (fun K hK => ?_)
  go_simp
  refine (list_dents w2 b R o.dir (by omega) hwd hI).mono ?_
  rintro e w3 ⟨v1, rfl, hD1, hm⟩
  replace hI := hI.kept hm
  replace hR := hR.kept hm
  replace hM : Mod (Both b y) w w3 := hM.trans hm.none
  replace c3 : w3.cell? ⟨g, 3, none⟩ = some (.int .i64 o.dir) := (World.cell?_of_block (hm.block g (block_lt_of_cell c3) id)).trans c3
  replace c4 : w3.cell? ⟨g, 4, none⟩ = some (.string o.name) := (World.cell?_of_block (hm.block g (block_lt_of_cell c4) id)).trans c4
  replace c5 : w3.cell? ⟨g, 5, none⟩ = some (.int .i64 o.ino) := (World.cell?_of_block (hm.block g (block_lt_of_cell c5) id)).trans c5
  refine ⟨_, rfl, ⟨c3, c4, c5⟩, hK _ _ ?_⟩
  clear hK K hm
  try go_frame
  refine mxw_loud rfl (fun K hK => ?_)
  go_simp
  refine (refList_any w3 y L o.dir hR).mono ?_
  rintro e w4 ⟨v2, rfl, hD2, hm⟩
  replace hI := hI.kept hm
  replace hR := hR.kept hm
  replace hM : Mod (Both b y) w w4 := hM.trans hm.none
  replace hD1 := hD1.mod hm (fun _ _ f => f)
  replace c3 : w4.cell? ⟨g, 3, none⟩ = some (.int .i64 o.dir) := (World.cell?_of_block (hm.block g (block_lt_of_cell c3) id)).trans c3
  replace c4 : w4.cell? ⟨g, 4, none⟩ = some (.string o.name) := (World.cell?_of_block (hm.block g (block_lt_of_cell c4) id)).trans c4
  replace c5 : w4.cell? ⟨g, 5, none⟩ = some (.int .i64 o.ino) := (World.cell?_of_block (hm.block g (block_lt_of_cell c5) id)).trans c5
  refine ⟨_, rfl, ⟨c3, c4, c5⟩, hK _ _ ?_⟩
  clear hK K hm
  try go_frame
  refine mxw_loud rfl (fun K hK => ?_)
  go_simp
  refine (same_eq w4 _ _ v1 v2 _ _ hD1 hD2 HE.out).mono ?_
  rintro e w5 ⟨rfl, hm⟩
  replace hI := hI.kept hm
  replace hR := hR.kept hm
  replace hM : Mod (Both b y) w w5 := hM.trans hm.none
  clear hD1 hD2
  replace c3 : w5.cell? ⟨g, 3, none⟩ = some (.int .i64 o.dir) := (World.cell?_of_block (hm.block g (block_lt_of_cell c3) id)).trans c3
  replace c4 : w5.cell? ⟨g, 4, none⟩ = some (.string o.name) := (World.cell?_of_block (hm.block g (block_lt_of_cell c4) id)).trans c4
  replace c5 : w5.cell? ⟨g, 5, none⟩ = some (.int .i64 o.ino) := (World.cell?_of_block (hm.block g (block_lt_of_cell c5) id)).trans c5
  refine ⟨_, rfl, ⟨c3, c4, c5⟩, hK _ _ ?_⟩
  clear hK K hm
  try go_frame
  iterate 1 (refine mxw_quiet rfl (fun w' ⟨i3, i4, i5⟩ K hK => by go_simp; exact hK) ?_; go_frame)
  refine mxw_nil ?_
  have HF : Hid (PlaysPost w b y R.length (.returned (.bool true)) w5) := hide ⟨rfl, _, _, by omega, HR.out, hI, hR, hM⟩
  clear hI hR hM c3 c4 c5
  go_wp2
  go_ret
  exact HF.out

set_option maxRecDepth 100000 in
set_option maxHeartbeats 4000000 in
theorem plays_drop (w : World) (b y : Nat) (R L : List Row) (o : OpD) (ho : o.Ok) (hr : Rel R L) (hlen : R.length ≤ 2520000000000) (hI : IndexAt w b R) (hR : RefAt w y L) (hk : o.kind = 2) :
    Calls Try.prog 45 #[.pointer (some ⟨b + 3, 0, none⟩), .pointer (some ⟨y, 0, none⟩), .agg #[.int .i64 o.kind, .int .i64 o.a, .int .i64 o.b, .int .i64 o.dir, .string o.name, .int .i64 o.ino]] w (PlaysPost w b y R.length) := by
  obtain ⟨_, _, _, hod, hoi⟩ := ho
  have hwd : (Lit.int .i64 o.dir).wf = true := wf_i64 hod.1 hod.2
  have hwi : (Lit.int .i64 o.ino).wf = true := wf_i64 hoi.1 hoi.2
  have hlenL : L.length ≤ 2520000000000 := by rw [← hr.len]; exact hlen
  have he := hr.dropErr o.dir o.name
  have hf := hr.find o.dir o.name
  have HRP := hide (hr.drop o.dir o.name)
  have hll : (dropRows R o.dir o.name).length ≤ R.length := List.length_filter_le _ _
  obtain ⟨z, hz⟩ : ∃ z, z = findIno R o.dir o.name := ⟨_, rfl⟩
  obtain ⟨z2, hz2⟩ : ∃ z, z = dropErr R o.dir o.name := ⟨_, rfl⟩
  have HZ := hide hz
  have HZ2 := hide hz2
  have HE := hide he
  have HF := hide hf
  clear hz hz2 he hf
  rw [hk]
  have HR := hide hr
  clear hr hk
  have hbl := hI.lt
  have hyl := hR.lt
  obtain ⟨g, hg⟩ : ∃ g, g = w.heap.size := ⟨_, rfl⟩
  have hgw : w.heap.size ≤ g := by omega
  obtain ⟨w1, hw1⟩ : ∃ w1, w1 = w.alloc (.cells #[.int .i64 2, .int .i64 o.a, .int .i64 o.b, .int .i64 o.dir, .string o.name, .int .i64 o.ino] 41) := ⟨_, rfl⟩
  have hB : Blk w1 g 41 #[.int .i64 2, .int .i64 o.a, .int .i64 o.b, .int .i64 o.dir, .string o.name, .int .i64 o.ino] := by rw [hw1, hg]; exact Blk.new _ _ _
  have hM : Mod None_ w w1 := by rw [hw1]; exact (Mod.refl _ w).alloc _
  replace hI := hI.kept hM
  replace hR := hR.kept hM
  have c0 : w1.cell? ⟨g, 0, none⟩ = some (.int .i64 2) := hB.cell 0
  have c3 : w1.cell? ⟨g, 3, none⟩ = some (.int .i64 o.dir) := hB.cell 3
  have c4 : w1.cell? ⟨g, 4, none⟩ = some (.string o.name) := hB.cell 4
  have c5 : w1.cell? ⟨g, 5, none⟩ = some (.int .i64 o.ino) := hB.cell 5
  have HB := hide hB
  have HW := hide hw1
  have HG := hide hg
  clear hB hw1 hg
  go_enter Try.func45, Try.ntmps45
  go_wp2_with ((with_reducible refine at_slot 5 ?_); refine wpList_val rfl (v := .pointer (some ⟨g, 0, none⟩)) (w' := w1) (ex_box rfl (by rw [HG.out, HW.out]; rfl)) ?_; go_frame)
  refine (drop_eq w1 b R o.dir o.name z z2 (by omega) hwd hI HZ.out.symm HZ2.out.symm).mono ?_
  rintro e w3 ⟨rfl, hm3, hI3⟩
  have hR3 := hR.afterX hI hm3
  have hM3 : Mod (Both b y) w w3 := hM.none.trans' hm3 (fun k _ e => .inl e)
  replace c3 : w3.cell? ⟨g, 3, none⟩ = some (.int .i64 o.dir) := (World.cell?_of_block (hm3.block g (block_lt_of_cell c3) (fun e => by unfold Ix at e; omega))).trans c3
  replace c4 : w3.cell? ⟨g, 4, none⟩ = some (.string o.name) := (World.cell?_of_block (hm3.block g (block_lt_of_cell c4) (fun e => by unfold Ix at e; omega))).trans c4
  clear hI hR hM hm3 HB HW c0 c5
  go_wp2_with fail
  refine (refDrop_eq w3 y L o.dir o.name z z2 hR3 (HF.out.symm.trans HZ.out.symm) (HE.out.symm.trans HZ2.out.symm)).mono ?_
  rintro e w4 ⟨rfl, hm4, hR4⟩
  have hI4 := hI3.afterY hR3 hm4
  have hM4 : Mod (Both b y) w w4 := hM3.trans' hm4 (fun k _ e => .inr e)
  have HFI : Hid (PlaysPost w b y R.length (.returned (.bool true)) w4) := hide ⟨rfl, _, _, by omega, HRP.out, hI4, hR4, hM4⟩
  clear hI3 hR3 hM3 hm4 hI4 hR4 hM4 c3 c4
  go_wp2
  go_ret
  exact HFI.out

set_option maxRecDepth 100000 in
set_option maxHeartbeats 4000000 in
theorem plays_all (w : World) (b y : Nat) (R L : List Row) (o : OpD) (ho : o.Ok) (hr : Rel R L) (hlen : R.length ≤ 2520000000000) (hI : IndexAt w b R) (hR : RefAt w y L) (hk : o.kind = 7) :
    Calls Try.prog 45 #[.pointer (some ⟨b + 3, 0, none⟩), .pointer (some ⟨y, 0, none⟩), .agg #[.int .i64 o.kind, .int .i64 o.a, .int .i64 o.b, .int .i64 o.dir, .string o.name, .int .i64 o.ino]] w (PlaysPost w b y R.length) := by
  obtain ⟨_, _, _, hod, hoi⟩ := ho
  have hwd : (Lit.int .i64 o.dir).wf = true := wf_i64 hod.1 hod.2
  have hwi : (Lit.int .i64 o.ino).wf = true := wf_i64 hoi.1 hoi.2
  have hlenL : L.length ≤ 2520000000000 := by rw [← hr.len]; exact hlen
  have HE := hide (hr.list o.dir)
  have hpl : (pairsIn L o.dir).length ≤ 5000000000000 := by
    rw [pairsIn_length]
    have := cntDir_le L o.dir
    omega
  rw [hk]
  have HR := hide hr
  clear hr hk
  have hbl := hI.lt
  have hyl := hR.lt
  obtain ⟨g, hg⟩ : ∃ g, g = w.heap.size := ⟨_, rfl⟩
  have hgw : w.heap.size ≤ g := by omega
  obtain ⟨w1, hw1⟩ : ∃ w1, w1 = w.alloc (.cells #[.int .i64 7, .int .i64 o.a, .int .i64 o.b, .int .i64 o.dir, .string o.name, .int .i64 o.ino] 41) := ⟨_, rfl⟩
  have hB : Blk w1 g 41 #[.int .i64 7, .int .i64 o.a, .int .i64 o.b, .int .i64 o.dir, .string o.name, .int .i64 o.ino] := by rw [hw1, hg]; exact Blk.new _ _ _
  have hM : Mod None_ w w1 := by rw [hw1]; exact (Mod.refl _ w).alloc _
  replace hI := hI.kept hM
  replace hR := hR.kept hM
  have c0 : w1.cell? ⟨g, 0, none⟩ = some (.int .i64 7) := hB.cell 0
  have c3 : w1.cell? ⟨g, 3, none⟩ = some (.int .i64 o.dir) := hB.cell 3
  have c4 : w1.cell? ⟨g, 4, none⟩ = some (.string o.name) := hB.cell 4
  have c5 : w1.cell? ⟨g, 5, none⟩ = some (.int .i64 o.ino) := hB.cell 5
  have HB := hide hB
  have HW := hide hw1
  have HG := hide hg
  clear hB hw1 hg
  go_enter Try.func45, Try.ntmps45
  go_wp2_with ((with_reducible refine at_slot 5 ?_); refine wpList_val rfl (v := .pointer (some ⟨g, 0, none⟩)) (w' := w1) (ex_box rfl (by rw [HG.out, HW.out]; rfl)) ?_; go_frame)
  refine (refList_any w1 y L o.dir hR).mono ?_
  rintro e w3 ⟨v3, rfl, hD3, hm3⟩
  have hI3 := hI.kept hm3
  have hR3 := hR.kept hm3
  have hM3 := hM.trans hm3
  have hB3 := HB.out.mod hm3 id
  rw [← HE.out] at hD3
  obtain ⟨A, c, rfl, _, _, _⟩ := id hD3
  have HD3 := hide hD3
  replace c3 : w3.cell? ⟨g, 3, none⟩ = some (.int .i64 o.dir) := hB3.cell 3
  have HB3 := hide hB3
  clear hI hR hM hm3 HW c0 c4 c5 HB hD3 hB3
  go_wp2_with fail
  refine (all_any w3 b R o.dir (by omega) hwd hI3).mono ?_
  rintro e w4 ⟨v4, rfl, hD4, hm4⟩
  have hI4 := hI3.kept hm4
  have hR4 := hR3.kept hm4
  have hM4 := hM3.trans hm4
  have HB4 := hide (HB3.out.mod hm4 id)
  have HD4 := hide (HD3.out.mod hm4 (fun _ _ f => f))
  replace c3 : w4.cell? ⟨g, 3, none⟩ = some (.int .i64 o.dir) := HB4.out.cell 3
  clear hI3 hR3 hM3 hm4 HB3 HD3
  go_wp2_with fail
  refine (all_any w4 b R o.dir (by omega) hwd hI4).mono ?_
  rintro e w5 ⟨v5, rfl, hD5, hm5⟩
  have hI5 := hI4.kept hm5
  have hR5 := hR4.kept hm5
  have hM5 := hM4.trans hm5
  have HD5 := hide (HD4.out.mod hm5 (fun _ _ f => f))
  replace hD4 := hD4.mod hm5 (fun _ _ f => f)
  clear hI4 hR4 hM4 hm5 HB4 HD4 c3
  go_wp2_with fail
  refine (same_eq w5 _ _ v4 _ _ _ hD4 HD5.out rfl).mono ?_
  rintro e w6 ⟨rfl, hm6⟩
  have hI6 := hI5.kept hm6
  have hR6 := hR5.kept hm6
  have hM6 := hM5.trans hm6
  have HD6 := hide (HD5.out.mod hm6 (fun _ _ f => f))
  replace hD5 := hD5.mod hm6 (fun _ _ f => f)
  clear hI5 hR5 hM5 hm6 HD5 hD4
  go_wp2_with fail
  refine (same_eq w6 _ _ v5 _ _ _ hD5 HD6.out rfl).mono ?_
  rintro e w7 ⟨rfl, hm7⟩
  have HF := hide (PlaysPost.same HR.out (hI6.kept hm7) (hR6.kept hm7) (hM6.trans hm7))
  clear hI6 hR6 hM6 hm7 HD6 hD5
  go_wp2
  go_ret
  exact HF.out

set_option maxRecDepth 100000 in
set_option maxHeartbeats 4000000 in
theorem plays_none (w : World) (b y : Nat) (R L : List Row) (o : OpD) (ho : o.Ok) (hr : Rel R L) (hlen : R.length ≤ 2520000000000) (hI : IndexAt w b R) (hR : RefAt w y L) (h1 : o.kind ≠ 1) (h2 : o.kind ≠ 2) (h3 : o.kind ≠ 3) (h4 : o.kind ≠ 4) (h5 : o.kind ≠ 5) (h6 : o.kind ≠ 6) (h7 : o.kind ≠ 7) (h8 : o.kind ≠ 8) :
    Calls Try.prog 45 #[.pointer (some ⟨b + 3, 0, none⟩), .pointer (some ⟨y, 0, none⟩), .agg #[.int .i64 o.kind, .int .i64 o.a, .int .i64 o.b, .int .i64 o.dir, .string o.name, .int .i64 o.ino]] w (PlaysPost w b y R.length) := by
  obtain ⟨_, _, _, hod, hoi⟩ := ho
  have hwd : (Lit.int .i64 o.dir).wf = true := wf_i64 hod.1 hod.2
  have hwi : (Lit.int .i64 o.ino).wf = true := wf_i64 hoi.1 hoi.2
  have hlenL : L.length ≤ 2520000000000 := by rw [← hr.len]; exact hlen

  have e1 : ((o.kind : Int) == 1) = false := by rw [beq_eq_false_iff_ne]; exact h1
  have e2 : ((o.kind : Int) == 2) = false := by rw [beq_eq_false_iff_ne]; exact h2
  have e3 : ((o.kind : Int) == 3) = false := by rw [beq_eq_false_iff_ne]; exact h3
  have e4 : ((o.kind : Int) == 4) = false := by rw [beq_eq_false_iff_ne]; exact h4
  have e5 : ((o.kind : Int) == 5) = false := by rw [beq_eq_false_iff_ne]; exact h5
  have e6 : ((o.kind : Int) == 6) = false := by rw [beq_eq_false_iff_ne]; exact h6
  have e7 : ((o.kind : Int) == 7) = false := by rw [beq_eq_false_iff_ne]; exact h7
  have e8 : ((o.kind : Int) == 8) = false := by rw [beq_eq_false_iff_ne]; exact h8
  clear h1 h2 h3 h4 h5 h6 h7 h8
  have HR := hide hr
  clear hr
  have hbl := hI.lt
  have hyl := hR.lt
  obtain ⟨g, hg⟩ : ∃ g, g = w.heap.size := ⟨_, rfl⟩
  have hgw : w.heap.size ≤ g := by omega
  obtain ⟨w1, hw1⟩ : ∃ w1, w1 = w.alloc (.cells #[.int .i64 o.kind, .int .i64 o.a, .int .i64 o.b, .int .i64 o.dir, .string o.name, .int .i64 o.ino] 41) := ⟨_, rfl⟩
  have hB : Blk w1 g 41 #[.int .i64 o.kind, .int .i64 o.a, .int .i64 o.b, .int .i64 o.dir, .string o.name, .int .i64 o.ino] := by rw [hw1, hg]; exact Blk.new _ _ _
  have hM : Mod None_ w w1 := by rw [hw1]; exact (Mod.refl _ w).alloc _
  replace hI := hI.kept hM
  replace hR := hR.kept hM
  have c0 : w1.cell? ⟨g, 0, none⟩ = some (.int .i64 o.kind) := hB.cell 0
  have c3 : w1.cell? ⟨g, 3, none⟩ = some (.int .i64 o.dir) := hB.cell 3
  have c4 : w1.cell? ⟨g, 4, none⟩ = some (.string o.name) := hB.cell 4
  have c5 : w1.cell? ⟨g, 5, none⟩ = some (.int .i64 o.ino) := hB.cell 5
  have HB := hide hB
  have HW := hide hw1
  have HG := hide hg
  clear hB hw1 hg
  go_enter Try.func45, Try.ntmps45
  go_wp2_with ((with_reducible refine at_slot 5 ?_); refine wpList_val rfl (v := .pointer (some ⟨g, 0, none⟩)) (w' := w1) (ex_box rfl (by rw [HG.out, HW.out]; rfl)) ?_; go_frame)
  have HF := hide (PlaysPost.same HR.out hI hR hM)
  clear hI hR hM HB HW
  go_wp2
  go_ret
  exact HF.out

theorem plays_any (w : World) (b y : Nat) (R L : List Row) (o : OpD) (ho : o.Ok) (hr : Rel R L) (hlen : R.length ≤ 2520000000000) (hI : IndexAt w b R) (hR : RefAt w y L) :
    Calls Try.prog 45 #[.pointer (some ⟨b + 3, 0, none⟩), .pointer (some ⟨y, 0, none⟩), .agg #[.int .i64 o.kind, .int .i64 o.a, .int .i64 o.b, .int .i64 o.dir, .string o.name, .int .i64 o.ino]] w (PlaysPost w b y R.length) := by
  by_cases h1 : o.kind = 1
  · exact plays_put w b y R L o ho hr hlen hI hR h1
  by_cases h2 : o.kind = 2
  · exact plays_drop w b y R L o ho hr hlen hI hR h2
  by_cases h3 : o.kind = 3
  · exact plays_get w b y R L o ho hr hlen hI hR h3
  by_cases h4 : o.kind = 4
  · exact plays_len w b y R L o ho hr hlen hI hR h4
  by_cases h5 : o.kind = 5
  · exact plays_links w b y R L o ho hr hlen hI hR h5
  by_cases h6 : o.kind = 6
  · exact plays_list w b y R L o ho hr hlen hI hR h6
  by_cases h7 : o.kind = 7
  · exact plays_all w b y R L o ho hr hlen hI hR h7
  by_cases h8 : o.kind = 8
  · exact plays_clear w b y R L o ho hr hlen hI hR h8
  exact plays_none w b y R L o ho hr hlen hI hR h1 h2 h3 h4 h5 h6 h7 h8
end Go.Proofs.Ytmamdacmpikdbaa
