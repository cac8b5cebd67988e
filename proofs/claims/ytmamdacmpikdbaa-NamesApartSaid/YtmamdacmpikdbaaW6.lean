import Derived.Test.YtmamdacmpikdbaaW5
/-! Walks: out. -/
namespace Go.Proofs.Ytmamdacmpikdbaa
open Go.RowKit Go.Maps

theorem perm_cnt_dir {rows rows' : List Row} {r : Row} (hp : rows.Perm (r :: rows')) (d : Int) : cntDir rows' d = upd (cntDir rows) r.dir (cntDir rows r.dir - 1) d := by
  have h : ∀ d, cntDir rows d = cntDir (r :: rows') d := fun d => (hp.filter _).length_eq
  unfold upd
  split
  · rename_i e; subst e
    rw [h]; simp [cntDir]
  · rename_i e
    rw [h]; simp [cntDir, Ne.symm e]
theorem perm_cnt_ino {rows rows' : List Row} {r : Row} (hp : rows.Perm (r :: rows')) (d : Int) : cntIno rows' d = upd (cntIno rows) r.ino (cntIno rows r.ino - 1) d := by
  have h : ∀ d, cntIno rows d = cntIno (r :: rows') d := fun d => (hp.filter _).length_eq
  unfold upd
  split
  · rename_i e; subst e
    rw [h]; simp [cntIno]
  · rename_i e
    rw [h]; simp [cntIno, Ne.symm e]
theorem cntDir_pos {rows : List Row} {r : Row} (h : r ∈ rows) : cntDir rows r.dir ≠ 0 := by
  unfold cntDir
  intro h0
  have := List.eq_nil_of_length_eq_zero h0
  have hm : r ∈ rows.filter (fun x => decide (x.dir = r.dir)) := List.mem_filter.2 ⟨h, by simp⟩
  rw [this] at hm; cases hm
theorem cntIno_pos {rows : List Row} {r : Row} (h : r ∈ rows) : cntIno rows r.ino ≠ 0 := by
  unfold cntIno
  intro h0
  have := List.eq_nil_of_length_eq_zero h0
  have hm : r ∈ rows.filter (fun x => decide (x.ino = r.ino)) := List.mem_filter.2 ⟨h, by simp⟩
  rw [this] at hm; cases hm

/-- the index's counts -/
def Ct (b : Nat) : Nat → Prop := fun k => k = b + 1 ∨ k = b + 2

set_option maxRecDepth 100000 in
set_option maxHeartbeats 1000000 in
theorem out_any (w : World) (b : Nat) (rows rows' : List Row) (r : Row) (hp : rows.Perm (r :: rows')) (hlen : rows.length < 4611686018427387904) (h : IndexAt w b rows) :
    Calls Try.prog 41 #[.pointer (some ⟨b + 3, 0, none⟩), keyV r.dir r.name] w fun e w' => e = .returned (.tuple #[]) ∧ Mod (Ix b) w w' ∧ IndexAt w' b rows' ∧
      ∀ ri left, Ranging Try.prog 55 w ri b (rows.map Row.kv) left → r.kv ∉ left → (ri < b ∨ b + 4 ≤ ri) → Ranging Try.prog 55 w' ri b (rows'.map Row.kv) left := by
  have hr : r ∈ rows := hp.mem_iff.2 (by simp)
  have hok := h.ok r hr
  have hk := keyA_size r.dir r.name hok.size
  have HK := hide hk
  have hwd := hok.wf
  have hwi : (Lit.int .i64 r.ino).wf = true := wf_i64 (by have := hok.2.1; omega) (by have := hok.2.1; omega)
  have hk0 : (keyA r.dir r.name)[0]? = some (.int .i64 r.dir) := by simp [keyA, keyCells]
  have hbox : (Instr.box 55 (keyV r.dir r.name)).run Try.prog w = .ok (.pointer (some ⟨w.heap.size, 0, none⟩)) (w.alloc (.cells (keyA r.dir r.name) 55)) := rfl
  have HR := hide hr
  have HP := hide hp
  have hbl := h.lt
  have HI := hide h
  have HO := hide hok
  have hn0 := cntDir_pos hr
  have hn1 := Nat.lt_of_le_of_lt (cntDir_le rows r.dir) hlen
  have hi0 := cntIno_pos hr
  have hi1 := Nat.lt_of_le_of_lt (cntIno_le rows r.ino) hlen
  clear hk h hr hp hok
  go_enter Try.func41, Try.ntmps41
  go_wp2_with (first
    | ((with_reducible refine at_slot 3 ?_); refine wpList_val rfl (ex_box rfl hbox) ?_; go_frame))
  clear hbox
  -- the first region
  have hI2 : IndexAt (w.alloc (.cells (keyA r.dir r.name) 55)).drew b rows := (HI.out.alloc _).drew
  have hB2 : Blk (w.alloc (.cells (keyA r.dir r.name) 55)).drew w.heap.size 55 (keyA r.dir r.name) := (Blk.new w 55 _).drew
  have hM2 : Mod None_ w (w.alloc (.cells (keyA r.dir r.name) 55)).drew := ((Mod.refl _ w).alloc _).drew
  refine region_tail 6 (by kernel_rfl) (by kernel_rfl) ?_
  rintro w2 hw2
  rw [← hw2] at hI2 hB2 hM2
  clear hw2
  simp only [List.take_succ_cons, List.take_zero, List.drop_succ_cons, List.drop_zero]
  obtain ⟨c0, c1, c2⟩ := hI2.cells
  have ck := (hB2.cell 0).trans hk0
  repeat still_step
  refine wpStill_nil ?_
  go_wp2_with (go_at_call 40; refine (count_down w2 (b + 1) (cntDir rows) r.dir hwd hI2.names hn0 hn1).mono ?_; rintro e w3 ⟨rfl, hm3, hs3, hcn⟩)
  have hblk3 := hI2.blk.mod hm3 (by omega)
  have hB3 := hB2.mod hm3 (by omega)
  have hino3 := hI2.inos.mod hm3 (by omega)
  have hlnk3 := hI2.links.mod hm3 (by omega)
  have hM3 : Mod (Ct b) w w3 := hM2.none.trans' hm3 (fun k _ e => by unfold Ct; omega)
  have HS3 := hide hs3
  clear hI2 hB2 hM2 hs3 c0 c1 c2 ck hm3
  refine region_tail 10 (by kernel_rfl) (by kernel_rfl) ?_
  rintro w4 hw4
  have hblk4 := hblk3.drew
  have hB4 := hB3.drew
  have hino4 := hino3.drew
  have hlnk4 : Counts w3.drew (b + 2) (cntIno rows) := hlnk3.of_block rfl
  have hnam4 : Counts w3.drew (b + 1) _ := hcn.of_block rfl
  have hM4 := hM3.drew
  rw [← hw4] at hblk4 hB4 hino4 hlnk4 hnam4 hM4
  clear hw4 hblk3 hB3 hino3 hlnk3 hM3 hcn
  simp only [List.take_succ_cons, List.take_zero, List.drop_succ_cons, List.drop_zero]
  have c0 : w4.cell? ⟨b + 3, 0, none⟩ = some (.map (some b)) := hblk4.cell 0
  have c2 : w4.cell? ⟨b + 3, 2, none⟩ = some (.map (some (b + 2))) := hblk4.cell 2
  repeat still_step
  refine still_val rfl (ex_load rfl (run_loadRow hB4 Try.underlying55 rfl (size55' HK.out))) ?_
  go_frame
  refine still_val rfl (ex_lookup rfl (look_of hino4 r.dir r.name hwd HO.out.size)) ?_
  go_frame
  refine wpStill_nil ?_
  have hfi : findIno rows r.dir r.name = r.ino := findIno_mem HI.out.nodup HR.out
  rw [hfi]
  clear hfi
  go_wp2_with (go_at_call 40; refine (count_down w4 (b + 2) (cntIno rows) r.ino hwi hlnk4 hi0 hi1).mono ?_; rintro e w5 ⟨rfl, hm5, hs5, hcl⟩)
  have hblk5 := hblk4.mod hm5 (by omega)
  have hB5 := hB4.mod hm5 (by omega)
  have hino5 := hino4.mod hm5 (by omega)
  have hnam5 := hnam4.mod hm5 (by omega)
  have hM5 : Mod (Ct b) w w5 := hM4.trans' hm5 (fun k _ e => by unfold Ct; omega)
  clear hblk4 hB4 hino4 hnam4 hlnk4 hM4 c0 c2 hs5 hm5
  refine region_tail 5 (by kernel_rfl) (by kernel_rfl) ?_
  rintro w6 hw6
  have hblk6 := hblk5.drew
  have hB6 := hB5.drew
  have hino6 := hino5.drew
  have hlnk6 : Counts w5.drew (b + 2) _ := hcl.of_block rfl
  have hnam6 : Counts w5.drew (b + 1) _ := hnam5.of_block rfl
  have hM6 := hM5.drew
  rw [← hw6] at hblk6 hB6 hino6 hlnk6 hnam6 hM6
  clear hw6 hblk5 hB5 hino5 hnam5 hM5 hcl
  simp only [List.take_succ_cons, List.take_zero, List.drop_succ_cons, List.drop_zero]
  have c0 : w6.cell? ⟨b + 3, 0, none⟩ = some (.map (some b)) := hblk6.cell 0
  repeat still_step
  refine still_val rfl (ex_load rfl (run_loadRow hB6 Try.underlying55 rfl (size55' HK.out))) ?_
  go_frame
  refine wpStill_nil ?_
  have hpk : (rows.map Row.kv).Perm ((keyV r.dir r.name, .int .i64 r.ino) :: rows'.map Row.kv) := HP.out.map Row.kv
  obtain ⟨o, hdel, hm7⟩ := hino6.drop keyKeyed (ts := #[58, 55]) rfl Try.underlying58 hpk
  have hI7 : IndexAt (putBlk w6 b o) b rows' :=
    ⟨hblk6.of_block (putBlk_other _ _ _ _ (by omega)), hm7, (hnam6.of_block (putBlk_other _ _ _ _ (by omega))).congr (fun d => (perm_cnt_dir HP.out d).symm),
      (hlnk6.of_block (putBlk_other _ _ _ _ (by omega))).congr (fun d => (perm_cnt_ino HP.out d).symm), fun x hx => HI.out.ok x (HP.out.mem_iff.2 (List.mem_cons_of_mem _ hx))⟩
  have hM7 : Mod (Ix b) w (putBlk w6 b o) := (hM6.mono (fun k _ e => by unfold Ct at e; unfold Ix; omega)).putBlk (.inr ⟨by omega, by omega⟩) o
  have hRg : ∀ ri left, Ranging Try.prog 55 w ri b (rows.map Row.kv) left → r.kv ∉ left → (ri < b ∨ b + 4 ≤ ri) → Ranging Try.prog 55 (putBlk w6 b o) ri b (rows'.map Row.kv) left := by
    intro ri left hg hnl hri
    have hg6 := hg.mod hM6 (by unfold Ct; omega) (by unfold Ct; omega)
    obtain ⟨o', hdel', hg'⟩ := hg6.drop keyKeyed (ts := #[58, 55]) rfl Try.underlying58 hpk hnl
    have e := (hdel 0).symm.trans (hdel' 0)
    injection e with _ e
    rw [e]; exact hg'
  have HD := hide hI7
  have HRg := hide hRg
  clear hI7 hRg hm7 hpk
  generalize putBlk w6 b o = w7 at hdel hM7 HD HRg
  refine wpList_val rfl (ex_delete rfl (hdel _)) ?_
  go_frame
  go_wp2
  go_end0
  exact ⟨rfl, hM7, HD.out, HRg.out⟩
end Go.Proofs.Ytmamdacmpikdbaa
