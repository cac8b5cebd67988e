import Derived.Test.YtmamdacmpikdbaaW11
/-! Walks: Copy. -/
namespace Go.Proofs.Ytmamdacmpikdbaa
open Go.RowKit Go.Maps

theorem IndexAt.perm {w : World} {b : Nat} {R R' : List Row} (h : IndexAt w b R) (hp : R.Perm R') : IndexAt w b R' :=
  ⟨h.blk, h.inos.perm (hp.map _), h.names.congr fun _ => (hp.filter _).length_eq, h.links.congr fun _ => (hp.filter _).length_eq, fun r hr => h.ok r (hp.mem_iff.2 hr)⟩

/-- the loop of Copy: rows that are still to come, rows that were taken over -/
def CopyRel (w : World) (b b2 r : Nat) (rows : List Row) (n : Nat) (wr : World) : Prop :=
  ∃ lrows acc, lrows.length ≤ n ∧ Ranging Try.prog 55 wr r b (rows.map Row.kv) (lrows.map Row.kv) ∧ (acc ++ lrows).Perm rows ∧ IndexAt wr b2 acc ∧ Mod None_ w wr

set_option maxRecDepth 100000 in
set_option maxHeartbeats 2000000 in
theorem copyIx_any (w : World) (b : Nat) (rows : List Row) (hlen : rows.length ≤ 5000000000000) (h : IndexAt w b rows) :
    Calls Try.prog 30 #[.pointer (some ⟨b + 3, 0, none⟩)] w fun e w' => e = .returned (.pointer (some ⟨w.heap.size + 3, 0, none⟩)) ∧ IndexAt w' w.heap.size rows ∧ Mod None_ w w' := by
  have hbl := h.lt
  have HI := hide h
  clear h
  go_enter Try.func30, Try.ntmps30
  go_wp2_with fail
  refine (new_any w).mono ?_
  rintro e w1 ⟨rfl, hI1, hM1, hs1⟩
  obtain ⟨b2, hb2⟩ : ∃ b2, b2 = w.heap.size := ⟨_, rfl⟩
  have hge : w.heap.size ≤ b2 := by omega
  have hr1 : b2 + 4 ≤ w1.heap.size := by omega
  have hb4 : b + 4 ≤ b2 := by omega
  have HB := hide hb2
  rw [← hb2] at hI1 ⊢
  have hX := HI.out.kept hM1
  obtain ⟨o, hrn, hrg⟩ := hX.inos.range Try.underlying58
  obtain ⟨d0, d1, d2⟩ := hX.cells
  have hM2 : Mod None_ w (w1.alloc o) := hM1.alloc o
  have hI2 : IndexAt (w1.alloc o) b2 [] := hI1.alloc o
  obtain ⟨r, hr⟩ : ∃ r, r = w1.heap.size := ⟨_, rfl⟩
  have hrb : b2 + 4 ≤ r := by omega
  rw [← hr] at hrg hrn
  clear hs1 hb2 hr1 hI1 hM1 hX hr
  generalize hw2 : w1.alloc o = w2 at hrn hrg hM2 hI2
  have HW := hide hw2
  clear hw2
  go_wp2_with (first
    | ((with_reducible refine at_slot 11 ?_); refine wpList_val rfl (ex_range rfl hrn) ?_; go_frame))
  clear d0 d1 d2 hrn
  have hrel0 : CopyRel w b b2 r rows rows.length w2 := ⟨rows, [], Nat.le_refl _, hrg, List.Perm.refl _, hI2, hM2⟩
  have HR := hide hrel0
  clear hrel0 hrg hI2 hM2 HW
  go_loopg [] rows.length (fun n wr => CopyRel w b b2 r rows n wr)
  case atStart => exact HR.out
  case round =>
    clear HR
    obtain ⟨lrows, acc, hn, hrg, hacc, hI, hM⟩ := hrel
    cases lrows with
    | nil =>
      have hx := hrg.next_end
      have hfin : IndexAt wr b2 rows := hI.perm (by simpa using hacc)
      have HF := hide hfin
      clear hrg hacc hI hn hfin
      go_wp2_with ((with_reducible refine at_slot 12 ?_); refine wpList_val rfl (ex_next rfl (hx _)) ?_; go_frame)
      go_ret
      exact ⟨by rw [HB.out]; rfl, by rw [← HB.out]; exact HF.out, hM⟩
    | cons r0 lr0 =>
      obtain ⟨p, left', w3, hnx, hpm, hrg1, hcur, hmr, hsz1⟩ := hrg.next_some (by simp)
      obtain ⟨r1, lr', hlp, rfl, hlp'⟩ := map_perm_cons hpm
      have hr1 : r1 ∈ rows := mem_of_kv (hrg.sub _ (hpm.mem_iff.2 (by simp)))
      replace hnx : ∀ ty, (Instr.next (.pointer (some ⟨r, 0, none⟩)) false ty).run Try.prog wr = .ok (.tuple #[.bool true, keyV r1.dir r1.name, .int .i64 r1.ino]) w3 := hnx
      have hok := HI.out.ok r1 hr1
      have hwd := hok.wf
      have hwi : (Lit.int .i64 r1.ino).wf = true := wf_i64 (by have := hok.2.1; omega) (by have := hok.2.1; omega)
      have hsz := hok.size
      have hen : (Instr.entry (.pointer (some ⟨r, 0, none⟩))).run Try.prog w3 = .ok (.tuple #[keyV r1.dir r1.name, .int .i64 r1.ino]) w3 := Cur.entry (P := Try.prog) hcur
      have hm1 : Mod None_ w w3 := hM.trans' hmr (fun k hk e => by omega)
      have hI3 : IndexAt w3 b2 acc := hI.mod hmr (fun k h1 h2 e => by omega)
      have hrg2 : Ranging Try.prog 55 w3 r b (rows.map Row.kv) (lr'.map Row.kv) := hrg1.perm_left hlp'
      have hsub : ((r1 :: acc) ++ lr').Perm rows := ((List.perm_middle (a := r1) (l₁ := acc) (l₂ := lr')).symm.trans (hlp.symm.append_left acc)).trans hacc
      have hnod : (((r1 :: acc) ++ lr').map (fun r => (r.dir, r.name))).Nodup := (hsub.map _).nodup_iff.2 HI.out.nodup
      have hnew : ∀ p ∈ acc.map Row.kv, p.1 ≠ keyV r1.dir r1.name := by
        intro p hp e
        obtain ⟨x, hx, rfl⟩ := List.mem_map.1 hp
        simp only [Row.kv, keyV, Value.agg.injEq] at e
        obtain ⟨e1, e2⟩ := keyA_inj e
        simp only [List.cons_append, List.map_cons, List.nodup_cons] at hnod
        exact hnod.1 (List.mem_map.2 ⟨x, List.mem_append_left _ hx, by rw [e1, e2]⟩)
      have hn' : lr'.length + 1 ≤ gk := by
        have := hlp.length_eq
        simp only [List.length_cons] at this hn
        omega
      have hal : acc.length ≤ 5000000000000 := by
        have := hacc.length_eq
        rw [List.length_append] at this
        omega
      have hrl := hrg.lt
      have HK := hide (keyA_size r1.dir r1.name hok.size)
      have HO := hide hok
      have HS := hide hsub
      have HN := hide hnew
      clear hpm hlp hlp' hrg hacc hrg1 hcur hM hI hn hok hsub hr1 hmr hnew hnod r0 lr0 left'
      have hM4 : Mod None_ w3 (w3.alloc (.cells (keyA r1.dir r1.name) 55)) := (Mod.refl _ w3).alloc _
      have hB4 : Blk (w3.alloc (.cells (keyA r1.dir r1.name) 55)) w3.heap.size 55 (keyA r1.dir r1.name) := Blk.new _ _ _
      obtain ⟨w4, hw4⟩ : ∃ w4, w4 = w3.alloc (.cells (keyA r1.dir r1.name) 55) := ⟨_, rfl⟩
      rw [← hw4] at hM4 hB4
      have HW := hide hw4
      obtain ⟨g4, hg4⟩ : ∃ g4, g4 = w3.heap.size := ⟨_, rfl⟩
      have hg4r : r < g4 := by omega
      have HG := hide hg4
      rw [← hg4] at hB4
      clear hw4 hg4 hsz1 hrl
      go_wp2_with (first
        | ((with_reducible refine at_slot 12 ?_); refine wpList_val rfl (ex_next rfl (hnx _)) ?_; go_frame)
        | ((with_reducible refine at_slot 14 ?_); refine wpList_val rfl (ex_entry rfl hen) ?_; go_frame)
        | ((with_reducible refine at_slot 4 ?_); refine wpList_declare rfl rfl 55 4 (.tmp 15) rfl rfl rfl zeroK (keyA r1.dir r1.name) zero55 (size55' HK.out) (zeroK_size.trans HK.out.symm) (keyA_one _ _) (by simp) rfl ?_; go_frame; rw [← HW.out, ← HG.out]))
      have hI5 : IndexAt w4.drew b2 acc := (hI3.kept hM4).drew
      have hB5 : Blk w4.drew g4 55 (keyA r1.dir r1.name) := hB4.drew
      have hm5 : Mod None_ w3 w4.drew := hM4.drew
      refine region_tail 6 (by kernel_rfl) (by kernel_rfl) ?_
      rintro w5 hw5
      rw [← hw5] at hI5 hB5 hm5
      clear hw5 hI3 hB4 hM4 hnx hen
      obtain ⟨c0, c1, c2⟩ := hI5.cells
      simp only [List.take_succ_cons, List.take_zero, List.drop_succ_cons, List.drop_zero]
      repeat still_step
      refine still_val rfl (ex_load rfl (run_loadRow hB5 Try.underlying55 rfl (size55' HK.out))) ?_
      go_frame
      repeat still_step
      refine wpStill_nil ?_
      obtain ⟨lk, hlk⟩ := keyOf_key r1.dir r1.name hwd hsz
      obtain ⟨o, hst, hmp⟩ := hI5.inos.store_new keyKeyed Try.underlying58 (v := .int .i64 r1.ino) hlk HN.out
      have hlt5 := hI5.lt
      have hblk6 : Blk (putBlk w5 b2 o) (b2 + 3) 61 _ := hI5.blk.of_block (putBlk_other _ _ _ _ (by omega))
      have hnam6 : Counts (putBlk w5 b2 o) (b2 + 1) (cntDir acc) := hI5.names.of_block (putBlk_other _ _ _ _ (by omega))
      have hlnk6 : Counts (putBlk w5 b2 o) (b2 + 2) (cntIno acc) := hI5.links.of_block (putBlk_other _ _ _ _ (by omega))
      have hB6 : Blk (putBlk w5 b2 o) g4 55 (keyA r1.dir r1.name) := hB5.of_block (putBlk_other _ _ _ _ (by omega))
      have hm6 : Mod (Ix b2) w3 (putBlk w5 b2 o) := hm5.none.putBlk (.inr ⟨by omega, by omega⟩) o
      generalize putBlk w5 b2 o = w6 at hst hmp hblk6 hnam6 hlnk6 hm6 hB6
      refine wpList_skp rfl (ex_mapUpdate rfl hst) ?_
      go_frame
      clear hI5 hB5 hm5 c0 c1 c2 hst HN hlk
      go_wp2_with fail
      have hblk7 := hblk6.drew
      have hB7 := hB6.drew
      have hmp7 := hmp.drew
      have hnam7 : Counts w6.drew (b2 + 1) (cntDir acc) := hnam6.of_block rfl
      have hlnk7 : Counts w6.drew (b2 + 2) (cntIno acc) := hlnk6.of_block rfl
      have hm7 := hm6.drew
      refine region_tail 6 (by kernel_rfl) (by kernel_rfl) ?_
      rintro w7 hw7
      rw [← hw7] at hblk7 hB7 hmp7 hnam7 hlnk7 hm7
      clear hw7 hblk6 hB6 hmp hnam6 hlnk6 hm6
      have c1 : w7.cell? ⟨b2 + 3, 1, none⟩ = some (.map (some (b2 + 1))) := hblk7.cell 1
      have hk0 : (keyA r1.dir r1.name)[0]? = some (.int .i64 r1.dir) := by simp [keyA, keyCells]
      have ck : w7.cell? ⟨g4, 0, none⟩ = some (.int .i64 r1.dir) := (hB7.cell 0).trans hk0
      clear hk0
      simp only [List.take_succ_cons, List.take_zero, List.drop_succ_cons, List.drop_zero]
      repeat still_step
      refine wpStill_nil ?_
      clear c1 ck
      have hd1 := Nat.le_trans (cntDir_le acc r1.dir) hal
      have hd2 := Nat.le_trans (cntIno_le acc r1.ino) hal
      go_wp2_with fail
      refine (count_up w7 (b2 + 1) (cntDir acc) r1.dir hwd hnam7 (by omega)).mono ?_
      rintro e w8 ⟨rfl, hm8, hs8, hcn⟩
      have hblk8 := hblk7.mod hm8 (by omega)
      have c2 : w8.cell? ⟨b2 + 3, 2, none⟩ = some (.map (some (b2 + 2))) := hblk8.cell 2
      have hmp8 := hmp7.mod hm8 (by omega)
      have hlnk8 := hlnk7.mod hm8 (by omega)
      have hM8 : Mod (Ix b2) w3 w8 := hm7.trans' hm8 (fun k _ e => by unfold Ix; omega)
      clear hblk7 hmp7 hlnk7 hnam7 hm7 hm8 hs8 hB7
      go_wp2_with fail
      refine (count_up w8 (b2 + 2) (cntIno acc) r1.ino hwi hlnk8 (by omega)).mono ?_
      rintro e w9 ⟨rfl, hm9, hs9, hcl⟩
      have hI9 : IndexAt w9 b2 (r1 :: acc) := by
        refine ⟨hblk8.mod hm9 (by omega), hmp8.mod hm9 (by omega), (hcn.mod hm9 (by omega)).congr (fun x => (cntDir_cons acc r1 x).symm), hcl.congr (fun x => (cntIno_cons acc r1 x).symm), ?_⟩
        intro x hx
        exact HI.out.ok x (HS.out.mem_iff.1 (List.mem_append_left _ hx))
      have hM9 : Mod (Ix b2) w3 w9 := hM8.trans' hm9 (fun k _ e => by unfold Ix; omega)
      have HF : Hid (CopyRel w b b2 r rows (gk - 1) w9) := hide ⟨lr', r1 :: acc, by omega, hrg2.mod hM9 (by unfold Ix; omega) (by unfold Ix; omega), HS.out, hI9, hm1.trans' hM9 (fun k hk e => by unfold Ix at e; omega)⟩
      clear hI9 hM9 hs9 hcl hcn hmp8 hlnk8 hblk8 c2 hM8 hm9 hrg2 hm1
      go_wp2
      go_roundg (gk - 1)
      case measure => omega
      case rel => exact HF.out
end Go.Proofs.Ytmamdacmpikdbaa
