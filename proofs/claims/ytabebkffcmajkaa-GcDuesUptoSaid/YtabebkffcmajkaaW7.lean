import Derived.Test.YtabebkffcmajkaaW5
import Derived.Test.YtabebkffcmajkaaW3
/-! Walks: Put. -/
namespace Go.Proofs.Ytabebkffcmajkaa
open Go.RowKit Go.Maps

/-- Put's answer, and the rows behind it -/
def putErr (rows : List Row) (d : Int) (s : ByteArray) (i : Int) : Int :=
  if isInodeB d = false ∨ isInodeB i = false then 83 else if goodName s = false then 80 else if findIno rows d s ≠ 0 then 81 else 0
def putRows (rows : List Row) (d : Int) (s : ByteArray) (i : Int) : List Row := if putErr rows d s i = 0 then ⟨d, s, i⟩ :: rows else rows

def PutPost (w : World) (b : Nat) (rows : List Row) (d : Int) (s : ByteArray) (i : Int) : Ending → World → Prop :=
  fun e w' => e = .returned (.int .i64 (putErr rows d s i)) ∧ Mod (Ix b) w w' ∧ IndexAt w' b (putRows rows d s i)
theorem PutPost.of_err {w w' : World} {b : Nat} {rows : List Row} {d : Int} {s : ByteArray} {i n : Int} (he : putErr rows d s i = n) (hn : n ≠ 0) (hm : Mod None_ w w') (h : IndexAt w b rows) :
    PutPost w b rows d s i (.returned (.int .i64 n)) w' := by
  refine ⟨by rw [he], hm.none, ?_⟩
  unfold putRows
  rw [if_neg (by rw [he]; exact hn)]
  exact h.kept hm

set_option maxRecDepth 100000 in
set_option maxHeartbeats 400000 in
theorem put_inode (w : World) (b : Nat) (rows : List Row) (d : Int) (s : ByteArray) (i : Int) (h : IndexAt w b rows) (hc : isInodeB d = false ∨ isInodeB i = false) :
    Calls Try.prog 46 #[.pointer (some ⟨b + 3, 0, none⟩), .int .i64 d, .string s, .int .i64 i] w (PutPost w b rows d s i) := by
  have hf : PutPost w b rows d s i (.returned (.int .i64 83)) w := PutPost.of_err (by unfold putErr; rw [if_pos hc]) (by decide) (Mod.refl _ _) h
  have HF := hide hf
  clear hf h
  cases hd : isInodeB d with
  | false =>
    go_enter Try.func46, Try.ntmps46
    go_wp2_with (go_at_call 54; refine (isInode_any _ _).mono ?_; rintro e w1 ⟨rfl, rfl⟩)
    go_ret
    exact HF.out
  | true =>
    have hi : isInodeB i = false := hc.resolve_left (by simp [hd])
    clear hc
    go_enter Try.func46, Try.ntmps46
    go_wp2_with (go_at_call 54; refine (isInode_any _ _).mono ?_; rintro e w1 ⟨rfl, rfl⟩)
    go_ret
    exact HF.out

set_option maxRecDepth 100000 in
set_option maxHeartbeats 400000 in
theorem put_name (w : World) (b : Nat) (rows : List Row) (d : Int) (s : ByteArray) (i : Int) (h : IndexAt w b rows) (hd : isInodeB d = true) (hi : isInodeB i = true) (hs : goodName s = false) :
    Calls Try.prog 46 #[.pointer (some ⟨b + 3, 0, none⟩), .int .i64 d, .string s, .int .i64 i] w (PutPost w b rows d s i) := by
  have hf : ∀ w', Mod None_ w w' → PutPost w b rows d s i (.returned (.int .i64 80)) w' := fun w' hm => PutPost.of_err (by unfold putErr; rw [if_neg (by simp [hd, hi]), if_pos hs]) (by decide) hm h
  have HF := hide hf
  clear hf h
  go_enter Try.func46, Try.ntmps46
  go_wp2_with (first
    | (go_at_call 54; refine (isInode_any _ _).mono ?_; rintro e w1 ⟨rfl, rfl⟩)
    | (go_at_call 55; refine (validName_any _ _).mono ?_; rintro e w1 ⟨rfl, hm1⟩))
  go_ret
  exact HF.out _ hm1

theorem cntDir_cons (rows : List Row) (r : Row) (d : Int) : cntDir (r :: rows) d = upd (cntDir rows) r.dir (cntDir rows r.dir + 1) d := by
  unfold upd cntDir
  rw [List.filter_cons]
  split
  · rename_i e
    have e' : r.dir = d := by simpa using e
    rw [if_pos e'.symm, e']; rfl
  · rename_i e
    have e' : ¬ r.dir = d := by simpa using e
    rw [if_neg (fun h => e' h.symm)]
theorem cntIno_cons (rows : List Row) (r : Row) (d : Int) : cntIno (r :: rows) d = upd (cntIno rows) r.ino (cntIno rows r.ino + 1) d := by
  unfold upd cntIno
  rw [List.filter_cons]
  split
  · rename_i e
    have e' : r.ino = d := by simpa using e
    rw [if_pos e'.symm, e']; rfl
  · rename_i e
    have e' : ¬ r.ino = d := by simpa using e
    rw [if_neg (fun h => e' h.symm)]

set_option maxRecDepth 100000 in
set_option maxHeartbeats 1000000 in
theorem put_rest (w : World) (b : Nat) (rows : List Row) (d : Int) (s : ByteArray) (i : Int) (hlen : rows.length < 4611686018427387900) (h : IndexAt w b rows) (hd : isInodeB d = true) (hi : isInodeB i = true) (hs : goodName s = true) :
    Calls Try.prog 46 #[.pointer (some ⟨b + 3, 0, none⟩), .int .i64 d, .string s, .int .i64 i] w (PutPost w b rows d s i) := by
  have hsz := (goodName_size hs).2
  have hd' : 1 ≤ d ∧ d ≤ 256 := by simpa [isInodeB] using hd
  have hi' : 1 ≤ i ∧ i ≤ 256 := by simpa [isInodeB] using hi
  have hwd : (Lit.int .i64 d).wf = true := wf_i64 (by omega) (by omega)
  have hwi : (Lit.int .i64 i).wf = true := wf_i64 (by omega) (by omega)
  have HK := hide (keyA_size d s hsz)
  have HI := hide h
  have hbl := h.lt
  have hl1 := Nat.lt_of_le_of_lt (cntDir_le rows d) hlen
  have hl2 := Nat.lt_of_le_of_lt (cntIno_le rows i) hlen
  clear h hd' hi'
  go_enter Try.func46, Try.ntmps46
  go_wp2_with (first
    | (go_at_call 54; refine (isInode_any _ _).mono ?_; rintro e w1 ⟨rfl, rfl⟩)
    | (go_at_call 55; refine (validName_any _ _).mono ?_; rintro e w1 ⟨rfl, hm1⟩)
    | (go_at_call 56; refine (keyOf_good _ _ _ hsz).mono ?_; rintro e w2 ⟨rfl, hm2⟩)
    | ((with_reducible refine at_slot 9 ?_); refine wpList_declare rfl rfl 100 9 (.tmp 26) rfl rfl rfl zeroK (keyA d s) zero55 (size55' HK.out) (zeroK_size.trans HK.out.symm) (keyA_one d s) (by simp) rfl ?_; go_frame))
  have hm3 : Mod None_ w (w2.alloc (.cells (keyA d s) 100)).drew := ((hm1.trans hm2).alloc _).drew
  have hI3 : IndexAt (w2.alloc (.cells (keyA d s) 100)).drew b rows := HI.out.kept hm3
  have hB3 : Blk (w2.alloc (.cells (keyA d s) 100)).drew w2.heap.size 100 (keyA d s) := (Blk.new w2 100 _).drew
  have hge : w.heap.size ≤ w2.heap.size := Nat.le_trans hm1.size hm2.size
  generalize w2.heap.size = g at hB3 hge ⊢
  refine region_still (by kernel_rfl) (by kernel_rfl) ?_
  rintro w3 hw3
  rw [← hw3] at hI3 hB3 hm3
  clear hw3 hm1 hm2
  obtain ⟨c0, c1, c2⟩ := hI3.cells
  repeat still_step
  refine still_val rfl (ex_load rfl (run_loadRow hB3 Try.underlying100 rfl (size55' HK.out))) ?_
  go_frame
  refine still_val rfl (ex_lookup rfl (hI3.look d s hwd hsz)) ?_
  go_frame
  repeat still_step
  refine wpStill_nil ?_
  cases hfi : (findIno rows d s != 0) with
  | true =>
    have hf : PutPost w b rows d s i (.returned (.int .i64 81)) w3 := PutPost.of_err (by unfold putErr; rw [if_neg (by simp [hd, hi]), if_neg (by simp [hs]), if_pos (by simpa using hfi)]) (by decide) hm3 HI.out
    have HF := hide hf
    clear hf
    go_wp2
    go_ret
    exact HF.out
  | false =>
    have hz : findIno rows d s = 0 := by simpa using hfi
    have he : putErr rows d s i = 0 := by unfold putErr; rw [if_neg (by simp [hd, hi]), if_neg (by simp [hs]), if_neg (by simp [hz])]
    have HE := hide he
    have HN := hide (find_none (findIno_zero HI.out.ok hz))
    clear hz he
    go_wp2
    have hI4 := hI3.drew
    have hB4 := hB3.drew
    have hm4 := hm3.drew
    refine region_tail 6 (by kernel_rfl) (by kernel_rfl) ?_
    rintro w4 hw4
    rw [← hw4] at hI4 hB4 hm4
    clear hw4 hI3 hB3 hm3 c0 c1 c2
    obtain ⟨c0, c1, c2⟩ := hI4.cells
    simp only [List.take_succ_cons, List.take_zero, List.drop_succ_cons, List.drop_zero]
    repeat still_step
    refine still_val rfl (ex_load rfl (run_loadRow hB4 Try.underlying100 rfl (size55' HK.out))) ?_
    go_frame
    repeat still_step
    refine wpStill_nil ?_
    obtain ⟨lk, hlk⟩ := keyOf_key d s hwd hsz
    obtain ⟨o, hst, hmp⟩ := hI4.inos.store_new keyKeyed Try.underlying103 (v := .int .i64 i) hlk HN.out
    have hblk5 : Blk (putBlk w4 b o) (b + 3) 106 _ := hI4.blk.of_block (putBlk_other _ _ _ _ (by omega))
    have hnam5 : Counts (putBlk w4 b o) (b + 1) (cntDir rows) := hI4.names.of_block (putBlk_other _ _ _ _ (by omega))
    have hlnk5 : Counts (putBlk w4 b o) (b + 2) (cntIno rows) := hI4.links.of_block (putBlk_other _ _ _ _ (by omega))
    have hm5 : Mod (Ix b) w (putBlk w4 b o) := hm4.none.putBlk (.inr ⟨by omega, by omega⟩) o
    generalize putBlk w4 b o = w5 at hst hmp hblk5 hnam5 hlnk5 hm5
    refine wpList_skp rfl (ex_mapUpdate rfl hst) ?_
    go_frame
    clear hI4 hB4 hm4 c0 c1 c2 hst HN hlk
    have c1 : w5.cell? ⟨b + 3, 1, none⟩ = some (.map (some (b + 1))) := hblk5.cell 1
    go_wp2_with fail
    refine (count_up w5 (b + 1) (cntDir rows) d hwd hnam5 (by omega)).mono ?_
    rintro e w6 ⟨rfl, hm6, hs6, hcn⟩
    have hblk6 := hblk5.mod hm6 (by omega)
    have c2 : w6.cell? ⟨b + 3, 2, none⟩ = some (.map (some (b + 2))) := hblk6.cell 2
    have hmp6 := hmp.mod hm6 (by omega)
    have hlnk6 := hlnk5.mod hm6 (by omega)
    have hM6 : Mod (Ix b) w w6 := hm5.trans' hm6 (fun k _ e => by unfold Ix; omega)
    clear hblk5 hmp hlnk5 hnam5 hm5 hm6 hs6 c1
    go_wp2_with fail
    refine (count_up w6 (b + 2) (cntIno rows) i hwi hlnk6 (by omega)).mono ?_
    rintro e w7 ⟨rfl, hm7, hs7, hcl⟩
    have hfin : PutPost w b rows d s i (.returned (.int .i64 0)) w7 := by
      refine ⟨by rw [HE.out], hM6.trans' hm7 (fun k _ e => by unfold Ix; omega), ?_⟩
      unfold putRows
      rw [if_pos HE.out]
      refine ⟨hblk6.mod hm7 (by omega), hmp6.mod hm7 (by omega), (hcn.mod hm7 (by omega)).congr (fun x => (cntDir_cons rows ⟨d, s, i⟩ x).symm), hcl.congr (fun x => (cntIno_cons rows ⟨d, s, i⟩ x).symm), ?_⟩
      intro r hr
      rcases List.mem_cons.1 hr with rfl | hr
      · exact ⟨by simpa [isInodeB] using hd, by simpa [isInodeB] using hi, hs⟩
      · exact HI.out.ok r hr
    have HF := hide hfin
    clear hfin hs7 hcl hcn hmp6 hlnk6 hblk6 c2 hM6 hm7
    go_wp2
    go_ret
    exact HF.out

theorem put_any (w : World) (b : Nat) (rows : List Row) (d : Int) (s : ByteArray) (i : Int) (hlen : rows.length < 4611686018427387900) (h : IndexAt w b rows) :
    Calls Try.prog 46 #[.pointer (some ⟨b + 3, 0, none⟩), .int .i64 d, .string s, .int .i64 i] w (PutPost w b rows d s i) := by
  by_cases hc : isInodeB d = false ∨ isInodeB i = false
  · exact put_inode w b rows d s i h hc
  · have hd : isInodeB d = true := by simpa using fun h => hc (.inl h)
    have hi : isInodeB i = true := by simpa using fun h => hc (.inr h)
    cases hs : goodName s with
    | false => exact put_name w b rows d s i h hd hi hs
    | true => exact put_rest w b rows d s i hlen h hd hi hs
end Go.Proofs.Ytabebkffcmajkaa
