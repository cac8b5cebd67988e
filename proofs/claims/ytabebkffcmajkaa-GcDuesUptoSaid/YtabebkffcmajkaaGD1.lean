import Derived.Test.YtabebkffcmajkaaLW
/-! Walk: furrowlaw10.copyNode. (Printed by mk_GD1.py.) -/
namespace Go.Proofs.Ytabebkffcmajkaa
open Go.RowKit Go.Maps Go.Shelf
attribute [local go_sem] quietV loudUpon Oper.semAt_some

/-- no list is longer than what makes sense -/
def Short (n : NodeD) : Prop := n.map.length ≤ 2000000 ∧ n.names.length ≤ 2000000 ∧ n.log.length ≤ 2000000

set_option maxRecDepth 100000 in
set_option maxHeartbeats 1000000 in
theorem gcCopy (w : World) (n : NodeD) (vm vn vl : Value) (h : NodeIn w n vm vn vl) (hs : Short n) : Calls Try.prog 14 #[.agg (nodeC n vm vn vl)] w (CopyPost w n) := by
  obtain ⟨hs1, hs2, hs3⟩ := hs
  obtain ⟨Am, cm, rfl, hcm1, hcm2, _⟩ := h.map
  obtain ⟨An, cn, rfl, hcn1, hcn2, _⟩ := h.names
  obtain ⟨Al, cl, rfl, hcl1, hcl2, _⟩ := h.log
  obtain ⟨im, him, hzm, hsm, hbm⟩ := info_parts infoRun
  obtain ⟨id_, hid, hzd, hsd, hbd⟩ := info_parts info36
  obtain ⟨ii, hii, hzi, hsi, hbi⟩ := info_parts infoInt
  have HN := hide h
  clear h
  obtain ⟨m, hm⟩ : ∃ m, m = w.heap.size := ⟨_, rfl⟩
  obtain ⟨w1, hw1⟩ : ∃ w1, w1 = ((w.alloc (.cells (nodeC n (.slice Am n.map.length cm) (.slice An n.names.length cn) (.slice Al n.log.length cl)) 26)).alloc (.cells zeroNode 26)).alloc (.cells (nodeC n (.slice Am n.map.length cm) (.slice An n.names.length cn) (.slice Al n.log.length cl)) 26) := ⟨_, rfl⟩
  have hM : Mod None_ w w1 := by rw [hw1]; exact (((Mod.refl _ w).alloc _).alloc _).alloc _
  have b1 : Blk w1 m 26 (nodeC n (.slice Am n.map.length cm) (.slice An n.names.length cn) (.slice Al n.log.length cl)) := by rw [hw1, hm]; exact ((Blk.new w 26 _).alloc _).alloc _
  have b2 : Blk w1 (m + 1) 26 zeroNode := by
    have := (Blk.new (w.alloc (.cells (nodeC n (.slice Am n.map.length cm) (.slice An n.names.length cn) (.slice Al n.log.length cl)) 26)) 26 zeroNode).alloc (.cells (nodeC n (.slice Am n.map.length cm) (.slice An n.names.length cn) (.slice Al n.log.length cl)) 26)
    rw [← hw1, alloc_size, ← hm] at this
    exact this
  have b3 : Blk w1 (m + 2) 26 (nodeC n (.slice Am n.map.length cm) (.slice An n.names.length cn) (.slice Al n.log.length cl)) := by
    have := Blk.new ((w.alloc (.cells (nodeC n (.slice Am n.map.length cm) (.slice An n.names.length cn) (.slice Al n.log.length cl)) 26)).alloc (.cells zeroNode 26)) 26 (nodeC n (.slice Am n.map.length cm) (.slice An n.names.length cn) (.slice Al n.log.length cl))
    rw [← hw1, alloc_size, alloc_size, ← hm] at this
    exact this
  have hb3 := b3.lt
  have hgem : w.heap.size ≤ m := by omega
  have hgem2 : m ≤ w.heap.size := by omega
  have hI := infoNode n (.slice Am n.map.length cm) (.slice An n.names.length cn) (.slice Al n.log.length cl)
  have hone0 : (nodeC n (.slice Am n.map.length cm) (.slice An n.names.length cn) (.slice Al n.log.length cl)).all (·.oneCell') = true := by simp [nodeC, Value.oneCell']
  have hb0 : Blk ((w.alloc (.cells (nodeC n (.slice Am n.map.length cm) (.slice An n.names.length cn) (.slice Al n.log.length cl)) 26)).alloc (.cells zeroNode 26)) m 26 (nodeC n (.slice Am n.map.length cm) (.slice An n.names.length cn) (.slice Al n.log.length cl)) := by rw [hm]; exact (Blk.new w 26 _).alloc _
  have HI := hide hI
  have HO := hide hone0
  have HB0 := hide hb0
  have HW1 := hide hw1
  have HMM := hide hm
  clear hw1 hI hone0 hb0 hm
  go_enter Try.func14, Try.ntmps14
  go_upto_region 1 with ((with_reducible refine at_slot 2 ?_); refine wpList_alloc rfl 26 rfl (.agg zeroNode) zeroNodeV ?_; go_frame)
  rw [← HMM.out]
  go_upto_region 2 with (first
    | ((with_reducible refine at_slot 4 ?_); refine wpList_val rfl (ex_load rfl (run_loadRow HB0.out Try.underlying26 rfl HI.out)) ?_; go_frame)
    | ((with_reducible refine at_slot 3 ?_); refine wpList_declare rfl rfl 26 3 (.tmp 4) rfl rfl rfl zeroNode (nodeC n (.slice Am n.map.length cm) (.slice An n.names.length cn) (.slice Al n.log.length cl)) zeroNodeV HI.out (nodeC_size _ _ _ _) HO.out (by simp) rfl ?_; go_frame))
  simp only [alloc_size]
  rw [← HMM.out, show (Value.agg zeroNode).cells = zeroNode from rfl, ← HW1.out]
  clear HW1 HB0
  have ca0 : w1.cell? ⟨m + 2, 4, none⟩ = some (.slice Am n.map.length cm) := b3.cell 4
  have fa0 : w1.frozen? ⟨m + 2, 4, none⟩ = false := b3.frozen _
  go_upto_region 3 with fail
  obtain ⟨wa0, hwa0⟩ : ∃ x, x = w1.setCell ⟨m + 2, 4, none⟩ (.slice none 0 0) := ⟨_, rfl⟩
  rw [← hwa0]
  have hma0 : Mod (· = m + 2) w1 wa0 := by rw [hwa0]; exact (Mod.refl (· = m + 2) w1).setCell (p := ⟨m + 2, 4, none⟩) (.inr rfl) _
  have bqa0 : Blk wa0 (m + 2) 26 (nodeC n (.slice none 0 0) (.slice An n.names.length cn) (.slice Al n.log.length cl)) := by
    have := b3.set_ 4 (.slice none 0 0)
    rw [← hwa0] at this
    exact this
  have bma0 := b1.mod hma0 (by omega)
  have bza0 := b2.mod hma0 (by omega)
  have hMa0 : Mod None_ w wa0 := hM.trans' hma0 (fun g hg e => by omega)
  have hsza0 : w1.heap.size ≤ wa0.heap.size := hma0.size
  clear hwa0 hma0 ca0 fa0 b3 b1 b2   
  have c0 : wa0.cell? ⟨m + 2, 4, none⟩ = some (.slice none 0 0) := bqa0.cell 4
  have d0 : wa0.cell? ⟨m, 4, none⟩ = some (.slice Am n.map.length cm) := bma0.cell 4
  have HR0 := hide (ListAt.reads (enc := encRun) (fun _ => rfl) (by decide) (HN.out.kept hMa0).map)
  go_upto_region 4 with ((with_reducible refine at_slot 10 ?_); refine wpList_append_any _ rfl (.tmp 7) (.tmp 9) 22 rfl w1.heap.size 51 im _ 3 24 Try.underlying22 him hzm hsm hbm rfl (by decide) (.slice none 0 0) 0 [] rfl ⟨rfl, .inl ⟨rfl, rfl⟩⟩ wa0.heap.size Am n.map.length cm (rowOf encRun n.map) rfl HR0.out (rowOf_one oneRun n.map) (by unfold maxLen; omega) (by omega) hsza0 ?_; intro v9 w9 hown9 hg9 hat9
                         rw [Nat.zero_add, List.nil_append] at hown9
                         have hmx : Mod None_ wa0 w9 := (Mod.of_grown hg9).mono (fun _ _ e => by cases e)
                         have b9 := bqa0.mod hmx id
                         have c9 : w9.cell? ⟨m + 2, 4, none⟩ = some (.slice none 0 0) := b9.cell 4
                         have f9 : w9.frozen? ⟨m + 2, 4, none⟩ = false := b9.frozen _
                         obtain ⟨A90, k90, rfl⟩ := own_slice hown9
                         clear hg9 hat9
                         go_frame)
  obtain ⟨wb0, hwb0⟩ : ∃ x, x = w9.setCell ⟨m + 2, 4, none⟩ (.slice A90 n.map.length k90) := ⟨_, rfl⟩
  rw [← hwb0]
  have hmb0 : Mod (· = m + 2) w9 wb0 := by rw [hwb0]; exact (Mod.refl (· = m + 2) w9).setCell (p := ⟨m + 2, 4, none⟩) (.inr rfl) _
  have bqb0 : Blk wb0 (m + 2) 26 (nodeC n (.slice A90 n.map.length k90) (.slice An n.names.length cn) (.slice Al n.log.length cl)) := by
    have := b9.set_ 4 (.slice A90 n.map.length k90)
    rw [← hwb0] at this
    exact this
  have bmb0 := (bma0.mod hmx id).mod hmb0 (by omega)
  have bzb0 := (bza0.mod hmx id).mod hmb0 (by omega)
  have hMb0 : Mod None_ w wb0 := (hMa0.trans hmx).trans' hmb0 (fun g hg e => by omega)
  have hszb0 : w1.heap.size ≤ wb0.heap.size := Nat.le_trans hsza0 (Nat.le_trans hmx.size hmb0.size)
  have owb00 := own_mod hown9 hmb0 (fun g hg e => by have := (own_blk hown9 hg).1; omega)
  clear hwb0 hmb0 c0 d0 HR0 bqa0 bma0 bza0 hMa0 hsza0 b9 c9 f9 hown9 hmx 
  have ca1 : wb0.cell? ⟨m + 2, 5, none⟩ = some (.slice An n.names.length cn) := bqb0.cell 5
  have fa1 : wb0.frozen? ⟨m + 2, 5, none⟩ = false := bqb0.frozen _
  go_upto_region 5 with fail
  obtain ⟨wa1, hwa1⟩ : ∃ x, x = wb0.setCell ⟨m + 2, 5, none⟩ (.slice none 0 0) := ⟨_, rfl⟩
  rw [← hwa1]
  have hma1 : Mod (· = m + 2) wb0 wa1 := by rw [hwa1]; exact (Mod.refl (· = m + 2) wb0).setCell (p := ⟨m + 2, 5, none⟩) (.inr rfl) _
  have bqa1 : Blk wa1 (m + 2) 26 (nodeC n (.slice A90 n.map.length k90) (.slice none 0 0) (.slice Al n.log.length cl)) := by
    have := bqb0.set_ 5 (.slice none 0 0)
    rw [← hwa1] at this
    exact this
  have bma1 := bmb0.mod hma1 (by omega)
  have bza1 := bzb0.mod hma1 (by omega)
  have hMa1 : Mod None_ w wa1 := hMb0.trans' hma1 (fun g hg e => by omega)
  have hsza1 : w1.heap.size ≤ wa1.heap.size := Nat.le_trans hszb0 hma1.size
  have owa10 := own_mod owb00 hma1 (fun g hg e => by have := (own_blk owb00 hg).1; omega)
  clear hwa1 hma1 ca1 fa1 bqb0 bmb0 bzb0 hMb0 hszb0 owb00
  have c1 : wa1.cell? ⟨m + 2, 5, none⟩ = some (.slice none 0 0) := bqa1.cell 5
  have d1 : wa1.cell? ⟨m, 5, none⟩ = some (.slice An n.names.length cn) := bma1.cell 5
  have HR1 := hide (ListAt.reads (enc := encDent) (fun _ => rfl) (by decide) (HN.out.kept hMa1).names)
  go_upto_region 6 with ((with_reducible refine at_slot 17 ?_); refine wpList_append_any _ rfl (.tmp 14) (.tmp 16) 23 rfl w1.heap.size 49 id_ _ 2 24 Try.underlying23 hid hzd hsd hbd rfl (by decide) (.slice none 0 0) 0 [] rfl ⟨rfl, .inl ⟨rfl, rfl⟩⟩ wa1.heap.size An n.names.length cn (rowOf encDent n.names) rfl HR1.out (rowOf_one oneDent n.names) (by unfold maxLen; omega) (by omega) hsza1 ?_; intro v9 w9 hown9 hg9 hat9
                         rw [Nat.zero_add, List.nil_append] at hown9
                         have hmx : Mod None_ wa1 w9 := (Mod.of_grown hg9).mono (fun _ _ e => by cases e)
                         have b9 := bqa1.mod hmx id
                         have c9 : w9.cell? ⟨m + 2, 5, none⟩ = some (.slice none 0 0) := b9.cell 5
                         have f9 : w9.frozen? ⟨m + 2, 5, none⟩ = false := b9.frozen _
                         obtain ⟨A91, k91, rfl⟩ := own_slice hown9
                         clear hg9 hat9
                         go_frame)
  obtain ⟨wb1, hwb1⟩ : ∃ x, x = w9.setCell ⟨m + 2, 5, none⟩ (.slice A91 n.names.length k91) := ⟨_, rfl⟩
  rw [← hwb1]
  have hmb1 : Mod (· = m + 2) w9 wb1 := by rw [hwb1]; exact (Mod.refl (· = m + 2) w9).setCell (p := ⟨m + 2, 5, none⟩) (.inr rfl) _
  have bqb1 : Blk wb1 (m + 2) 26 (nodeC n (.slice A90 n.map.length k90) (.slice A91 n.names.length k91) (.slice Al n.log.length cl)) := by
    have := b9.set_ 5 (.slice A91 n.names.length k91)
    rw [← hwb1] at this
    exact this
  have bmb1 := (bma1.mod hmx id).mod hmb1 (by omega)
  have bzb1 := (bza1.mod hmx id).mod hmb1 (by omega)
  have hMb1 : Mod None_ w wb1 := (hMa1.trans hmx).trans' hmb1 (fun g hg e => by omega)
  have hszb1 : w1.heap.size ≤ wb1.heap.size := Nat.le_trans hsza1 (Nat.le_trans hmx.size hmb1.size)
  have owb11 := own_mod hown9 hmb1 (fun g hg e => by have := (own_blk hown9 hg).1; omega)
  have owb10 := own_mod (own_mod owa10 hmx (fun _ _ f => f)) hmb1 (fun g hg e => by have := (own_blk owa10 hg).1; omega)
  clear hwb1 hmb1 c1 d1 HR1 bqa1 bma1 bza1 hMa1 hsza1 b9 c9 f9 hown9 hmx owa10
  have ca2 : wb1.cell? ⟨m + 2, 8, none⟩ = some (.slice Al n.log.length cl) := bqb1.cell 8
  have fa2 : wb1.frozen? ⟨m + 2, 8, none⟩ = false := bqb1.frozen _
  go_upto_region 7 with fail
  obtain ⟨wa2, hwa2⟩ : ∃ x, x = wb1.setCell ⟨m + 2, 8, none⟩ (.slice none 0 0) := ⟨_, rfl⟩
  rw [← hwa2]
  have hma2 : Mod (· = m + 2) wb1 wa2 := by rw [hwa2]; exact (Mod.refl (· = m + 2) wb1).setCell (p := ⟨m + 2, 8, none⟩) (.inr rfl) _
  have bqa2 : Blk wa2 (m + 2) 26 (nodeC n (.slice A90 n.map.length k90) (.slice A91 n.names.length k91) (.slice none 0 0)) := by
    have := bqb1.set_ 8 (.slice none 0 0)
    rw [← hwa2] at this
    exact this
  have bma2 := bmb1.mod hma2 (by omega)
  have bza2 := bzb1.mod hma2 (by omega)
  have hMa2 : Mod None_ w wa2 := hMb1.trans' hma2 (fun g hg e => by omega)
  have hsza2 : w1.heap.size ≤ wa2.heap.size := Nat.le_trans hszb1 hma2.size
  have owa20 := own_mod owb10 hma2 (fun g hg e => by have := (own_blk owb10 hg).1; omega)
  have owa21 := own_mod owb11 hma2 (fun g hg e => by have := (own_blk owb11 hg).1; omega)
  clear hwa2 hma2 ca2 fa2 bqb1 bmb1 bzb1 hMb1 hszb1 owb10 owb11
  have c2 : wa2.cell? ⟨m + 2, 8, none⟩ = some (.slice none 0 0) := bqa2.cell 8
  have d2 : wa2.cell? ⟨m, 8, none⟩ = some (.slice Al n.log.length cl) := bma2.cell 8
  have HR2 := hide (ListAt.reads (enc := encInt) (fun _ => rfl) (by decide) (HN.out.kept hMa2).log)
  go_upto_region 8 with ((with_reducible refine at_slot 24 ?_); refine wpList_append_any _ rfl (.tmp 21) (.tmp 23) 24 rfl w1.heap.size 3 ii _ 1 8 Try.underlying24 hii hzi hsi hbi rfl (by decide) (.slice none 0 0) 0 [] rfl ⟨rfl, .inl ⟨rfl, rfl⟩⟩ wa2.heap.size Al n.log.length cl (rowOf encInt n.log) rfl HR2.out (rowOf_one oneInt n.log) (by unfold maxLen; omega) (by omega) hsza2 ?_; intro v9 w9 hown9 hg9 hat9
                         rw [Nat.zero_add, List.nil_append] at hown9
                         have hmx : Mod None_ wa2 w9 := (Mod.of_grown hg9).mono (fun _ _ e => by cases e)
                         have b9 := bqa2.mod hmx id
                         have c9 : w9.cell? ⟨m + 2, 8, none⟩ = some (.slice none 0 0) := b9.cell 8
                         have f9 : w9.frozen? ⟨m + 2, 8, none⟩ = false := b9.frozen _
                         obtain ⟨A92, k92, rfl⟩ := own_slice hown9
                         clear hg9 hat9
                         go_frame)
  obtain ⟨wb2, hwb2⟩ : ∃ x, x = w9.setCell ⟨m + 2, 8, none⟩ (.slice A92 n.log.length k92) := ⟨_, rfl⟩
  rw [← hwb2]
  have hmb2 : Mod (· = m + 2) w9 wb2 := by rw [hwb2]; exact (Mod.refl (· = m + 2) w9).setCell (p := ⟨m + 2, 8, none⟩) (.inr rfl) _
  have bqb2 : Blk wb2 (m + 2) 26 (nodeC n (.slice A90 n.map.length k90) (.slice A91 n.names.length k91) (.slice A92 n.log.length k92)) := by
    have := b9.set_ 8 (.slice A92 n.log.length k92)
    rw [← hwb2] at this
    exact this
  have bmb2 := (bma2.mod hmx id).mod hmb2 (by omega)
  have bzb2 := (bza2.mod hmx id).mod hmb2 (by omega)
  have hMb2 : Mod None_ w wb2 := (hMa2.trans hmx).trans' hmb2 (fun g hg e => by omega)
  have hszb2 : w1.heap.size ≤ wb2.heap.size := Nat.le_trans hsza2 (Nat.le_trans hmx.size hmb2.size)
  have owb22 := own_mod hown9 hmb2 (fun g hg e => by have := (own_blk hown9 hg).1; omega)
  have owb20 := own_mod (own_mod owa20 hmx (fun _ _ f => f)) hmb2 (fun g hg e => by have := (own_blk owa20 hg).1; omega)
  have owb21 := own_mod (own_mod owa21 hmx (fun _ _ f => f)) hmb2 (fun g hg e => by have := (own_blk owa21 hg).1; omega)
  clear hwb2 hmb2 c2 d2 HR2 bqa2 bma2 bza2 hMa2 hsza2 b9 c9 f9 hown9 hmx owa20 owa21
  have hi10 := infoNode n (.slice A90 n.map.length k90) (.slice A91 n.names.length k91) (.slice A92 n.log.length k92)
  have hone : (nodeC n (.slice A90 n.map.length k90) (.slice A91 n.names.length k91) (.slice A92 n.log.length k92)).all (·.oneCell') = true := by simp [nodeC, Value.oneCell']
  go_wp2_with (first
    | ((with_reducible refine at_slot 26 ?_); refine wpList_val rfl (ex_load rfl (run_loadRow bqb2 Try.underlying26 rfl hi10)) ?_; go_frame)
    | ((with_reducible refine at_none 26 2 26 ?_); refine wpList_store_row rfl 26 (.tmp 2) (.tmp 26) rfl (m + 1) (nodeC n (.slice A90 n.map.length k90) (.slice A91 n.names.length k91) (.slice A92 n.log.length k92)) rfl rfl 26 zeroNode bzb2 hi10 rfl hone ?_; go_frame))
  have bf := bzb2.row (nodeC n (.slice A90 n.map.length k90) (.slice A91 n.names.length k91) (.slice A92 n.log.length k92))
  have hl := run_loadVar_row (P := Try.prog) _ (m + 1) 26 26 _ (0, 0) _ bf Try.underlying26 rfl hi10
  have hmr : Mod (· = m + 1) wb2 (wb2.setRow (m + 1) (nodeC n (.slice A90 n.map.length k90) (.slice A91 n.names.length k91) (.slice A92 n.log.length k92))) := (Mod.refl (· = m + 1) wb2).setRow (.inr rfl) _
  refine ⟨rfl, .agg (nodeC n (.slice A90 n.map.length k90) (.slice A91 n.names.length k91) (.slice A92 n.log.length k92)), ?_, ?_⟩
  · simp [results, Try.results14, asAddr, hl]
  · refine ⟨_, _, _, rfl, ⟨?_, ?_, ?_⟩, hMb2.trans' hmr (fun g hg e => by omega)⟩
    · exact own_base (own_mod owb20 hmr (fun g hg e => by have := (own_blk owb20 hg).1; omega)) (by omega)
    · exact own_base (own_mod owb21 hmr (fun g hg e => by have := (own_blk owb21 hg).1; omega)) (by omega)
    · exact own_base (own_mod owb22 hmr (fun g hg e => by have := (own_blk owb22 hg).1; omega)) (by omega)
end Go.Proofs.Ytabebkffcmajkaa
