import Derived.Test.YtmamdacmpikdbaaNL0
import Derived.LoopN
import Derived.Deep.CutRange
/-! The walk of NamesLate. -/
namespace Go.Proofs.Ytmamdacmpikdbaa
open Go.RowKit Go.Maps Go.Shelf
attribute [local go_sem] quietV loudUpon Oper.semAt_some

set_option maxRecDepth 100000 in
set_option maxHeartbeats 20000000 in
theorem late_any (w : World) (v : Value) (ops : List OpD) (dir : Int) (nm : ByteArray) (tn : Int) (hO : OpsAt w v ops) (hdir : I64 dir) (hto : I64 tn) :
    Calls Try.prog 8 #[v, .int .i64 dir, .string nm, .int .i64 tn] w fun e w' => e = .returned (.bool true) ∧ Mod None_ w w' := by
  have hR := fillRows_length ops
  have hlen := hO.len
  have hRl : (fillRows ops).length ≤ 2513169434843 := by omega
  obtain ⟨R, hRe⟩ : ∃ R, R = fillRows ops := ⟨_, rfl⟩
  have HE := hide hRe
  rw [← hRe] at hRl
  clear hRe hR hlen
  obtain ⟨hdl, hdr⟩ := hdir
  obtain ⟨htl, htr⟩ := hto
  have hdb := inoOf_bd dir
  refine calls_of_wp_marks 3 Try.func8 rfl ?_
  simp only [Try.ntmps8, List.size_toArray, List.length_cons, List.length_nil, Nat.reduceAdd, Nat.reduceSub, Array.replicate_succ, Array.replicate_zero, List.push_toArray, List.append_toArray, List.nil_append, List.cons_append]
  go_wp2_with fail
  obtain ⟨m0, hm0⟩ : ∃ m, m = w.heap.size := ⟨_, rfl⟩
  obtain ⟨w1, hw1⟩ : ∃ w1, w1 = w.alloc (.cells #[.bool false] 4) := ⟨_, rfl⟩
  have hM1 : Mod None_ w w1 := by rw [hw1]; exact (Mod.refl _ w).alloc _
  have b0 : Blk w1 m0 4 #[.bool false] := by rw [hw1, hm0]; exact Blk.new w 4 _
  have hm0g : w.heap.size ≤ m0 := by omega
  rw [← hm0, ← hw1]
  have hO1 := hO.mod hM1
  clear hm0 hw1 hO
  refine (filled_any w1 v ops hO1).mono ?_
  rintro e w2 ⟨rfl, hI2, hM2⟩
  rw [← HE.out] at hI2
  have hb0 := b0.lt
  obtain ⟨b, hb⟩ : ∃ b, b = w1.heap.size := ⟨_, rfl⟩
  have hge : w1.heap.size ≤ b := by omega
  rw [← hb] at hI2 ⊢
  replace b0 := b0.mod hM2 id
  replace hM2 := hM1.trans hM2
  clear hb hM1 hO1 HE
  obtain ⟨mx, hmx⟩ : ∃ m, m = w2.heap.size := ⟨_, rfl⟩
  obtain ⟨w3, hw3⟩ : ∃ w3, w3 = w2.alloc (.cells #[.pointer (some ⟨b + 3, 0, none⟩)] 24) := ⟨_, rfl⟩
  have hm3 : Mod None_ w2 w3 := by rw [hw3]; exact (Mod.refl _ w2).alloc _
  have bx : Blk w3 mx 24 #[.pointer (some ⟨b + 3, 0, none⟩)] := by rw [hw3, hmx]; exact Blk.new w2 24 _
  have hbx : b + 4 ≤ mx := by have := hI2.lt; omega
  replace b0 := b0.mod hm3 id
  have hI3 := hI2.kept hm3
  have hM3 := hM2.trans hm3
  have cx := bx.cell 0
  clear hI2 hM2 hm3
  have HW3 := hide hw3
  have HMX := hide hmx
  clear hw3 hmx
  go_wp2_with fail
  rw [← HW3.out, ← HMX.out]
  clear HW3 HMX
  refine (first_any w3).mono ?_
  rintro e w4 ⟨rfl, hm4⟩
  have hI4 := hI3.kept hm4
  have hM4 := hM3.trans hm4
  replace b0 := b0.mod hm4 id
  replace bx := bx.mod hm4 id
  replace cx := bx.cell 0
  clear hI3 hM3 hm4
  go_wp2_with fail
  refine (ino_any dir w4 hdl hdr).mono ?_
  rintro e w5 ⟨rfl, rfl⟩
  obtain ⟨d, hd⟩ : ∃ d, d = inoOf dir := ⟨_, rfl⟩
  rw [← hd] at hdb ⊢
  have hwd : (Lit.int .i64 d).wf = true := wf_i64 (by omega) (by omega)
  clear hd
  replace cx : w4.cell? ⟨mx, 0, none⟩ = some (.pointer (some ⟨b + 3, 0, none⟩)) := bx.cell 0
  obtain ⟨md, hmd⟩ : ∃ m, m = w4.heap.size := ⟨_, rfl⟩
  obtain ⟨w5, hw5⟩ : ∃ w', w' = w4.alloc (.cells #[.int .i64 d] 3) := ⟨_, rfl⟩
  have hmw5 : Mod None_ w4 w5 := by rw [hw5]; exact (Mod.refl _ w4).alloc _
  have bd : Blk w5 md 3 #[.int .i64 d] := by rw [hw5, hmd]; exact Blk.new w4 3 _
  have hltmd : mx < md := by rw [hmd]; exact bx.lt
  have Hw5 := hide hw5
  have Hmd := hide hmd
  clear hw5 hmd
  have cx5 : (w4.alloc (.cells #[.int .i64 d] 3)).cell? ⟨mx, 0, none⟩ = some (.pointer (some ⟨b + 3, 0, none⟩)) := by rw [← Hw5.out]; exact (bx.mod hmw5 id).cell 0
  skip
  go_wp2_with fail
  clear cx5
  rw [← Hw5.out, ← Hmd.out]
  clear Hw5 Hmd
  replace b0 := b0.mod hmw5 (by first | exact id | omega | (unfold Ix; omega) | (unfold LateS Ix; omega))
  replace bx := bx.mod hmw5 (by first | exact id | omega | (unfold Ix; omega) | (unfold LateS Ix; omega))
  have hI5 := hI4.kept hmw5
  have hM5 := hM4.trans hmw5
  clear hI4 hM4 hmw5 cx
  refine (drop_any w5 b R d mB (by omega) hwd hI5).mono ?_
  rintro e w6 ⟨rfl, hm6, hI6⟩
  have hwb : w.heap.size ≤ b ∧ m0 < b := by omega
  have hix : ∀ {g : Nat}, b + 4 ≤ g → ¬ Ix b g := fun h e => by unfold Ix at e; omega
  have hi0 : ¬ Ix b m0 := fun e => by unfold Ix at e; omega
  have hM6 : Mod None_ w w6 := hM5.trans' hm6 (fun k hk e => by unfold Ix at e; omega)
  replace b0 := b0.mod hm6 hi0
  replace bx := bx.mod hm6 (hix (by omega))
  replace bd := bd.mod hm6 (hix (by omega))
  have cx : w6.cell? ⟨mx, 0, none⟩ = some (.pointer (some ⟨b + 3, 0, none⟩)) := bx.cell 0
  have cd : w6.cell? ⟨md, 0, none⟩ = some (.int .i64 d) := bd.cell 0
  have hl1 := drop_length R d mB
  clear hI5 hM5 hm6
  go_wp2_with fail
  refine (drop_any w6 b (dropRows R d mB) d nm (by omega) hwd hI6).mono ?_
  rintro e w7 ⟨rfl, hm7, hI7⟩
  have hM7 : Mod None_ w w7 := hM6.trans' hm7 (fun k hk e => by unfold Ix at e; omega)
  replace b0 := b0.mod hm7 hi0
  replace bx := bx.mod hm7 (hix (by omega))
  replace bd := bd.mod hm7 (hix (by omega))
  replace cx : w7.cell? ⟨mx, 0, none⟩ = some (.pointer (some ⟨b + 3, 0, none⟩)) := bx.cell 0
  replace cd : w7.cell? ⟨md, 0, none⟩ = some (.int .i64 d) := bd.cell 0
  have hl2 := drop_length (dropRows R d mB) d nm
  clear hI6 hM6 hm7
  go_wp2_with fail
  refine (all_call w7 b d).mono ?_
  rintro e w8 ⟨rfl, hw8⟩
  obtain ⟨mi, hmi⟩ : ∃ m, m = w7.heap.size := ⟨_, rfl⟩
  have hm8 : Mod None_ w7 w8 := by rw [hw8]; exact ((Mod.refl _ w7).alloc _).alloc _
  have b3 : Blk w8 mi 24 #[.pointer (some ⟨b + 3, 0, none⟩)] := by rw [hw8, hmi]; exact (Blk.new w7 24 _).alloc _
  have b4 : Blk w8 (mi + 1) 3 #[.int .i64 d] := by
    have := Blk.new (w7.alloc (.cells #[.pointer (some ⟨b + 3, 0, none⟩)] 24)) 3 #[.int .i64 d]
    rw [← hw8, alloc_size, ← hmi] at this
    exact this
  have hlti : md < mi := by rw [hmi]; exact bd.lt
  rw [← hmi]
  clear hmi hw8
  replace b0 := b0.mod hm8 (by first | exact id | omega | (unfold Ix; omega) | (unfold LateS Ix; omega))
  replace bx := bx.mod hm8 (by first | exact id | omega | (unfold Ix; omega) | (unfold LateS Ix; omega))
  replace bd := bd.mod hm8 (by first | exact id | omega | (unfold Ix; omega) | (unfold LateS Ix; omega))
  have hI8 := hI7.kept hm8
  have hM8 := hM7.trans hm8
  replace cx : w8.cell? ⟨mx, 0, none⟩ = some (.pointer (some ⟨b + 3, 0, none⟩)) := bx.cell 0
  replace cd : w8.cell? ⟨md, 0, none⟩ = some (.int .i64 d) := bd.cell 0
  clear hI7 hM7 hm8
  go_wp2_with fail
  obtain ⟨n, hn⟩ : ∃ n, n = inoOf tn := ⟨_, rfl⟩
  have hnb := inoOf_bd tn
  have hni := inoOf_isInode tn
  have hdi : isInodeB d = true := by simp [isInodeB, hdb]
  rw [← hn] at hnb hni
  have HN := hide hn
  clear hn
  have hfe : ∀ w : World, (binOp .eql 46 (.func (.func 42) #[] #[.pointer (some ⟨mi, 0, none⟩), .pointer (some ⟨mi + 1, 0, none⟩)]) .nilFunc).run Try.prog w = .ok (.bool false) w := fun w => by rfl
  refine region_mxw [(true, 0), (true, 1), (true, 2), (true, 3), (true, 4), (true, 5), (false, 6), (false, 7), (true, 8), (true, 9)] (fun w' => w'.cell? ⟨mx, 0, none⟩ = some (.pointer (some ⟨b + 3, 0, none⟩)) ∧ w'.cell? ⟨md, 0, none⟩ = some (.int .i64 d)) (by kernel_rfl) (by kernel_rfl) ?_
  rintro w9 hw9
  have hm9 : Mod None_ w8 w9 := by rw [hw9]; exact (Mod.refl None_ w8).drew
  replace b0 := b0.mod hm9 (by first | exact id | omega | (unfold Ix; omega) | (unfold LateS Ix; omega))
  replace bx := bx.mod hm9 (by first | exact id | omega | (unfold Ix; omega) | (unfold LateS Ix; omega))
  replace bd := bd.mod hm9 (by first | exact id | omega | (unfold Ix; omega) | (unfold LateS Ix; omega))
  replace b3 := b3.mod hm9 (by first | exact id | omega | (unfold Ix; omega) | (unfold LateS Ix; omega))
  replace b4 := b4.mod hm9 (by first | exact id | omega | (unfold Ix; omega) | (unfold LateS Ix; omega))
  have hI9 := hI8.kept hm9
  have hM9 := hM8.trans hm9
  replace cx : w9.cell? ⟨mx, 0, none⟩ = some (.pointer (some ⟨b + 3, 0, none⟩)) := bx.cell 0
  replace cd : w9.cell? ⟨md, 0, none⟩ = some (.int .i64 d) := bd.cell 0
  clear hw9 hm9 hI8 hM8
  refine ⟨⟨cx, cd⟩, ?_⟩
  iterate 6 (refine mxw_quiet rfl (fun w' ⟨i1, i2⟩ K hK => by go_simp; exact hK) ?_; go_frame)
  refine mxw_loud rfl (fun K hK => ?_)
  go_simp
  refine (ino_any tn w9 htl htr).mono ?_
  rw [← HN.out]
  rintro e w10 ⟨rfl, rfl⟩
  refine ⟨_, rfl, ⟨cx, cd⟩, hK _ _ ?_⟩
  clear hK K
  try go_frame
  refine mxw_loud rfl (fun K hK => ?_)
  go_simp
  refine (put_eq w9 b (dropRows (dropRows R d mB) d nm) _ d mB n 0 (by omega) hI9 (late_put nm hdi hni) rfl).mono ?_
  rintro e w10 ⟨rfl, hm10, hI10⟩
  obtain ⟨hpr, _⟩ := putRows_zero (late_put nm hdi hni (R := R) (d := d) (n := n))
  rw [hpr] at hI10
  have hM10 : Mod None_ w w10 := hM9.trans' hm10 (fun k hk e => by unfold Ix at e; omega)
  replace b0 := b0.mod hm10 hi0
  replace bx := bx.mod hm10 (hix (by omega))
  replace bd := bd.mod hm10 (hix (by omega))
  replace b3 := b3.mod hm10 (hix (by omega))
  replace b4 := b4.mod hm10 (hix (by omega))
  replace cx : w10.cell? ⟨mx, 0, none⟩ = some (.pointer (some ⟨b + 3, 0, none⟩)) := bx.cell 0
  replace cd : w10.cell? ⟨md, 0, none⟩ = some (.int .i64 d) := bd.cell 0
  clear hI9 hM9 hm10 hpr hfe
  refine ⟨_, rfl, ⟨cx, cd⟩, hK _ _ ?_⟩
  clear hK K
  try go_frame
  iterate 2 (refine mxw_quiet rfl (fun w' ⟨i1, i2⟩ K hK => by go_simp; exact hK) ?_; go_frame)
  refine mxw_nil ?_
  go_upto_region 10 with fail
  obtain ⟨R1, hR1⟩ : ∃ R1, R1 = dropRows (dropRows R d mB) d nm := ⟨_, rfl⟩
  rw [← hR1] at hI10 hl2
  have hRl1 : R1.length ≤ 2513169434843 := by omega
  have HR1 := hide hR1
  clear hR1
  go_cut [62] from 47 to 62 (fun s wx => s = .bool false ∧ (∃ R2 : List Row, IndexAt wx b R2 ∧ findIno R2 d mB ≠ 0 ∧ R2.length ≤ 2513169434850) ∧ Mod None_ w wx ∧ Blk wx m0 4 #[.bool false] ∧ Blk wx mx 24 #[.pointer (some ⟨b + 3, 0, none⟩)] ∧ Blk wx md 3 #[.int .i64 d] ∧ Blk wx mi 24 #[.pointer (some ⟨b + 3, 0, none⟩)] ∧ Blk wx (mi + 1) 3 #[.int .i64 d])
  case first =>
    refine region_mxw [(true, 0), (false, 1), (true, 2), (true, 3), (true, 4), (true, 5), (true, 6), (true, 7), (true, 8), (true, 9), (true, 10), (false, 11), (false, 12), (true, 13), (true, 14)] (fun w' => w'.cell? ⟨mx, 0, none⟩ = some (.pointer (some ⟨b + 3, 0, none⟩)) ∧ w'.cell? ⟨md, 0, none⟩ = some (.int .i64 d)) (by kernel_rfl) (by kernel_rfl) ?_
    rintro w11 hw11
    have hm : Mod None_ w10 w11 := by rw [hw11]; exact (Mod.refl None_ w10).drew
    replace b0 := b0.mod hm (by first | exact id | omega | (unfold Ix; omega) | (unfold LateS Ix; omega))
    replace bx := bx.mod hm (by first | exact id | omega | (unfold Ix; omega) | (unfold LateS Ix; omega))
    replace bd := bd.mod hm (by first | exact id | omega | (unfold Ix; omega) | (unfold LateS Ix; omega))
    replace b3 := b3.mod hm (by first | exact id | omega | (unfold Ix; omega) | (unfold LateS Ix; omega))
    replace b4 := b4.mod hm (by first | exact id | omega | (unfold Ix; omega) | (unfold LateS Ix; omega))
    replace hI10 := hI10.kept hm
    replace hM10 := hM10.trans hm
    replace cx : w11.cell? ⟨mx, 0, none⟩ = some (.pointer (some ⟨b + 3, 0, none⟩)) := bx.cell 0
    replace cd : w11.cell? ⟨md, 0, none⟩ = some (.int .i64 d) := bd.cell 0
    clear hw11 hm
    refine ⟨⟨cx, cd⟩, ?_⟩
    refine mxw_quiet rfl (fun w' ⟨i1, i2⟩ K hK => by go_simp; exact hK) ?_
    go_frame
    refine mxw_loud rfl (fun K hK => ?_)
    go_simp
    refine (good_any nm w11).mono ?_
    rintro e w12 ⟨rfl, rfl⟩
    by_cases hcg : goodName nm = true
    · rw [hcg]
      refine ⟨_, rfl, ⟨cx, cd⟩, hK _ _ ?_⟩
      clear hK K
      try go_frame
      by_cases hcs : nm = mB
      · have ep : nm.toList = [109] := by have := mB_iff (x := nm); rw [decide_eq_true hcs] at this; simpa using this
        clear hcs
        iterate 9 (refine mxw_quiet rfl (fun w' ⟨i1, i2⟩ K hK => by go_simp; exact hK) ?_; go_frame)
        clear ep
        iterate 2 (refine mxw_loud rfl (fun K hK => ?_); go_simp; refine hK _ _ ?_; clear hK K; try go_frame)
        iterate 2 (refine mxw_quiet rfl (fun w' ⟨i1, i2⟩ K hK => by go_simp; exact hK) ?_; go_frame)
        refine mxw_nil ?_
        go_wp2_with fail
        go_meet
        case rel => exact ⟨rfl, ⟨_, hI10, by rw [findIno_cons_same]; omega, by simp only [List.length_cons]; omega⟩, hM10, b0, bx, bd, b3, b4⟩
      · have ep : ¬ nm.toList = [109] := by have := mB_iff (x := nm); rw [decide_eq_false hcs] at this; simpa using this
        iterate 9 (refine mxw_quiet rfl (fun w' ⟨i1, i2⟩ K hK => by go_simp; exact hK) ?_; go_frame)
        have hpe : putErr (⟨d, mB, n⟩ :: R1) d nm n = 0 := by rw [HR1.out]; exact late_put2 hdi hni hcg hcs
        obtain ⟨hpr, _⟩ := putRows_zero hpe
        have HPE := hide hpe
        have HPR := hide hpr
        clear hpe hpr
        refine mxw_loud rfl (fun K hK => ?_)
        go_simp
        refine (ino_any tn w11 htl htr).mono ?_
        rw [← HN.out]
        rintro e w13 ⟨rfl, rfl⟩
        refine ⟨_, rfl, ⟨cx, cd⟩, hK _ _ ?_⟩
        clear hK K
        try go_frame
        refine mxw_loud rfl (fun K hK => ?_)
        go_simp
        refine (put_eq w11 b (⟨d, mB, n⟩ :: R1) _ d nm n 0 (by simp only [List.length_cons]; omega) hI10 HPE.out rfl).mono ?_
        rintro e w13 ⟨rfl, hm, hI11⟩
        rw [HPR.out] at hI11
        replace b0 := b0.mod hm (by first | exact id | omega | (unfold Ix; omega) | (unfold LateS Ix; omega))
        replace bx := bx.mod hm (by first | exact id | omega | (unfold Ix; omega) | (unfold LateS Ix; omega))
        replace bd := bd.mod hm (by first | exact id | omega | (unfold Ix; omega) | (unfold LateS Ix; omega))
        replace b3 := b3.mod hm (by first | exact id | omega | (unfold Ix; omega) | (unfold LateS Ix; omega))
        replace b4 := b4.mod hm (by first | exact id | omega | (unfold Ix; omega) | (unfold LateS Ix; omega))
        replace hM10 := hM10.trans' hm (fun k hk e => by first | exact e.elim | (unfold Ix at e; omega) | omega)
        replace cx : w13.cell? ⟨mx, 0, none⟩ = some (.pointer (some ⟨b + 3, 0, none⟩)) := bx.cell 0
        replace cd : w13.cell? ⟨md, 0, none⟩ = some (.int .i64 d) := bd.cell 0
        refine ⟨_, rfl, ⟨cx, cd⟩, hK _ _ ?_⟩
        clear hK K hm
        try go_frame
        iterate 2 (refine mxw_quiet rfl (fun w' ⟨i1, i2⟩ K hK => by go_simp; exact hK) ?_; go_frame)
        refine mxw_nil ?_
        go_wp2_with fail
        go_meet
        case rel => exact ⟨rfl, ⟨_, hI11, by rw [findIno_cons_ne (Ne.symm hcs), findIno_cons_same]; omega, by simp only [List.length_cons]; omega⟩, hM10, b0, bx, bd, b3, b4⟩
    · rw [Bool.eq_false_iff.2 hcg]
      refine ⟨_, rfl, ⟨cx, cd⟩, hK _ _ ?_⟩
      clear hK K
      try go_frame
      iterate 9 (refine mxw_quiet rfl (fun w' ⟨i1, i2⟩ K hK => by go_simp; exact hK) ?_; go_frame)
      iterate 2 (refine mxw_loud rfl (fun K hK => ?_); go_simp; refine hK _ _ ?_; clear hK K; try go_frame)
      iterate 2 (refine mxw_quiet rfl (fun w' ⟨i1, i2⟩ K hK => by go_simp; exact hK) ?_; go_frame)
      refine mxw_nil ?_
      go_wp2_with fail
      go_meet
      case rel => exact ⟨rfl, ⟨_, hI10, by rw [findIno_cons_same]; omega, by simp only [List.length_cons]; omega⟩, hM10, b0, bx, bd, b3, b4⟩
  case rest =>
    obtain ⟨rfl, ⟨R0, hI, hz, hRl0⟩, hM, b0, bx, bd, b3, b4⟩ := hcut
    have hMw : mi + 1 < wc.heap.size := b4.lt
    clear hI10 HR1 hM10 hdi hni HN cx cd hl1 hl2 hRl1
    go_wp2_with fail
    obtain ⟨mr, hmr⟩ : ∃ m, m = wc.heap.size := ⟨_, rfl⟩
    obtain ⟨V0, hV0⟩ : ∃ w', w' = (wc.alloc (Obj.cells #[.int .i64 0] 3)) := ⟨_, rfl⟩
    have hmV0 : Mod None_ wc V0 := by rw [hV0]; exact (Mod.refl _ wc).alloc _
    have br : Blk V0 mr 3 #[.int .i64 0] := by
      have := (Blk.new wc 3 #[.int .i64 0])
      rw [← hV0, ← hmr] at this
      exact this
    have hltmr : (mi + 1) < mr := by rw [hmr]; exact b4.lt
    have HV0 := hide hV0
    have Hmr := hide hmr
    clear hV0 hmr
    rw [← HV0.out, ← Hmr.out]
    clear HV0 Hmr
    have hltr : mi + 1 < mr := hltmr
    replace b0 := b0.mod hmV0 (by first | exact id | omega | (unfold Ix; omega) | (unfold LateS Ix; omega))
    replace bx := bx.mod hmV0 (by first | exact id | omega | (unfold Ix; omega) | (unfold LateS Ix; omega))
    replace bd := bd.mod hmV0 (by first | exact id | omega | (unfold Ix; omega) | (unfold LateS Ix; omega))
    replace b3 := b3.mod hmV0 (by first | exact id | omega | (unfold Ix; omega) | (unfold LateS Ix; omega))
    replace b4 := b4.mod hmV0 (by first | exact id | omega | (unfold Ix; omega) | (unfold LateS Ix; omega))
    replace hI := hI.kept hmV0
    replace hM := hM.trans hmV0
    clear hltmr hmV0
    have hmr0 : mi + 1 < mr := hltr
    refine wp_loop_rounds 4 ?_
    have hz0 := mets_one hI.ok hI.nodup hz
    rw [rounds_succ]
    replace cx : V0.cell? ⟨mx, 0, none⟩ = some (.pointer (some ⟨b + 3, 0, none⟩)) := bx.cell 0
    replace cd : V0.cell? ⟨md, 0, none⟩ = some (.int .i64 d) := bd.cell 0
    replace cr : V0.cell? ⟨mr, 0, none⟩ = some (.int .i64 0) := br.cell 0
    go_wp2_with fail
    refine (list_dents V0 b R0 d (by omega) hwd hI).mono ?_
    rintro e Va0 ⟨va0, rfl, hDa, hm⟩
    replace b0 := b0.mod hm (by first | exact id | omega | (unfold Ix; omega) | (unfold LateS Ix; omega))
    replace bx := bx.mod hm (by first | exact id | omega | (unfold Ix; omega) | (unfold LateS Ix; omega))
    replace bd := bd.mod hm (by first | exact id | omega | (unfold Ix; omega) | (unfold LateS Ix; omega))
    replace b3 := b3.mod hm (by first | exact id | omega | (unfold Ix; omega) | (unfold LateS Ix; omega))
    replace b4 := b4.mod hm (by first | exact id | omega | (unfold Ix; omega) | (unfold LateS Ix; omega))
    replace br := br.mod hm (by first | exact id | omega | (unfold Ix; omega) | (unfold LateS Ix; omega))
    replace hI := hI.kept hm
    replace hM := hM.trans hm
    replace cx : Va0.cell? ⟨mx, 0, none⟩ = some (.pointer (some ⟨b + 3, 0, none⟩)) := bx.cell 0
    replace cd : Va0.cell? ⟨md, 0, none⟩ = some (.int .i64 d) := bd.cell 0
    replace cr : Va0.cell? ⟨mr, 0, none⟩ = some (.int .i64 0) := br.cell 0
    clear hm
    have hlp : (listPairs R0 d).length ≤ 2513169434850 := by rw [listPairs_length]; have := cntDir_le R0 d; omega
    go_wp2_with fail
    refine (copy_any Va0 _ va0 _ hDa (by omega)).mono ?_
    rintro e Vb0 ⟨vb0, rfl, hDb, hm⟩
    have hlo : b + 4 ≤ Va0.heap.size := by have := bx.lt; omega
    replace b0 := b0.mod hm (by first | exact id | omega | (unfold Ix; omega) | (unfold LateS Ix; omega))
    replace bx := bx.mod hm (by first | exact id | omega | (unfold Ix; omega) | (unfold LateS Ix; omega))
    replace bd := bd.mod hm (by first | exact id | omega | (unfold Ix; omega) | (unfold LateS Ix; omega))
    replace b3 := b3.mod hm (by first | exact id | omega | (unfold Ix; omega) | (unfold LateS Ix; omega))
    replace b4 := b4.mod hm (by first | exact id | omega | (unfold Ix; omega) | (unfold LateS Ix; omega))
    replace br := br.mod hm (by first | exact id | omega | (unfold Ix; omega) | (unfold LateS Ix; omega))
    replace hI := hI.kept hm
    replace hM := hM.trans hm
    replace hDb := hDb.lo hlo
    clear hm hlo hDa cx cd cr
    obtain ⟨A0, k0, rfl, hc1, hc2, hA⟩ := id hDb
    have HD := hide hDb
    clear hA hDb
    obtain ⟨P0, hP⟩ : ∃ P, P = listPairs R0 d := ⟨_, rfl⟩
    have HP0 := hide hP
    rw [← hP] at hc1 hlp HD hz0 ⊢
    clear hP
    have hln : ∀ w, (Builtin.len_ #[28] 3 #[.slice A0 P0.length k0]).run Try.prog w = .ok (.int .i64 P0.length) w := fun w => by simp [Builtin.len_, run_underlying Try.underlying28]; rfl
    obtain ⟨ml0, hml0⟩ : ∃ m, m = Vb0.heap.size := ⟨_, rfl⟩
    obtain ⟨Vk0, hVk0⟩ : ∃ w', w' = (((Vb0.alloc (Obj.cells #[.slice A0 P0.length k0] 28)).alloc (Obj.cells #[.int .i64 0] 3)).alloc (Obj.cells #[.int .i64 0] 3)) := ⟨_, rfl⟩
    have hmVk0 : Mod None_ Vb0 Vk0 := by rw [hVk0]; exact (((Mod.refl _ Vb0).alloc _).alloc _).alloc _
    have bl : Blk Vk0 ml0 28 #[.slice A0 P0.length k0] := by
      have := (((Blk.new Vb0 28 #[.slice A0 P0.length k0]).alloc (Obj.cells #[.int .i64 0] 3)).alloc (Obj.cells #[.int .i64 0] 3))
      rw [← hVk0, ← hml0] at this
      exact this
    have bs : Blk Vk0 (ml0 + 1) 3 #[.int .i64 0] := by
      have := ((Blk.new (Vb0.alloc (Obj.cells #[.slice A0 P0.length k0] 28)) 3 #[.int .i64 0]).alloc (Obj.cells #[.int .i64 0] 3))
      rw [← hVk0, alloc_size, ← hml0] at this
      exact this
    have bt : Blk Vk0 (ml0 + 2) 3 #[.int .i64 0] := by
      have := (Blk.new ((Vb0.alloc (Obj.cells #[.slice A0 P0.length k0] 28)).alloc (Obj.cells #[.int .i64 0] 3)) 3 #[.int .i64 0])
      rw [← hVk0, alloc_size, alloc_size, ← hml0] at this
      exact this
    have hltml0 : mr < ml0 := by rw [hml0]; exact br.lt
    have HVk0 := hide hVk0
    have Hml0 := hide hml0
    clear hVk0 hml0
    go_wp2_with fail
    rw [← HVk0.out, ← Hml0.out]
    clear HVk0 Hml0
    replace b0 := b0.mod hmVk0 (by first | exact id | omega | (unfold Ix; omega) | (unfold LateS Ix; omega))
    replace bx := bx.mod hmVk0 (by first | exact id | omega | (unfold Ix; omega) | (unfold LateS Ix; omega))
    replace bd := bd.mod hmVk0 (by first | exact id | omega | (unfold Ix; omega) | (unfold LateS Ix; omega))
    replace b3 := b3.mod hmVk0 (by first | exact id | omega | (unfold Ix; omega) | (unfold LateS Ix; omega))
    replace b4 := b4.mod hmVk0 (by first | exact id | omega | (unfold Ix; omega) | (unfold LateS Ix; omega))
    replace br := br.mod hmVk0 (by first | exact id | omega | (unfold Ix; omega) | (unfold LateS Ix; omega))
    replace hI := hI.kept hmVk0
    replace hM := hM.trans hmVk0
    replace HD := hide (HD.out.mod hmVk0 (fun _ _ f => f))
    clear hmVk0
    rw [show ml0 + 1 + 1 = ml0 + 2 from rfl]
    have hVs : ml0 + 2 < Vk0.heap.size := bt.lt
    have hst := all_stopsR 2 (by omega) Vk0 b R0 d mi (mi + 1) (by omega) hwd hI (b3.cell 0) (b4.cell 0) (by omega) (by omega)
    rw [← HP0.out] at hst
    refine wp_range_mid 3 (by omega) (gf := 42) (lb := #[.pointer (some ⟨mi, 0, none⟩), .pointer (some ⟨mi + 1, 0, none⟩)]) rfl (enters_of Try.func42 (by kernel_rfl) rfl) hst (fun h k => h.trans k) (fun U l o o' _ h ho _ => KpR.putObj U l o o' h ho) (Below.refl _ _) (fun _ => rfl)
      (LateI 0 b ml0 R0 d P0 Vk0) (LateX 0 b ml0 R0 d P0 Vk0) 2 (LateF 0 b ml0 R0 d P0 Vk0)
      (fun pre A B row h hg hr => ⟨h.1, h.2.grown (by omega) (by omega) hg hr⟩) (fun c pre A B row h hg hr => h.imp id fun ⟨q1, q2, q3, q4⟩ => ⟨q1, q2, q3, q4.grown (by omega) (by omega) hg hr⟩)
      ⟨⟨List.nil_prefix, fun _ => rfl⟩, bs, bt, hI, Mod.refl _ _⟩ ?done0 ?stop0 ?body0 ?rest0
    case done0 =>
      rintro xs U hxs ⟨⟨hp, h1⟩, h2⟩
      obtain rfl : P0 = xs := hxs.symm
      exact ⟨_, List.prefix_refl _, fun e => by rw [h1 e]; rfl, fun _ => rfl, h2⟩
    case stop0 =>
      rintro c pre U hp (⟨rfl, h⟩ | ⟨rfl, e, h1, h2⟩)
      · exact absurd hp h
      · exact ⟨rfl, pre, hp, fun _ => by have := hp.length_le; omega, fun h => absurd e h, h2⟩
    case body0 =>
      apply Exists.intro
      refine ⟨?_, ?_⟩
      · intro l x U K hK
        gi_wp2
        exact hK
      · rintro l pre x U ⟨⟨hpre, hone⟩, hL⟩ hlt
        have cl : U.cell? ⟨ml0, 0, none⟩ = some (.slice A0 P0.length k0) := (bl.mod hL.mod (by unfold LateS Ix; omega)).cell 0
        have cr : U.cell? ⟨mr, 0, none⟩ = some (.int .i64 0) := (br.mod hL.mod (by unfold LateS Ix; omega)).cell 0
        have cx : U.cell? ⟨mx, 0, none⟩ = some (.pointer (some ⟨b + 3, 0, none⟩)) := (bx.mod hL.mod (by unfold LateS Ix; omega)).cell 0
        have cd : U.cell? ⟨md, 0, none⟩ = some (.int .i64 d) := (bd.mod hL.mod (by unfold LateS Ix; omega)).cell 0
        have c0 : U.cell? ⟨m0, 0, none⟩ = some (.bool false) := (b0.mod hL.mod (by unfold LateS Ix; omega)).cell 0
        have f0 : U.frozen? ⟨m0, 0, none⟩ = false := (b0.mod hL.mod (by unfold LateS Ix; omega)).frozen 0
        have cs : U.cell? ⟨ml0 + 1, 0, none⟩ = some (.int .i64 pre.length) := hL.seen.cell 0
        have fs : U.frozen? ⟨ml0 + 1, 0, none⟩ = false := hL.seen.frozen 0
        have ct : U.cell? ⟨ml0 + 2, 0, none⟩ = some (.int .i64 (mets pre)) := hL.met.cell 0
        have ft : U.frozen? ⟨ml0 + 2, 0, none⟩ = false := hL.met.frozen 0
        obtain ⟨g, hg, x0, x1⟩ := late_elem hL.mod HD.out (Nat.le_refl _) bs bt hlt
        subst hg
        have hlt' : (pre.length : Int) < P0.length := by omega
        have hge : ¬ P0.length ≤ pre.length := by omega
        have hmp := mets_le pre
        have HPP := hide (late_next (x := x) hpre hlt)
        have HNP := hide (late_no (x := x) hlt)
        obtain ⟨p, hp⟩ : ∃ p, p = P0[pre.length] := ⟨_, rfl⟩
        rw [← hp] at x0 x1 HNP HPP
        have K0 : KeepsFrom Vk0.heap.size U (U.setCell ⟨m0, 0, none⟩ (.bool false)) := KeepsFrom.of_mod ((Mod.refl (· = m0) U).setCell (p := ⟨m0, 0, none⟩) (.inr rfl) _) (fun k hk _ e => by omega)
        have HK0 := hide K0
        clear hp K0
        by_cases h0 : p.1 = x.1
        · by_cases h1 : p.2 = x.2
          · have e0 : (p.1.toList == x.1.toList) = true := by rw [h0]; simp
            have e1 : (p.2 != x.2) = false := by rw [bne_eq_false_iff_eq]; exact h1
            have hpx := HPP.out (Prod.ext h0 h1)
            have hms := mets_prefix hpx
            have hsn := mets_snoc pre x
            have HPX := hide hpx
            have HONE := hide hone
            clear hpx h0 h1 hone hpre
            by_cases hx : x.1 = mB
            · rw [if_pos hx] at hsn
              have hm0 : mets pre = 0 := by omega
              have em : (x.1.toList == [109]) = true := by rw [mB_iff]; exact decide_eq_true hx
              obtain ⟨t1, t2, t3, t4, t5⟩ := late_three hL hx hVs (by omega)
              have hrw : lateRows 0 R0 d pre = R0 := by unfold lateRows; rw [if_neg (by omega)]
              rw [hrw] at t3
              obtain ⟨W1, hW1⟩ : ∃ W1, W1 = (U.setCell ⟨ml0 + 2, 0, none⟩ (.int .i64 (mets pre + 1))).setCell ⟨ml0 + 1, 0, none⟩ (.int .i64 (pre.length + 1)) := ⟨_, rfl⟩
              rw [← hW1] at t1 t2 t3 t4 t5
              have cx1 : ((U.setCell ⟨ml0 + 2, 0, none⟩ (.int .i64 (mets pre + 1))).setCell ⟨ml0 + 1, 0, none⟩ (.int .i64 (pre.length + 1))).cell? ⟨mx, 0, none⟩ = some (.pointer (some ⟨b + 3, 0, none⟩)) := by rw [← hW1]; exact (World.cell?_of_block (t5.block mx (block_lt_of_cell cx) (by omega))).trans cx
              have cd1 : ((U.setCell ⟨ml0 + 2, 0, none⟩ (.int .i64 (mets pre + 1))).setCell ⟨ml0 + 1, 0, none⟩ (.int .i64 (pre.length + 1))).cell? ⟨md, 0, none⟩ = some (.int .i64 d) := by rw [← hW1]; exact (World.cell?_of_block (t5.block md (block_lt_of_cell cd) (by omega))).trans cd
              have cr1 : ((U.setCell ⟨ml0 + 2, 0, none⟩ (.int .i64 (mets pre + 1))).setCell ⟨ml0 + 1, 0, none⟩ (.int .i64 (pre.length + 1))).cell? ⟨mr, 0, none⟩ = some (.int .i64 0) := by rw [← hW1]; exact (World.cell?_of_block (t5.block mr (block_lt_of_cell cr) (by omega))).trans cr
              have hm1 : mets (pre ++ [x]) ≠ 0 := by omega
              have hrw2 : lateRows 0 R0 d (pre ++ [x]) = dropRows R0 d x.1 := by unfold lateRows; rw [if_pos ⟨rfl, hm1⟩, hx]
              have HW1 := hide hW1
              have HRW := hide hrw2
              clear hW1 hrw hrw2 hm0 hsn hms hm1 hL hx
              gi_wp2_with fail
              refine ⟨trivial, ?_⟩
              rw [← HW1.out] at cx1 cd1 cr1 ⊢
              clear x0 x1 cs fs ct ft cl cx cd cr c0 f0 e0 e1 em
              refine (CallsIn.inRound l (callsIn_wide.2 (drop_eqL W1 b R0 d x.1 (by omega) hwd t3))).mono ?_
              rintro e W2 ⟨rfl, hm2, hi2⟩
              have cr2 : W2.cell? ⟨mr, 0, none⟩ = some (.int .i64 0) := (World.cell?_of_block (hm2.block mr (block_lt_of_cell cr1) (by unfold Ix; omega))).trans cr1
              have hmU : Mod (fun k => Ix b k ∨ k = ml0 + 1 ∨ k = ml0 + 2) U W2 := (t5.mono (T := fun k => Ix b k ∨ k = ml0 + 1 ∨ k = ml0 + 2) fun k _ e => .inr e).trans' hm2 fun k _ e => .inl e
              have q1 : KeepsFrom Vk0.heap.size U W2 := KeepsFrom.of_mod hmU (fun k hk _ e => by unfold Ix at e; omega)
              have q2 : KpR Vk0.heap.size U W2 := hmU.kpR (fun k hk _ e => by unfold Ix at e; omega)
              have q3 : LateAt 0 b ml0 R0 d Vk0 (pre ++ [x]) W2 := ⟨t1.mod hm2 (by unfold Ix; omega), t2.mod hm2 (by unfold Ix; omega), by rw [HRW.out]; exact hi2, t4.trans' hm2 fun k _ e => .inl e⟩
              have Q1 := hide q1
              have Q2 := hide q2
              have Q3 := hide q3
              clear q1 q2 q3 hmU hm2 hi2 t1 t2 t3 t4 t5 cx1 cd1 cr1
              gi_wp2
              exact ⟨Q1.out, Q2.out, ⟨HPX.out, fun e => by omega⟩, Q3.out⟩
            · have em : (x.1.toList == [109]) = false := by rw [mB_iff]; exact decide_eq_false hx
              have q3 := late_two hL hx hVs (by omega)
              have hm : Mod (· = ml0 + 1) U (U.setCell ⟨ml0 + 1, 0, none⟩ (.int .i64 (pre.length + 1))) := (Mod.refl (· = ml0 + 1) U).setCell (p := ⟨ml0 + 1, 0, none⟩) (.inr rfl) _
              have q1 : KeepsFrom Vk0.heap.size U (U.setCell ⟨ml0 + 1, 0, none⟩ (.int .i64 (pre.length + 1))) := KeepsFrom.of_mod hm (fun k hk _ e => by omega)
              have q2 : KpR Vk0.heap.size U (U.setCell ⟨ml0 + 1, 0, none⟩ (.int .i64 (pre.length + 1))) := hm.kpR (fun k hk _ e => by omega)
              have Q1 := hide q1
              have Q2 := hide q2
              have Q3 := hide q3
              clear q1 q2 q3 hm hL hx hsn hms
              gi_wp2
              exact ⟨Q1.out, Q2.out, ⟨HPX.out, fun e => by omega⟩, Q3.out⟩
          · have e0 : (p.1.toList == x.1.toList) = true := by rw [h0]; simp
            have e1 : (p.2 != x.2) = true := by rw [bne_iff_ne]; exact h1
            have HNO := hide (HNP.out (fun e => h1 (by rw [e])))
            clear h0 h1 hone hpre hL
            gi_wp2
            exact ⟨HK0.out, .inl ⟨rfl, HNO.out⟩⟩
        · have e0 : (p.1.toList == x.1.toList) = false := by
            rw [beq_eq_false_iff_ne]
            intro e
            rw [Go.Lib.toList_data, Go.Lib.toList_data] at e
            exact h0 (Go.WideShapes.bytes_inj e)
          have HNO := hide (HNP.out (fun e => h0 (by rw [e])))
          clear h0 hone hpre hL
          gi_wp2
          exact ⟨HK0.out, .inl ⟨rfl, HNO.out⟩⟩
    rintro D0 U0 hD0 ⟨pre, hpre, hp1, hp2, hL⟩ hdf
    have hm := hL.mod
    have hI1 := hL.ix
    replace bs := hL.seen
    replace bt := hL.met
    replace hM : Mod None_ w U0 := hM.trans' hm (fun k hk e => by unfold LateS Ix at e; omega)
    replace b0 := b0.mod hm (by first | exact id | omega | (unfold Ix; omega) | (unfold LateS Ix; omega))
    replace bx := bx.mod hm (by first | exact id | omega | (unfold Ix; omega) | (unfold LateS Ix; omega))
    replace bd := bd.mod hm (by first | exact id | omega | (unfold Ix; omega) | (unfold LateS Ix; omega))
    replace b3 := b3.mod hm (by first | exact id | omega | (unfold Ix; omega) | (unfold LateS Ix; omega))
    replace b4 := b4.mod hm (by first | exact id | omega | (unfold Ix; omega) | (unfold LateS Ix; omega))
    replace br := br.mod hm (by first | exact id | omega | (unfold Ix; omega) | (unfold LateS Ix; omega))
    replace bl := bl.mod hm (by first | exact id | omega | (unfold Ix; omega) | (unfold LateS Ix; omega))
    have HDF0 := hide hdf
    obtain rfl : P0 = pre := (hp2 (by omega)).symm
    have hrw : lateRows 0 R0 d P0 = dropRows R0 d mB := by unfold lateRows; rw [if_pos ⟨rfl, by omega⟩]
    rw [hrw] at hI1
    rw [hz0] at bt
    replace cr : U0.cell? ⟨mr, 0, none⟩ = some (.int .i64 0) := br.cell 0
    have cl : U0.cell? ⟨ml0, 0, none⟩ = some (.slice A0 P0.length k0) := bl.cell 0
    have cs : U0.cell? ⟨ml0 + 1, 0, none⟩ = some _ := bs.cell 0
    have ct : U0.cell? ⟨ml0 + 2, 0, none⟩ = some (.int .i64 1) := bt.cell 0
    clear hdf hm hL hpre hp1 hp2 hrw hst hI
    have hDb0 : b + 4 ≤ D0 := by omega
    dsimp only
    go_wp2_with fail
    obtain ⟨mr, hmr⟩ : ∃ m, m = U0.heap.size := ⟨_, rfl⟩
    obtain ⟨V1, hV1⟩ : ∃ w', w' = (U0.alloc (Obj.cells #[.int .i64 1] 3)) := ⟨_, rfl⟩
    have hmV1 : Mod None_ U0 V1 := by rw [hV1]; exact (Mod.refl _ U0).alloc _
    have br : Blk V1 mr 3 #[.int .i64 1] := by
      have := (Blk.new U0 3 #[.int .i64 1])
      rw [← hV1, ← hmr] at this
      exact this
    have hltmr : (mi + 1) < mr := by rw [hmr]; exact b4.lt
    have hltmrD0 : D0 < mr := by rw [hmr]; exact (Array.getElem?_eq_some_iff.1 HDF0.out).1
    have HV1 := hide hV1
    have Hmr := hide hmr
    clear hV1 hmr
    rw [← HV1.out, ← Hmr.out]
    clear HV1 Hmr
    replace b0 := b0.mod hmV1 (by first | exact id | omega | (unfold Ix; omega) | (unfold LateS Ix; omega))
    replace bx := bx.mod hmV1 (by first | exact id | omega | (unfold Ix; omega) | (unfold LateS Ix; omega))
    replace bd := bd.mod hmV1 (by first | exact id | omega | (unfold Ix; omega) | (unfold LateS Ix; omega))
    replace b3 := b3.mod hmV1 (by first | exact id | omega | (unfold Ix; omega) | (unfold LateS Ix; omega))
    replace b4 := b4.mod hmV1 (by first | exact id | omega | (unfold Ix; omega) | (unfold LateS Ix; omega))
    replace hI1 := hI1.kept hmV1
    replace hM := hM.trans hmV1
    replace HDF0 : Hid (V1.heap[D0]? = some (.deferred (some []))) := hide ((hmV1.block D0 (Array.getElem?_eq_some_iff.1 HDF0.out).1 (by first | exact id | omega | (unfold Ix; omega) | (unfold LateS Ix; omega))).trans HDF0.out)
    obtain ⟨R1, hI, hzz, hRl1⟩ : ∃ Q, IndexAt V1 b Q ∧ findIno Q d mB = 0 ∧ Q.length ≤ 2513169434850 := ⟨_, hI1, find_drop_same _ _ _, Nat.le_trans (drop_length _ _ _) hRl0⟩
    have hz1 := mets_none hI.ok hI.nodup hzz
    have hbr : mi + 1 < mr := hltmr
    clear hI1 hmV1 cr cl cs HD bl bs bt
    clear ct
    rw [rounds_succ]
    replace cx : V1.cell? ⟨mx, 0, none⟩ = some (.pointer (some ⟨b + 3, 0, none⟩)) := bx.cell 0
    replace cd : V1.cell? ⟨md, 0, none⟩ = some (.int .i64 d) := bd.cell 0
    replace cr : V1.cell? ⟨mr, 0, none⟩ = some (.int .i64 1) := br.cell 0
    go_wp2_with fail
    refine (list_dents V1 b R1 d (by omega) hwd hI).mono ?_
    rintro e Va1 ⟨va1, rfl, hDa, hm⟩
    replace HDF0 : Hid (Va1.heap[D0]? = some (.deferred (some []))) := hide ((hm.block D0 (Array.getElem?_eq_some_iff.1 HDF0.out).1 (by first | exact id | omega | (unfold Ix; omega) | (unfold LateS Ix; omega))).trans HDF0.out)
    replace b0 := b0.mod hm (by first | exact id | omega | (unfold Ix; omega) | (unfold LateS Ix; omega))
    replace bx := bx.mod hm (by first | exact id | omega | (unfold Ix; omega) | (unfold LateS Ix; omega))
    replace bd := bd.mod hm (by first | exact id | omega | (unfold Ix; omega) | (unfold LateS Ix; omega))
    replace b3 := b3.mod hm (by first | exact id | omega | (unfold Ix; omega) | (unfold LateS Ix; omega))
    replace b4 := b4.mod hm (by first | exact id | omega | (unfold Ix; omega) | (unfold LateS Ix; omega))
    replace br := br.mod hm (by first | exact id | omega | (unfold Ix; omega) | (unfold LateS Ix; omega))
    replace hI := hI.kept hm
    replace hM := hM.trans hm
    replace cx : Va1.cell? ⟨mx, 0, none⟩ = some (.pointer (some ⟨b + 3, 0, none⟩)) := bx.cell 0
    replace cd : Va1.cell? ⟨md, 0, none⟩ = some (.int .i64 d) := bd.cell 0
    replace cr : Va1.cell? ⟨mr, 0, none⟩ = some (.int .i64 1) := br.cell 0
    clear hm
    have hlp : (listPairs R1 d).length ≤ 2513169434850 := by rw [listPairs_length]; have := cntDir_le R1 d; omega
    go_wp2_with fail
    refine (copy_any Va1 _ va1 _ hDa (by omega)).mono ?_
    rintro e Vb1 ⟨vb1, rfl, hDb, hm⟩
    replace HDF0 : Hid (Vb1.heap[D0]? = some (.deferred (some []))) := hide ((hm.block D0 (Array.getElem?_eq_some_iff.1 HDF0.out).1 (by first | exact id | omega | (unfold Ix; omega) | (unfold LateS Ix; omega))).trans HDF0.out)
    have hlo : b + 4 ≤ Va1.heap.size := by have := bx.lt; omega
    replace b0 := b0.mod hm (by first | exact id | omega | (unfold Ix; omega) | (unfold LateS Ix; omega))
    replace bx := bx.mod hm (by first | exact id | omega | (unfold Ix; omega) | (unfold LateS Ix; omega))
    replace bd := bd.mod hm (by first | exact id | omega | (unfold Ix; omega) | (unfold LateS Ix; omega))
    replace b3 := b3.mod hm (by first | exact id | omega | (unfold Ix; omega) | (unfold LateS Ix; omega))
    replace b4 := b4.mod hm (by first | exact id | omega | (unfold Ix; omega) | (unfold LateS Ix; omega))
    replace br := br.mod hm (by first | exact id | omega | (unfold Ix; omega) | (unfold LateS Ix; omega))
    replace hI := hI.kept hm
    replace hM := hM.trans hm
    replace hDb := hDb.lo hlo
    clear hm hlo hDa cx cd cr
    obtain ⟨A1, k1, rfl, hc1, hc2, hA⟩ := id hDb
    have HD := hide hDb
    clear hA hDb
    obtain ⟨P1, hP⟩ : ∃ P, P = listPairs R1 d := ⟨_, rfl⟩
    have HP1 := hide hP
    rw [← hP] at hc1 hlp HD hz1 ⊢
    clear hP
    have hln : ∀ w, (Builtin.len_ #[28] 3 #[.slice A1 P1.length k1]).run Try.prog w = .ok (.int .i64 P1.length) w := fun w => by simp [Builtin.len_, run_underlying Try.underlying28]; rfl
    obtain ⟨ml1, hml1⟩ : ∃ m, m = Vb1.heap.size := ⟨_, rfl⟩
    obtain ⟨Vk1, hVk1⟩ : ∃ w', w' = (((Vb1.alloc (Obj.cells #[.slice A1 P1.length k1] 28)).alloc (Obj.cells #[.int .i64 0] 3)).alloc (Obj.cells #[.int .i64 0] 3)) := ⟨_, rfl⟩
    have hmVk1 : Mod None_ Vb1 Vk1 := by rw [hVk1]; exact (((Mod.refl _ Vb1).alloc _).alloc _).alloc _
    have bl : Blk Vk1 ml1 28 #[.slice A1 P1.length k1] := by
      have := (((Blk.new Vb1 28 #[.slice A1 P1.length k1]).alloc (Obj.cells #[.int .i64 0] 3)).alloc (Obj.cells #[.int .i64 0] 3))
      rw [← hVk1, ← hml1] at this
      exact this
    have bs : Blk Vk1 (ml1 + 1) 3 #[.int .i64 0] := by
      have := ((Blk.new (Vb1.alloc (Obj.cells #[.slice A1 P1.length k1] 28)) 3 #[.int .i64 0]).alloc (Obj.cells #[.int .i64 0] 3))
      rw [← hVk1, alloc_size, ← hml1] at this
      exact this
    have bt : Blk Vk1 (ml1 + 2) 3 #[.int .i64 0] := by
      have := (Blk.new ((Vb1.alloc (Obj.cells #[.slice A1 P1.length k1] 28)).alloc (Obj.cells #[.int .i64 0] 3)) 3 #[.int .i64 0])
      rw [← hVk1, alloc_size, alloc_size, ← hml1] at this
      exact this
    have hltml1 : mr < ml1 := by rw [hml1]; exact br.lt
    have HVk1 := hide hVk1
    have Hml1 := hide hml1
    clear hVk1 hml1
    go_wp2_with fail
    rw [← HVk1.out, ← Hml1.out]
    clear HVk1 Hml1
    replace HDF0 : Hid (Vk1.heap[D0]? = some (.deferred (some []))) := hide ((hmVk1.block D0 (Array.getElem?_eq_some_iff.1 HDF0.out).1 (by first | exact id | omega | (unfold Ix; omega) | (unfold LateS Ix; omega))).trans HDF0.out)
    replace b0 := b0.mod hmVk1 (by first | exact id | omega | (unfold Ix; omega) | (unfold LateS Ix; omega))
    replace bx := bx.mod hmVk1 (by first | exact id | omega | (unfold Ix; omega) | (unfold LateS Ix; omega))
    replace bd := bd.mod hmVk1 (by first | exact id | omega | (unfold Ix; omega) | (unfold LateS Ix; omega))
    replace b3 := b3.mod hmVk1 (by first | exact id | omega | (unfold Ix; omega) | (unfold LateS Ix; omega))
    replace b4 := b4.mod hmVk1 (by first | exact id | omega | (unfold Ix; omega) | (unfold LateS Ix; omega))
    replace br := br.mod hmVk1 (by first | exact id | omega | (unfold Ix; omega) | (unfold LateS Ix; omega))
    replace hI := hI.kept hmVk1
    replace hM := hM.trans hmVk1
    replace HD := hide (HD.out.mod hmVk1 (fun _ _ f => f))
    clear hmVk1
    rw [show ml1 + 1 + 1 = ml1 + 2 from rfl]
    have hVs : ml1 + 2 < Vk1.heap.size := bt.lt
    have hst := all_stopsR 2 (by omega) Vk1 b R1 d mi (mi + 1) (by omega) hwd hI (b3.cell 0) (b4.cell 0) (by omega) (by omega)
    rw [← HP1.out] at hst
    refine wp_range_mid 3 (by omega) (gf := 42) (lb := #[.pointer (some ⟨mi, 0, none⟩), .pointer (some ⟨mi + 1, 0, none⟩)]) rfl (enters_of Try.func42 (by kernel_rfl) rfl) hst (fun h k => h.trans k) (fun U l o o' _ h ho _ => KpR.putObj U l o o' h ho) (Below.refl _ _) (fun _ => rfl)
      (LateI 1 b ml1 R1 d P1 Vk1) (LateX 1 b ml1 R1 d P1 Vk1) 2 (LateF 1 b ml1 R1 d P1 Vk1)
      (fun pre A B row h hg hr => ⟨h.1, h.2.grown (by omega) (by omega) hg hr⟩) (fun c pre A B row h hg hr => h.imp id fun ⟨q1, q2, q3, q4⟩ => ⟨q1, q2, q3, q4.grown (by omega) (by omega) hg hr⟩)
      ⟨⟨List.nil_prefix, fun _ => rfl⟩, bs, bt, hI, Mod.refl _ _⟩ ?done1 ?stop1 ?body1 ?rest1
    case done1 =>
      rintro xs U hxs ⟨⟨hp, h1⟩, h2⟩
      obtain rfl : P1 = xs := hxs.symm
      exact ⟨_, List.prefix_refl _, fun e => by rw [h1 e]; rfl, fun _ => rfl, h2⟩
    case stop1 =>
      rintro c pre U hp (⟨rfl, h⟩ | ⟨rfl, e, h1, h2⟩)
      · exact absurd hp h
      · exact ⟨rfl, pre, hp, fun _ => by have := hp.length_le; omega, fun h => absurd e h, h2⟩
    case body1 =>
      apply Exists.intro
      refine ⟨?_, ?_⟩
      · intro l x U K hK
        gi_wp2
        exact hK
      · rintro l pre x U ⟨⟨hpre, hone⟩, hL⟩ hlt
        have cl : U.cell? ⟨ml1, 0, none⟩ = some (.slice A1 P1.length k1) := (bl.mod hL.mod (by unfold LateS Ix; omega)).cell 0
        have cr : U.cell? ⟨mr, 0, none⟩ = some (.int .i64 1) := (br.mod hL.mod (by unfold LateS Ix; omega)).cell 0
        have cx : U.cell? ⟨mx, 0, none⟩ = some (.pointer (some ⟨b + 3, 0, none⟩)) := (bx.mod hL.mod (by unfold LateS Ix; omega)).cell 0
        have cd : U.cell? ⟨md, 0, none⟩ = some (.int .i64 d) := (bd.mod hL.mod (by unfold LateS Ix; omega)).cell 0
        have c0 : U.cell? ⟨m0, 0, none⟩ = some (.bool false) := (b0.mod hL.mod (by unfold LateS Ix; omega)).cell 0
        have f0 : U.frozen? ⟨m0, 0, none⟩ = false := (b0.mod hL.mod (by unfold LateS Ix; omega)).frozen 0
        have cs : U.cell? ⟨ml1 + 1, 0, none⟩ = some (.int .i64 pre.length) := hL.seen.cell 0
        have fs : U.frozen? ⟨ml1 + 1, 0, none⟩ = false := hL.seen.frozen 0
        have ct : U.cell? ⟨ml1 + 2, 0, none⟩ = some (.int .i64 (mets pre)) := hL.met.cell 0
        have ft : U.frozen? ⟨ml1 + 2, 0, none⟩ = false := hL.met.frozen 0
        obtain ⟨g, hg, x0, x1⟩ := late_elem hL.mod HD.out (Nat.le_refl _) bs bt hlt
        subst hg
        have hlt' : (pre.length : Int) < P1.length := by omega
        have hge : ¬ P1.length ≤ pre.length := by omega
        have hmp := mets_le pre
        have HPP := hide (late_next (x := x) hpre hlt)
        have HNP := hide (late_no (x := x) hlt)
        obtain ⟨p, hp⟩ : ∃ p, p = P1[pre.length] := ⟨_, rfl⟩
        rw [← hp] at x0 x1 HNP HPP
        have K0 : KeepsFrom Vk1.heap.size U (U.setCell ⟨m0, 0, none⟩ (.bool false)) := KeepsFrom.of_mod ((Mod.refl (· = m0) U).setCell (p := ⟨m0, 0, none⟩) (.inr rfl) _) (fun k hk _ e => by omega)
        have HK0 := hide K0
        clear hp K0
        by_cases h0 : p.1 = x.1
        · by_cases h1 : p.2 = x.2
          · have e0 : (p.1.toList == x.1.toList) = true := by rw [h0]; simp
            have e1 : (p.2 != x.2) = false := by rw [bne_eq_false_iff_eq]; exact h1
            have hpx := HPP.out (Prod.ext h0 h1)
            have hms := mets_prefix hpx
            have hsn := mets_snoc pre x
            have HPX := hide hpx
            have HONE := hide hone
            clear hpx h0 h1 hone hpre
            have hx : x.1 ≠ mB := fun e => by rw [if_pos e] at hsn; omega
            have em : (x.1.toList == [109]) = false := by rw [mB_iff]; exact decide_eq_false hx
            have q3 := late_two hL hx hVs (by omega)
            have hm : Mod (· = ml1 + 1) U (U.setCell ⟨ml1 + 1, 0, none⟩ (.int .i64 (pre.length + 1))) := (Mod.refl (· = ml1 + 1) U).setCell (p := ⟨ml1 + 1, 0, none⟩) (.inr rfl) _
            have q1 : KeepsFrom Vk1.heap.size U (U.setCell ⟨ml1 + 1, 0, none⟩ (.int .i64 (pre.length + 1))) := KeepsFrom.of_mod hm (fun k hk _ e => by omega)
            have q2 : KpR Vk1.heap.size U (U.setCell ⟨ml1 + 1, 0, none⟩ (.int .i64 (pre.length + 1))) := hm.kpR (fun k hk _ e => by omega)
            have Q1 := hide q1
            have Q2 := hide q2
            have Q3 := hide q3
            clear q1 q2 q3 hm hL hx hsn hms
            gi_wp2
            exact ⟨Q1.out, .inr ⟨rfl, rfl, by rw [show pre = [] from HONE.out (by first | rfl | trivial)]; rfl, Q3.out⟩⟩
          · have e0 : (p.1.toList == x.1.toList) = true := by rw [h0]; simp
            have e1 : (p.2 != x.2) = true := by rw [bne_iff_ne]; exact h1
            have HNO := hide (HNP.out (fun e => h1 (by rw [e])))
            clear h0 h1 hone hpre hL
            gi_wp2
            exact ⟨HK0.out, .inl ⟨rfl, HNO.out⟩⟩
        · have e0 : (p.1.toList == x.1.toList) = false := by
            rw [beq_eq_false_iff_ne]
            intro e
            rw [Go.Lib.toList_data, Go.Lib.toList_data] at e
            exact h0 (Go.WideShapes.bytes_inj e)
          have HNO := hide (HNP.out (fun e => h0 (by rw [e])))
          clear h0 hone hpre hL
          gi_wp2
          exact ⟨HK0.out, .inl ⟨rfl, HNO.out⟩⟩
    rintro D1 U1 hD1 ⟨pre, hpre, hp1, hp2, hL⟩ hdf
    have hm := hL.mod
    have hI2 := hL.ix
    replace bs := hL.seen
    replace bt := hL.met
    replace hM : Mod None_ w U1 := hM.trans' hm (fun k hk e => by unfold LateS Ix at e; omega)
    replace b0 := b0.mod hm (by first | exact id | omega | (unfold Ix; omega) | (unfold LateS Ix; omega))
    replace bx := bx.mod hm (by first | exact id | omega | (unfold Ix; omega) | (unfold LateS Ix; omega))
    replace bd := bd.mod hm (by first | exact id | omega | (unfold Ix; omega) | (unfold LateS Ix; omega))
    replace b3 := b3.mod hm (by first | exact id | omega | (unfold Ix; omega) | (unfold LateS Ix; omega))
    replace b4 := b4.mod hm (by first | exact id | omega | (unfold Ix; omega) | (unfold LateS Ix; omega))
    replace br := br.mod hm (by first | exact id | omega | (unfold Ix; omega) | (unfold LateS Ix; omega))
    replace bl := bl.mod hm (by first | exact id | omega | (unfold Ix; omega) | (unfold LateS Ix; omega))
    have HDF1 := hide hdf
    replace HDF0 : Hid (U1.heap[D0]? = some (.deferred (some []))) := hide ((hm.block D0 (Array.getElem?_eq_some_iff.1 HDF0.out).1 (by unfold LateS Ix; omega)).trans HDF0.out)
    have hrw : lateRows 1 R1 d pre = R1 := by unfold lateRows; rw [if_neg (by omega)]
    rw [hrw] at hI2
    replace cr : U1.cell? ⟨mr, 0, none⟩ = some (.int .i64 1) := br.cell 0
    have cl : U1.cell? ⟨ml1, 0, none⟩ = some (.slice A1 P1.length k1) := bl.cell 0
    have cs : U1.cell? ⟨ml1 + 1, 0, none⟩ = some _ := bs.cell 0
    have eA : ((pre.length : Int) != min 1 P1.length) = false := by rw [bne_eq_false_iff_eq]; have := hp1 rfl; omega
    clear hdf hm hL hpre hp1 hp2 hrw hst hI
    have hDb1 : b + 4 ≤ D1 := by omega
    dsimp only
    go_wp2_with fail
    obtain ⟨mr, hmr⟩ : ∃ m, m = U1.heap.size := ⟨_, rfl⟩
    obtain ⟨V2, hV2⟩ : ∃ w', w' = (U1.alloc (Obj.cells #[.int .i64 2] 3)) := ⟨_, rfl⟩
    have hmV2 : Mod None_ U1 V2 := by rw [hV2]; exact (Mod.refl _ U1).alloc _
    have br : Blk V2 mr 3 #[.int .i64 2] := by
      have := (Blk.new U1 3 #[.int .i64 2])
      rw [← hV2, ← hmr] at this
      exact this
    have hltmr : (mi + 1) < mr := by rw [hmr]; exact b4.lt
    have hltmrD0 : D0 < mr := by rw [hmr]; exact (Array.getElem?_eq_some_iff.1 HDF0.out).1
    have hltmrD1 : D1 < mr := by rw [hmr]; exact (Array.getElem?_eq_some_iff.1 HDF1.out).1
    have HV2 := hide hV2
    have Hmr := hide hmr
    clear hV2 hmr
    rw [← HV2.out, ← Hmr.out]
    clear HV2 Hmr
    replace b0 := b0.mod hmV2 (by first | exact id | omega | (unfold Ix; omega) | (unfold LateS Ix; omega))
    replace bx := bx.mod hmV2 (by first | exact id | omega | (unfold Ix; omega) | (unfold LateS Ix; omega))
    replace bd := bd.mod hmV2 (by first | exact id | omega | (unfold Ix; omega) | (unfold LateS Ix; omega))
    replace b3 := b3.mod hmV2 (by first | exact id | omega | (unfold Ix; omega) | (unfold LateS Ix; omega))
    replace b4 := b4.mod hmV2 (by first | exact id | omega | (unfold Ix; omega) | (unfold LateS Ix; omega))
    replace hI2 := hI2.kept hmV2
    replace hM := hM.trans hmV2
    replace HDF0 : Hid (V2.heap[D0]? = some (.deferred (some []))) := hide ((hmV2.block D0 (Array.getElem?_eq_some_iff.1 HDF0.out).1 (by first | exact id | omega | (unfold Ix; omega) | (unfold LateS Ix; omega))).trans HDF0.out)
    replace HDF1 : Hid (V2.heap[D1]? = some (.deferred (some []))) := hide ((hmV2.block D1 (Array.getElem?_eq_some_iff.1 HDF1.out).1 (by first | exact id | omega | (unfold Ix; omega) | (unfold LateS Ix; omega))).trans HDF1.out)
    obtain ⟨R2, hI, hzz, hRl2⟩ : ∃ Q, IndexAt V2 b Q ∧ findIno Q d mB = 0 ∧ Q.length ≤ 2513169434850 := ⟨_, hI2, hzz, hRl1⟩
    have hz2 := mets_none hI.ok hI.nodup hzz
    have hbr : mi + 1 < mr := hltmr
    clear hI2 hmV2 cr cl cs HD bl bs bt
    clear eA
    rw [rounds_succ]
    replace cx : V2.cell? ⟨mx, 0, none⟩ = some (.pointer (some ⟨b + 3, 0, none⟩)) := bx.cell 0
    replace cd : V2.cell? ⟨md, 0, none⟩ = some (.int .i64 d) := bd.cell 0
    replace cr : V2.cell? ⟨mr, 0, none⟩ = some (.int .i64 2) := br.cell 0
    go_wp2_with fail
    refine (list_dents V2 b R2 d (by omega) hwd hI).mono ?_
    rintro e Va2 ⟨va2, rfl, hDa, hm⟩
    replace HDF0 : Hid (Va2.heap[D0]? = some (.deferred (some []))) := hide ((hm.block D0 (Array.getElem?_eq_some_iff.1 HDF0.out).1 (by first | exact id | omega | (unfold Ix; omega) | (unfold LateS Ix; omega))).trans HDF0.out)
    replace HDF1 : Hid (Va2.heap[D1]? = some (.deferred (some []))) := hide ((hm.block D1 (Array.getElem?_eq_some_iff.1 HDF1.out).1 (by first | exact id | omega | (unfold Ix; omega) | (unfold LateS Ix; omega))).trans HDF1.out)
    replace b0 := b0.mod hm (by first | exact id | omega | (unfold Ix; omega) | (unfold LateS Ix; omega))
    replace bx := bx.mod hm (by first | exact id | omega | (unfold Ix; omega) | (unfold LateS Ix; omega))
    replace bd := bd.mod hm (by first | exact id | omega | (unfold Ix; omega) | (unfold LateS Ix; omega))
    replace b3 := b3.mod hm (by first | exact id | omega | (unfold Ix; omega) | (unfold LateS Ix; omega))
    replace b4 := b4.mod hm (by first | exact id | omega | (unfold Ix; omega) | (unfold LateS Ix; omega))
    replace br := br.mod hm (by first | exact id | omega | (unfold Ix; omega) | (unfold LateS Ix; omega))
    replace hI := hI.kept hm
    replace hM := hM.trans hm
    replace cx : Va2.cell? ⟨mx, 0, none⟩ = some (.pointer (some ⟨b + 3, 0, none⟩)) := bx.cell 0
    replace cd : Va2.cell? ⟨md, 0, none⟩ = some (.int .i64 d) := bd.cell 0
    replace cr : Va2.cell? ⟨mr, 0, none⟩ = some (.int .i64 2) := br.cell 0
    clear hm
    have hlp : (listPairs R2 d).length ≤ 2513169434850 := by rw [listPairs_length]; have := cntDir_le R2 d; omega
    go_wp2_with fail
    refine (copy_any Va2 _ va2 _ hDa (by omega)).mono ?_
    rintro e Vb2 ⟨vb2, rfl, hDb, hm⟩
    replace HDF0 : Hid (Vb2.heap[D0]? = some (.deferred (some []))) := hide ((hm.block D0 (Array.getElem?_eq_some_iff.1 HDF0.out).1 (by first | exact id | omega | (unfold Ix; omega) | (unfold LateS Ix; omega))).trans HDF0.out)
    replace HDF1 : Hid (Vb2.heap[D1]? = some (.deferred (some []))) := hide ((hm.block D1 (Array.getElem?_eq_some_iff.1 HDF1.out).1 (by first | exact id | omega | (unfold Ix; omega) | (unfold LateS Ix; omega))).trans HDF1.out)
    have hlo : b + 4 ≤ Va2.heap.size := by have := bx.lt; omega
    replace b0 := b0.mod hm (by first | exact id | omega | (unfold Ix; omega) | (unfold LateS Ix; omega))
    replace bx := bx.mod hm (by first | exact id | omega | (unfold Ix; omega) | (unfold LateS Ix; omega))
    replace bd := bd.mod hm (by first | exact id | omega | (unfold Ix; omega) | (unfold LateS Ix; omega))
    replace b3 := b3.mod hm (by first | exact id | omega | (unfold Ix; omega) | (unfold LateS Ix; omega))
    replace b4 := b4.mod hm (by first | exact id | omega | (unfold Ix; omega) | (unfold LateS Ix; omega))
    replace br := br.mod hm (by first | exact id | omega | (unfold Ix; omega) | (unfold LateS Ix; omega))
    replace hI := hI.kept hm
    replace hM := hM.trans hm
    replace hDb := hDb.lo hlo
    clear hm hlo hDa cx cd cr
    obtain ⟨A2, k2, rfl, hc1, hc2, hA⟩ := id hDb
    have HD := hide hDb
    clear hA hDb
    obtain ⟨P2, hP⟩ : ∃ P, P = listPairs R2 d := ⟨_, rfl⟩
    have HP2 := hide hP
    rw [← hP] at hc1 hlp HD hz2 ⊢
    clear hP
    have hln : ∀ w, (Builtin.len_ #[28] 3 #[.slice A2 P2.length k2]).run Try.prog w = .ok (.int .i64 P2.length) w := fun w => by simp [Builtin.len_, run_underlying Try.underlying28]; rfl
    obtain ⟨ml2, hml2⟩ : ∃ m, m = Vb2.heap.size := ⟨_, rfl⟩
    obtain ⟨Vk2, hVk2⟩ : ∃ w', w' = (((Vb2.alloc (Obj.cells #[.slice A2 P2.length k2] 28)).alloc (Obj.cells #[.int .i64 0] 3)).alloc (Obj.cells #[.int .i64 0] 3)) := ⟨_, rfl⟩
    have hmVk2 : Mod None_ Vb2 Vk2 := by rw [hVk2]; exact (((Mod.refl _ Vb2).alloc _).alloc _).alloc _
    have bl : Blk Vk2 ml2 28 #[.slice A2 P2.length k2] := by
      have := (((Blk.new Vb2 28 #[.slice A2 P2.length k2]).alloc (Obj.cells #[.int .i64 0] 3)).alloc (Obj.cells #[.int .i64 0] 3))
      rw [← hVk2, ← hml2] at this
      exact this
    have bs : Blk Vk2 (ml2 + 1) 3 #[.int .i64 0] := by
      have := ((Blk.new (Vb2.alloc (Obj.cells #[.slice A2 P2.length k2] 28)) 3 #[.int .i64 0]).alloc (Obj.cells #[.int .i64 0] 3))
      rw [← hVk2, alloc_size, ← hml2] at this
      exact this
    have bt : Blk Vk2 (ml2 + 2) 3 #[.int .i64 0] := by
      have := (Blk.new ((Vb2.alloc (Obj.cells #[.slice A2 P2.length k2] 28)).alloc (Obj.cells #[.int .i64 0] 3)) 3 #[.int .i64 0])
      rw [← hVk2, alloc_size, alloc_size, ← hml2] at this
      exact this
    have hltml2 : mr < ml2 := by rw [hml2]; exact br.lt
    have HVk2 := hide hVk2
    have Hml2 := hide hml2
    clear hVk2 hml2
    go_wp2_with fail
    rw [← HVk2.out, ← Hml2.out]
    clear HVk2 Hml2
    replace HDF0 : Hid (Vk2.heap[D0]? = some (.deferred (some []))) := hide ((hmVk2.block D0 (Array.getElem?_eq_some_iff.1 HDF0.out).1 (by first | exact id | omega | (unfold Ix; omega) | (unfold LateS Ix; omega))).trans HDF0.out)
    replace HDF1 : Hid (Vk2.heap[D1]? = some (.deferred (some []))) := hide ((hmVk2.block D1 (Array.getElem?_eq_some_iff.1 HDF1.out).1 (by first | exact id | omega | (unfold Ix; omega) | (unfold LateS Ix; omega))).trans HDF1.out)
    replace b0 := b0.mod hmVk2 (by first | exact id | omega | (unfold Ix; omega) | (unfold LateS Ix; omega))
    replace bx := bx.mod hmVk2 (by first | exact id | omega | (unfold Ix; omega) | (unfold LateS Ix; omega))
    replace bd := bd.mod hmVk2 (by first | exact id | omega | (unfold Ix; omega) | (unfold LateS Ix; omega))
    replace b3 := b3.mod hmVk2 (by first | exact id | omega | (unfold Ix; omega) | (unfold LateS Ix; omega))
    replace b4 := b4.mod hmVk2 (by first | exact id | omega | (unfold Ix; omega) | (unfold LateS Ix; omega))
    replace br := br.mod hmVk2 (by first | exact id | omega | (unfold Ix; omega) | (unfold LateS Ix; omega))
    replace hI := hI.kept hmVk2
    replace hM := hM.trans hmVk2
    replace HD := hide (HD.out.mod hmVk2 (fun _ _ f => f))
    clear hmVk2
    rw [show ml2 + 1 + 1 = ml2 + 2 from rfl]
    have hVs : ml2 + 2 < Vk2.heap.size := bt.lt
    have hst := all_stopsR 2 (by omega) Vk2 b R2 d mi (mi + 1) (by omega) hwd hI (b3.cell 0) (b4.cell 0) (by omega) (by omega)
    rw [← HP2.out] at hst
    refine wp_range_mid 3 (by omega) (gf := 42) (lb := #[.pointer (some ⟨mi, 0, none⟩), .pointer (some ⟨mi + 1, 0, none⟩)]) rfl (enters_of Try.func42 (by kernel_rfl) rfl) hst (fun h k => h.trans k) (fun U l o o' _ h ho _ => KpR.putObj U l o o' h ho) (Below.refl _ _) (fun _ => rfl)
      (LateI 2 b ml2 R2 d P2 Vk2) (LateX 2 b ml2 R2 d P2 Vk2) 2 (LateF 2 b ml2 R2 d P2 Vk2)
      (fun pre A B row h hg hr => ⟨h.1, h.2.grown (by omega) (by omega) hg hr⟩) (fun c pre A B row h hg hr => h.imp id fun ⟨q1, q2, q3, q4⟩ => ⟨q1, q2, q3, q4.grown (by omega) (by omega) hg hr⟩)
      ⟨⟨List.nil_prefix, fun _ => rfl⟩, bs, bt, hI, Mod.refl _ _⟩ ?done2 ?stop2 ?body2 ?rest2
    case done2 =>
      rintro xs U hxs ⟨⟨hp, h1⟩, h2⟩
      obtain rfl : P2 = xs := hxs.symm
      exact ⟨_, List.prefix_refl _, fun e => by rw [h1 e]; rfl, fun _ => rfl, h2⟩
    case stop2 =>
      rintro c pre U hp (⟨rfl, h⟩ | ⟨rfl, e, h1, h2⟩)
      · exact absurd hp h
      · exact ⟨rfl, pre, hp, fun _ => by have := hp.length_le; omega, fun h => absurd e h, h2⟩
    case body2 =>
      apply Exists.intro
      refine ⟨?_, ?_⟩
      · intro l x U K hK
        gi_wp2
        exact hK
      · rintro l pre x U ⟨⟨hpre, hone⟩, hL⟩ hlt
        have cl : U.cell? ⟨ml2, 0, none⟩ = some (.slice A2 P2.length k2) := (bl.mod hL.mod (by unfold LateS Ix; omega)).cell 0
        have cr : U.cell? ⟨mr, 0, none⟩ = some (.int .i64 2) := (br.mod hL.mod (by unfold LateS Ix; omega)).cell 0
        have cx : U.cell? ⟨mx, 0, none⟩ = some (.pointer (some ⟨b + 3, 0, none⟩)) := (bx.mod hL.mod (by unfold LateS Ix; omega)).cell 0
        have cd : U.cell? ⟨md, 0, none⟩ = some (.int .i64 d) := (bd.mod hL.mod (by unfold LateS Ix; omega)).cell 0
        have c0 : U.cell? ⟨m0, 0, none⟩ = some (.bool false) := (b0.mod hL.mod (by unfold LateS Ix; omega)).cell 0
        have f0 : U.frozen? ⟨m0, 0, none⟩ = false := (b0.mod hL.mod (by unfold LateS Ix; omega)).frozen 0
        have cs : U.cell? ⟨ml2 + 1, 0, none⟩ = some (.int .i64 pre.length) := hL.seen.cell 0
        have fs : U.frozen? ⟨ml2 + 1, 0, none⟩ = false := hL.seen.frozen 0
        have ct : U.cell? ⟨ml2 + 2, 0, none⟩ = some (.int .i64 (mets pre)) := hL.met.cell 0
        have ft : U.frozen? ⟨ml2 + 2, 0, none⟩ = false := hL.met.frozen 0
        obtain ⟨g, hg, x0, x1⟩ := late_elem hL.mod HD.out (Nat.le_refl _) bs bt hlt
        subst hg
        have hlt' : (pre.length : Int) < P2.length := by omega
        have hge : ¬ P2.length ≤ pre.length := by omega
        have hmp := mets_le pre
        have HPP := hide (late_next (x := x) hpre hlt)
        have HNP := hide (late_no (x := x) hlt)
        obtain ⟨p, hp⟩ : ∃ p, p = P2[pre.length] := ⟨_, rfl⟩
        rw [← hp] at x0 x1 HNP HPP
        have K0 : KeepsFrom Vk2.heap.size U (U.setCell ⟨m0, 0, none⟩ (.bool false)) := KeepsFrom.of_mod ((Mod.refl (· = m0) U).setCell (p := ⟨m0, 0, none⟩) (.inr rfl) _) (fun k hk _ e => by omega)
        have HK0 := hide K0
        clear hp K0
        by_cases h0 : p.1 = x.1
        · by_cases h1 : p.2 = x.2
          · have e0 : (p.1.toList == x.1.toList) = true := by rw [h0]; simp
            have e1 : (p.2 != x.2) = false := by rw [bne_eq_false_iff_eq]; exact h1
            have hpx := HPP.out (Prod.ext h0 h1)
            have hms := mets_prefix hpx
            have hsn := mets_snoc pre x
            have HPX := hide hpx
            have HONE := hide hone
            clear hpx h0 h1 hone hpre
            have hx : x.1 ≠ mB := fun e => by rw [if_pos e] at hsn; omega
            have em : (x.1.toList == [109]) = false := by rw [mB_iff]; exact decide_eq_false hx
            have q3 := late_two hL hx hVs (by omega)
            have hm : Mod (· = ml2 + 1) U (U.setCell ⟨ml2 + 1, 0, none⟩ (.int .i64 (pre.length + 1))) := (Mod.refl (· = ml2 + 1) U).setCell (p := ⟨ml2 + 1, 0, none⟩) (.inr rfl) _
            have q1 : KeepsFrom Vk2.heap.size U (U.setCell ⟨ml2 + 1, 0, none⟩ (.int .i64 (pre.length + 1))) := KeepsFrom.of_mod hm (fun k hk _ e => by omega)
            have q2 : KpR Vk2.heap.size U (U.setCell ⟨ml2 + 1, 0, none⟩ (.int .i64 (pre.length + 1))) := hm.kpR (fun k hk _ e => by omega)
            have Q1 := hide q1
            have Q2 := hide q2
            have Q3 := hide q3
            clear q1 q2 q3 hm hL hx hsn hms
            gi_wp2
            exact ⟨Q1.out, Q2.out, ⟨HPX.out, fun e => by omega⟩, Q3.out⟩
          · have e0 : (p.1.toList == x.1.toList) = true := by rw [h0]; simp
            have e1 : (p.2 != x.2) = true := by rw [bne_iff_ne]; exact h1
            have HNO := hide (HNP.out (fun e => h1 (by rw [e])))
            clear h0 h1 hone hpre hL
            gi_wp2
            exact ⟨HK0.out, .inl ⟨rfl, HNO.out⟩⟩
        · have e0 : (p.1.toList == x.1.toList) = false := by
            rw [beq_eq_false_iff_ne]
            intro e
            rw [Go.Lib.toList_data, Go.Lib.toList_data] at e
            exact h0 (Go.WideShapes.bytes_inj e)
          have HNO := hide (HNP.out (fun e => h0 (by rw [e])))
          clear h0 hone hpre hL
          gi_wp2
          exact ⟨HK0.out, .inl ⟨rfl, HNO.out⟩⟩
    rintro D2 U2 hD2 ⟨pre, hpre, hp1, hp2, hL⟩ hdf
    have hm := hL.mod
    have hI3 := hL.ix
    replace bs := hL.seen
    replace bt := hL.met
    replace hM : Mod None_ w U2 := hM.trans' hm (fun k hk e => by unfold LateS Ix at e; omega)
    replace b0 := b0.mod hm (by first | exact id | omega | (unfold Ix; omega) | (unfold LateS Ix; omega))
    replace bx := bx.mod hm (by first | exact id | omega | (unfold Ix; omega) | (unfold LateS Ix; omega))
    replace bd := bd.mod hm (by first | exact id | omega | (unfold Ix; omega) | (unfold LateS Ix; omega))
    replace b3 := b3.mod hm (by first | exact id | omega | (unfold Ix; omega) | (unfold LateS Ix; omega))
    replace b4 := b4.mod hm (by first | exact id | omega | (unfold Ix; omega) | (unfold LateS Ix; omega))
    replace br := br.mod hm (by first | exact id | omega | (unfold Ix; omega) | (unfold LateS Ix; omega))
    replace bl := bl.mod hm (by first | exact id | omega | (unfold Ix; omega) | (unfold LateS Ix; omega))
    have HDF2 := hide hdf
    replace HDF0 : Hid (U2.heap[D0]? = some (.deferred (some []))) := hide ((hm.block D0 (Array.getElem?_eq_some_iff.1 HDF0.out).1 (by unfold LateS Ix; omega)).trans HDF0.out)
    replace HDF1 : Hid (U2.heap[D1]? = some (.deferred (some []))) := hide ((hm.block D1 (Array.getElem?_eq_some_iff.1 HDF1.out).1 (by unfold LateS Ix; omega)).trans HDF1.out)
    obtain rfl : P2 = pre := (hp2 (by omega)).symm
    have e0 : mets P2 = 0 := hz2
    have hrw : lateRows 2 R2 d P2 = R2 := by unfold lateRows; rw [if_neg (by omega)]
    rw [hrw] at hI3
    rw [e0] at bt
    replace cr : U2.cell? ⟨mr, 0, none⟩ = some (.int .i64 2) := br.cell 0
    have cl : U2.cell? ⟨ml2, 0, none⟩ = some (.slice A2 P2.length k2) := bl.cell 0
    have cs : U2.cell? ⟨ml2 + 1, 0, none⟩ = some _ := bs.cell 0
    have ct : U2.cell? ⟨ml2 + 2, 0, none⟩ = some (.int .i64 0) := bt.cell 0
    clear hdf hm hL hpre hp1 hp2 hrw hst hI
    have hDb2 : b + 4 ≤ D2 := by omega
    dsimp only
    go_wp2_with fail
    obtain ⟨mr, hmr⟩ : ∃ m, m = U2.heap.size := ⟨_, rfl⟩
    obtain ⟨V3, hV3⟩ : ∃ w', w' = (U2.alloc (Obj.cells #[.int .i64 3] 3)) := ⟨_, rfl⟩
    have hmV3 : Mod None_ U2 V3 := by rw [hV3]; exact (Mod.refl _ U2).alloc _
    have br : Blk V3 mr 3 #[.int .i64 3] := by
      have := (Blk.new U2 3 #[.int .i64 3])
      rw [← hV3, ← hmr] at this
      exact this
    have hltmr : (mi + 1) < mr := by rw [hmr]; exact b4.lt
    have hltmrD0 : D0 < mr := by rw [hmr]; exact (Array.getElem?_eq_some_iff.1 HDF0.out).1
    have hltmrD1 : D1 < mr := by rw [hmr]; exact (Array.getElem?_eq_some_iff.1 HDF1.out).1
    have hltmrD2 : D2 < mr := by rw [hmr]; exact (Array.getElem?_eq_some_iff.1 HDF2.out).1
    have HV3 := hide hV3
    have Hmr := hide hmr
    clear hV3 hmr
    rw [← HV3.out, ← Hmr.out]
    clear HV3 Hmr
    replace b0 := b0.mod hmV3 (by first | exact id | omega | (unfold Ix; omega) | (unfold LateS Ix; omega))
    replace bx := bx.mod hmV3 (by first | exact id | omega | (unfold Ix; omega) | (unfold LateS Ix; omega))
    replace bd := bd.mod hmV3 (by first | exact id | omega | (unfold Ix; omega) | (unfold LateS Ix; omega))
    replace b3 := b3.mod hmV3 (by first | exact id | omega | (unfold Ix; omega) | (unfold LateS Ix; omega))
    replace b4 := b4.mod hmV3 (by first | exact id | omega | (unfold Ix; omega) | (unfold LateS Ix; omega))
    replace hI3 := hI3.kept hmV3
    replace hM := hM.trans hmV3
    replace HDF0 : Hid (V3.heap[D0]? = some (.deferred (some []))) := hide ((hmV3.block D0 (Array.getElem?_eq_some_iff.1 HDF0.out).1 (by first | exact id | omega | (unfold Ix; omega) | (unfold LateS Ix; omega))).trans HDF0.out)
    replace HDF1 : Hid (V3.heap[D1]? = some (.deferred (some []))) := hide ((hmV3.block D1 (Array.getElem?_eq_some_iff.1 HDF1.out).1 (by first | exact id | omega | (unfold Ix; omega) | (unfold LateS Ix; omega))).trans HDF1.out)
    replace HDF2 : Hid (V3.heap[D2]? = some (.deferred (some []))) := hide ((hmV3.block D2 (Array.getElem?_eq_some_iff.1 HDF2.out).1 (by first | exact id | omega | (unfold Ix; omega) | (unfold LateS Ix; omega))).trans HDF2.out)
    obtain ⟨R3, hI, hzz, hRl3⟩ : ∃ Q, IndexAt V3 b Q ∧ findIno Q d mB = 0 ∧ Q.length ≤ 2513169434850 := ⟨_, hI3, hzz, hRl2⟩
    have hz3 := mets_none hI.ok hI.nodup hzz
    have hbr : mi + 1 < mr := hltmr
    clear hI3 hmV3 cr cl cs HD bl bs bt
    clear ct
    rw [rounds_succ]
    replace cx : V3.cell? ⟨mx, 0, none⟩ = some (.pointer (some ⟨b + 3, 0, none⟩)) := bx.cell 0
    replace cd : V3.cell? ⟨md, 0, none⟩ = some (.int .i64 d) := bd.cell 0
    replace cr : V3.cell? ⟨mr, 0, none⟩ = some (.int .i64 3) := br.cell 0
    go_wp2_with fail
    refine (get_eqL V3 b R3 d mB 0 hwd hI hzz).mono ?_
    rintro e V4 ⟨rfl, hm⟩
    replace b0 := b0.mod hm (by first | exact id | omega | (unfold Ix; omega) | (unfold LateS Ix; omega))
    replace hM := hM.trans hm
    replace HDF0 : Hid (V4.heap[D0]? = some (.deferred (some []))) := hide ((hm.block D0 (Array.getElem?_eq_some_iff.1 HDF0.out).1 (by first | exact id | omega | (unfold Ix; omega) | (unfold LateS Ix; omega))).trans HDF0.out)
    replace HDF1 : Hid (V4.heap[D1]? = some (.deferred (some []))) := hide ((hm.block D1 (Array.getElem?_eq_some_iff.1 HDF1.out).1 (by first | exact id | omega | (unfold Ix; omega) | (unfold LateS Ix; omega))).trans HDF1.out)
    replace HDF2 : Hid (V4.heap[D2]? = some (.deferred (some []))) := hide ((hm.block D2 (Array.getElem?_eq_some_iff.1 HDF2.out).1 (by first | exact id | omega | (unfold Ix; omega) | (unfold LateS Ix; omega))).trans HDF2.out)
    clear hm cx cd cr bx bd b3 b4 br hI
    have c0 : V4.cell? ⟨m0, 0, none⟩ = some (.bool false) := b0.cell 0
    have f0 : V4.frozen? ⟨m0, 0, none⟩ = false := b0.frozen 0
    obtain ⟨W, hW⟩ : ∃ W, W = V4.setCell ⟨m0, 0, none⟩ (.bool true) := ⟨_, rfl⟩
    have hb1 : Blk W m0 4 #[.bool true] := by rw [hW]; simpa using b0.set_ 0 (.bool true)
    have hms : Mod (· = m0) V4 W := by rw [hW]; exact (Mod.refl (· = m0) V4).setCell (p := ⟨m0, 0, none⟩) (.inr rfl) _
    have hME : Mod None_ w W := hM.trans' hms (fun k hk e => by omega)
    have hk0 : W.heap[D0]? = some (.deferred (some [])) := (hms.block D0 (Array.getElem?_eq_some_iff.1 HDF0.out).1 (by omega)).trans HDF0.out
    have HK0 := hide hk0
    have hk1 : W.heap[D1]? = some (.deferred (some [])) := (hms.block D1 (Array.getElem?_eq_some_iff.1 HDF1.out).1 (by omega)).trans HDF1.out
    have HK1 := hide hk1
    have hk2 : W.heap[D2]? = some (.deferred (some [])) := (hms.block D2 (Array.getElem?_eq_some_iff.1 HDF2.out).1 (by omega)).trans HDF2.out
    have HK2 := hide hk2
    have HW := hide hW
    have HME := hide hME
    have HB1 := hide hb1
    clear hW hb1 hms hME hk0 hk1 hk2
    go_wp2
    rw [← HW.out]
    have hne01 : D0 ≠ D1 := by omega
    have hne02 : D0 ≠ D2 := by omega
    have hne12 : D1 ≠ D2 := by omega
    have hm2 : Mod (· = D2) W (W.putObj D2 (.deferred none)) := (Mod.of_grown (grownBy_putObj' _ D2 _)).mono fun k _ e => by cases e; rfl
    have hm1 : Mod (· = D1) (W.putObj D2 (.deferred none)) ((W.putObj D2 (.deferred none)).putObj D1 (.deferred none)) := (Mod.of_grown (grownBy_putObj' _ D1 _)).mono fun k _ e => by cases e; rfl
    have hm0 : Mod (· = D0) ((W.putObj D2 (.deferred none)).putObj D1 (.deferred none)) (((W.putObj D2 (.deferred none)).putObj D1 (.deferred none)).putObj D0 (.deferred none)) := (Mod.of_grown (grownBy_putObj' _ D0 _)).mono fun k _ e => by cases e; rfl
    have hk1 : (W.putObj D2 (.deferred none)).heap[D1]? = some (.deferred (some [])) := (World.putObj_heap_other hne12).trans HK1.out
    have hk0 : ((W.putObj D2 (.deferred none)).putObj D1 (.deferred none)).heap[D0]? = some (.deferred (some [])) := (World.putObj_heap_other hne01).trans ((World.putObj_heap_other hne02).trans HK0.out)
    have hc := (((HB1.out.mod hm2 (by omega)).mod hm1 (by omega)).mod hm0 (by omega)).cell 0
    have HFI := hide (((HME.out.trans' hm2 (fun k hk e => by omega)).trans' hm1 (fun k hk e => by omega)).trans' hm0 (fun k hk e => by omega))
    clear hm0 hm1 hm2
    refine ⟨by simp, .inl ⟨_, _, rfl, run_takeDeferred HK2.out, ?_⟩⟩
    refine ⟨by simp, .inl ⟨_, _, rfl, run_takeDeferred hk1, ?_⟩⟩
    refine ⟨by simp, .inl ⟨_, _, rfl, run_takeDeferred hk0, ?_⟩⟩
    refine ⟨.bool true, ?_, rfl, HFI.out⟩
    simp [results, Try.results8, go_sem, hc]
end Go.Proofs.Ytmamdacmpikdbaa

