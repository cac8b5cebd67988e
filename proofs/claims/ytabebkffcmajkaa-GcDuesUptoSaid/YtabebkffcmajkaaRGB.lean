import Derived.Test.YtabebkffcmajkaaRG4
/-! Reference walk: Good, of files. -/
namespace Go.Proofs.Ytabebkffcmajkaa
open Go.RowKit Go.Maps Go.Shelf
attribute [local go_sem] quietV loudUpon Oper.semAt_some

theorem refFile_size {n : NodeD} (h : ¬ (0 ≤ n.size ∧ n.size ≤ 262144)) : refFile n = false := by unfold refFile; rw [decide_eq_false h]; rfl
theorem refFile_names {n : NodeD} (h : ¬ n.names.length = 0) : refFile n = false := by unfold refFile; rw [decide_eq_false h]; simp
theorem refFile_run {n : NodeD} {k : Nat} (hk : k < n.map.length) (h : refEnd n.size n.map[k] = false) : refFile n = false := by
  have : n.map.all (refEnd n.size) = false := by rw [List.all_eq_false]; exact ⟨_, List.getElem_mem hk, by rw [h]; decide⟩
  unfold refFile; rw [this]; simp
theorem refFile_ok {n : NodeD} (h1 : 0 ≤ n.size ∧ n.size ≤ 262144) (h2 : n.names.length = 0) (h3 : n.map.all (refEnd n.size) = true) : refFile n = decide (n.map = runsT (tableOf n.map)) := by
  unfold refFile; rw [decide_eq_true h1, decide_eq_true h2, h3]; simp
theorem mxw_qval {P : Program} {I : World → Prop} {Q : Act → World → Prop} {k : Nat} {o : Oper} {os : List Oper} {l : List (Bool × Nat)} {a : Act} {w : World} {v : Value} (ho : os[k]? = some o) (hg : o.guard = none)
    (h : ∀ w', I w' → (execOp a.eval o).run P w' = .ok (.value v) w') (hn : MxW P os.toArray I Q l (a.put o.dst v) w) : MxW P os.toArray I Q ((true, k) :: l) a w :=
  mxw_quiet ho (fun w' hw' K hK => by rw [if_pos (by simp [Region.wanted, hg]), h w' hw']; exact ⟨rfl, hK⟩) hn
theorem zeroV (w : World) : (zeroValue 73).run Try.prog w = .ok (.agg Try.zeroCells73) w := by kernel_rfl
def BoolPost (w : World) (b : Bool) : Ending → World → Prop := fun e w' => e = .returned (.bool b) ∧ Mod None_ w w'

set_option maxRecDepth 100000 in
set_option maxHeartbeats 2000000 in
theorem refGood_file (w : World) (n : NodeD) (vm vn vl : Value) (h : NodeAt w n vm vn vl) (hk : n.kind = 1) : Calls Try.prog 23 #[.agg (nodeC n vm vn vl)] w (BoolPost w (refFile n)) := by
  obtain ⟨An, cn, rfl, hcn1, hcn2, _⟩ := id h.names
  obtain ⟨Am, cm, rfl, hcm1, hcm2, hml, _, _⟩ := id h.map
  have hnl := h.nlen
  have hln : ∀ w, (Builtin.len_ #[23] 3 #[.slice An n.names.length cn]).run Try.prog w = .ok (.int .i64 n.names.length) w := fun w => by simp [Builtin.len_, run_underlying Try.underlying23]; rfl
  have hlm : ∀ w, (Builtin.len_ #[22] 3 #[.slice Am n.map.length cm]).run Try.prog w = .ok (.int .i64 n.map.length) w := fun w => by simp [Builtin.len_, run_underlying Try.underlying22]; rfl
  have HN := hide h
  clear h
  unfold nodeC
  go_enter Try.func23, Try.ntmps23
  obtain ⟨m, hm⟩ : ∃ m, m = w.heap.size := ⟨_, rfl⟩
  obtain ⟨w1, hw1⟩ : ∃ w1, w1 = w.alloc (.cells (nodeC n (.slice Am n.map.length cm) (.slice An n.names.length cn) vl) 26) := ⟨_, rfl⟩
  have hM : Mod None_ w w1 := by rw [hw1]; exact (Mod.refl _ w).alloc _
  have b1 : Blk w1 m 26 (nodeC n (.slice Am n.map.length cm) (.slice An n.names.length cn) vl) := by rw [hw1, hm]; exact Blk.new w 26 _
  have c1 : w1.cell? ⟨m, 1, none⟩ = some (.int .i64 n.kind) := b1.cell 1
  have c3 : w1.cell? ⟨m, 3, none⟩ = some (.int .i64 n.size) := b1.cell 3
  have c4 : w1.cell? ⟨m, 4, none⟩ = some (.slice Am n.map.length cm) := b1.cell 4
  have c5 : w1.cell? ⟨m, 5, none⟩ = some (.slice An n.names.length cn) := b1.cell 5
  have d1 : (n.kind == 1) = true := by simp [hk]
  unfold nodeC at hw1
  have HW1 := hide hw1
  have HMM := hide hm
  clear hw1 hm hk
  go_upto_region 1 with fail
  rw [← HMM.out, ← HW1.out]
  clear HW1 HMM
  by_cases hz : 0 ≤ n.size ∧ n.size ≤ 262144
  · obtain ⟨hz0, hz1⟩ := hz
    have d2 : ¬ n.size < 0 := by omega
    have d3 : decide (262144 < n.size) = false := decide_eq_false (by omega)
    by_cases hn0 : n.names.length = 0
    · have d4 : decide (0 < n.names.length) = false := decide_eq_false (by omega)
      have HN0 := hide hn0
      clear hn0
      go_wp2_with fail
      go_loopw [3] (fun s3 wr => ∃ k : Nat, k ≤ n.map.length ∧ s3 = .int .i64 k ∧ (n.map.take k).all (refEnd n.size) = true ∧ Mod None_ w wr ∧ Blk wr m 26 (nodeC n (.slice Am n.map.length cm) (.slice An n.names.length cn) vl)) (fun s3 _ => n.map.length - (intOf s3).toNat)
      case atStart => exact ⟨0, Nat.zero_le _, rfl, rfl, hM, b1⟩
      clear hM b1 c1 c3 c4 c5
      obtain ⟨k, hk, rfl, hall, hM, b1⟩ := hrel
      have c3 : wr.cell? ⟨m, 3, none⟩ = some (.int .i64 n.size) := b1.cell 3
      have c4 : wr.cell? ⟨m, 4, none⟩ = some (.slice Am n.map.length cm) := b1.cell 4
      by_cases hlt : k < n.map.length
      · have hki : (k : Int) < n.map.length := by omega
        obtain ⟨_, _, hcv, _, _, hcell⟩ := (HN.out.kept hM).map.list
        simp only [Value.slice.injEq, true_and] at hcv
        obtain ⟨rfl, rfl⟩ := hcv
        obtain ⟨g, o, rfl, hg, hcell⟩ := hcell (by omega)
        have x0 : wr.cell? ⟨g, o + k * 3, none⟩ = some (.int .i64 n.map[k].off) := hcell k hlt 0 _ rfl
        have x1 : wr.cell? ⟨g, o + k * 3 + 1, none⟩ = some (.int .i64 n.map[k].page) := hcell k hlt 1 _ rfl
        have x2 : wr.cell? ⟨g, o + k * 3 + 2, none⟩ = some (.int .i64 n.map[k].count) := hcell k hlt 2 _ rfl
        have hbad := refFile_run hlt
        have hsn : refEnd n.size n.map[k] = true → (n.map.take (k + 1)).all (refEnd n.size) = true := fun h => by
          rw [List.take_succ_eq_append_getElem hlt, List.all_append, hall]; simp [h]
        obtain ⟨x, hx⟩ : ∃ x, x = n.map[k] := ⟨_, rfl⟩
        rw [← hx] at x0 x1 x2 hbad hsn
        have HB := hide hbad
        have HS := hide hsn
        clear hcell hall hbad hsn hx
        go_wp2_with fail
        refine (refRun_any wr x).mono ?_
        rintro e w2 ⟨rfl, hm2⟩
        have hM2 := hM.trans hm2
        have b2 := b1.mod hm2 id
        have hg2 : g < w2.heap.size := Nat.lt_of_lt_of_le hg hm2.size
        replace x0 := (World.cell?_of_block (hm2.block g hg id)).trans x0
        replace x2 := (World.cell?_of_block (hm2.block g hg id)).trans x2
        clear hM b1 hm2 c3 c4 x1
        go_upto_region 8 with fail
        cases hr : refRun x with
        | false =>
          have HF : Hid (∀ w', Mod None_ w w' → BoolPost w (refFile n) (.returned (.bool false)) w') := hide fun w' h => by rw [HB.out (by unfold refEnd; rw [hr]; rfl)]; exact ⟨rfl, h⟩
          clear hr
          go_wp2_with fail
          refine region_stw (by kernel_rfl) (by kernel_rfl) ?_
          rintro w3 hw3
          have hM3 : Mod None_ w w3 := by rw [hw3]; exact hM2.drew
          clear hw3 x0 x2
          repeat (refine stw_step (fun K hK => ?_); go_simp; refine hK _ ?_; clear hK K)
          refine stw_nil ?_
          have HG := hide (HF.out _ hM3)
          clear hM3
          go_wp2
          go_ret
          exact HG.out
        | true =>
          have hq := (refRun_iff x).1 hr
          obtain ⟨q1, q2, q3, q4, q5, q6, q7⟩ := hq
          go_wp2_with fail
          refine region_stw (by kernel_rfl) (by kernel_rfl) ?_
          rintro w3 hw3
          have hm3 : Mod None_ w2 w3 := by rw [hw3]; exact (Mod.refl _ w2).drew
          have hM3 := hM2.trans hm3
          have b3 := b2.mod hm3 id
          have c3 : w3.cell? ⟨m, 3, none⟩ = some (.int .i64 n.size) := b3.cell 3
          have c4 : w3.cell? ⟨m, 4, none⟩ = some (.slice (some ⟨g, o, none⟩) n.map.length cm) := b3.cell 4
          replace x0 := (World.cell?_of_block (hm3.block g hg2 id)).trans x0
          replace x2 := (World.cell?_of_block (hm3.block g hg2 id)).trans x2
          have HE := hide (refEndPage_any n.size w3 hz0 hz1)
          have ew : IntKind.i64.wrap (x.off + x.count) = x.off + x.count := IntWalk.i64_in _ (by omega)
          have ew2 : x.off + x.count - (n.size + 511) / 512 ≤ 100000000 := by omega
          clear hw3 hm3 hM2 b2 hg2
          repeat (refine stw_step (fun K hK => ?_); go_simp; refine hK _ ?_; clear hK K)
          refine stw_step (fun K hK => ?_)
          go_simp
          refine ⟨_, HE.out.mono (fun e w'' h => ⟨h.1, h.2.symm⟩), hK _ ?_⟩
          clear hK K
          by_cases hle : x.off + x.count ≤ (n.size + 511) / 512
          · have de : decide ((n.size + 511) / 512 < x.off + x.count) = false := decide_eq_false (by omega)
            have HT := hide (HS.out (by unfold refEnd endOf; rw [hr, decide_eq_true hle]; rfl))
            clear hle hr ew2
            repeat (refine stw_step (fun K hK => ?_); go_simp; refine hK _ ?_; clear hK K)
            refine stw_nil ?_
            go_wp2_with fail
            go_roundw
            case rel => exact ⟨k + 1, by omega, by simp, HT.out, hM3, b3⟩
            case measure => simp [intOf]; omega
          · have de : decide ((n.size + 511) / 512 < x.off + x.count) = true := decide_eq_true (by omega)
            have hfin : BoolPost w (refFile n) (.returned (.bool false)) w3 := by rw [HB.out (by unfold refEnd endOf; rw [decide_eq_false hle]; simp)]; exact ⟨rfl, hM3⟩
            have HG := hide hfin
            clear hle hr ew2 hfin hM3 b3
            repeat (refine stw_step (fun K hK => ?_); go_simp; refine hK _ ?_; clear hK K)
            refine stw_nil ?_
            go_wp2
            go_ret
            exact HG.out
      · obtain rfl : k = n.map.length := by omega
        have hkn : ¬ (n.map.length : Int) < n.map.length := by omega
        rw [List.take_length] at hall
        have hrr : ∀ r ∈ n.map, refRun r = true := fun r hr => by
          have := List.all_eq_true.1 hall r hr
          simp only [refEnd, Bool.and_eq_true] at this
          exact this.1
        have hfin := refFile_ok ⟨hz0, hz1⟩ HN0.out hall
        have HF := hide hfin
        have HT := hide (refTable_any wr (.slice Am n.map.length cm) n.map (HN.out.kept hM).map hrr)
        have HR := hide (table_in hrr)
        clear hfin hall hrr hlt
        go_wp2_with fail
        refine Calls.mono HT.out ?_
        rintro e w2 ⟨rfl, hm2⟩
        have hM2 := hM.trans hm2
        have b2 := b1.mod hm2 id
        clear hM b1 hm2 c3 c4 HT
        obtain ⟨T, hT⟩ : ∃ T : Array Value, T = tabCells (tableOf n.map) := ⟨_, rfl⟩
        rw [← hT]
        have hTs : T.size = 512 := by rw [hT, tabCells, Array.size_ofFn]
        have hone : T.all (·.oneCell') = true := by
          rw [Array.all_eq_true]
          intro i hi
          have e : T[i]? = some (.int .i64 (tableOf n.map i)) := by rw [hT]; exact tabCells_get _ (by omega)
          rw [Array.getElem?_eq_getElem hi] at e
          rw [Option.some.inj e]; rfl
        have hi5 : (Try.prog.info? 73).map (·.size) = some 512 := by kernel_rfl
        have hi6 : (Try.prog.info? 73).map (·.size) = some T.size := by rw [hi5, hTs]
        have hzc : Try.zeroCells73.size = T.size := by rw [hTs, zeroTab, tabCells, Array.size_ofFn]
        have H1 := hide hone
        have H2 := hide hi6
        have H3 := hide hzc
        have HTT := hide hT
        clear hT hone hi5 hi6 hzc hTs
        obtain ⟨q, hq⟩ : ∃ q, q = w2.heap.size := ⟨_, rfl⟩
        obtain ⟨w3, hw3⟩ : ∃ w3, w3 = w2.alloc (.cells T 73) := ⟨_, rfl⟩
        have hm3 : Mod None_ w2 w3 := by rw [hw3]; exact (Mod.refl _ w2).alloc _
        have bt : Blk w3 q 73 T := by rw [hw3, hq]; exact Blk.new w2 73 _
        have hM3 := hM2.trans hm3
        have b3 := b2.mod hm3 id
        have HQ := hide hq
        have HW3 := hide hw3
        clear hq hw3 hm3 hM2 b2
        go_wp2_with ((with_reducible refine at_slot 5 ?_); refine wpList_declare rfl rfl 73 5 (.tmp 61) rfl rfl rfl Try.zeroCells73 T zeroV H2.out H3.out H1.out (by simp) rfl ?_; go_frame)
        rw [← HW3.out, ← HQ.out]
        clear HW3 HQ H3
        refine region_mxw [(true, 0), (true, 1), (true, 2), (false, 3), (false, 4), (true, 5)] (fun w' => w'.cell? ⟨m, 4, none⟩ = some (.slice Am n.map.length cm) ∧ Blk w' q 73 T) (by kernel_rfl) (by kernel_rfl) ?_
        rintro w4 hw4
        have hm4 : Mod None_ w3 w4 := by rw [hw4]; exact (Mod.refl _ w3).drew
        have hM4 := hM3.trans hm4
        have b4 := b3.mod hm4 id
        have bt4 := bt.mod hm4 id
        clear hw4 hm4 hM3 b3 bt
        refine ⟨⟨b4.cell 4, bt4⟩, ?_⟩
        iterate 2 (refine mxw_quiet rfl (fun w' i1 K hK => by have i2 := i1.1; clear i1; go_simp; exact hK) ?_; go_frame)
        refine mxw_qval rfl (v := .agg T) rfl (fun w' i1 => ex_load rfl (run_loadRow i1.2 Try.underlying73 rfl H2.out)) ?_
        go_frame
        have HRU := hide (refRuns_any w4 _ HR.out)
        have HN4 := hide (HN.out.kept hM4)
        refine mxw_loud rfl (fun K hK => ?_)
        go_simp
        rw [HTT.out]
        refine Calls.mono HRU.out ?_
        rintro e w5 ⟨v5, rfl, hl5, hm5⟩
        rw [← HTT.out]
        have hM5 := hM4.trans hm5
        have b5 := b4.mod hm5 id
        have bt5 := bt4.mod hm5 id
        have HSM := hide (refSameRuns w5 _ v5 _ _ (HN4.out.kept hm5).map.list hl5)
        clear hm5 hM4 b4 bt4 hl5 HRU
        refine ⟨_, rfl, ⟨b5.cell 4, bt5⟩, hK _ _ ?_⟩
        clear hK K
        try go_frame
        refine mxw_loud rfl (fun K hK => ?_)
        go_simp
        refine Calls.mono HSM.out ?_
        rintro e w6 ⟨rfl, hm6⟩
        have hM6 := hM5.trans hm6
        have b6 := b5.mod hm6 id
        have bt6 := bt5.mod hm6 id
        clear hm6 hM5 b5 bt5
        refine ⟨_, rfl, ⟨b6.cell 4, bt6⟩, hK _ _ ?_⟩
        clear hK K
        try go_frame
        refine mxw_quiet rfl (fun w' i1 K hK => by clear i1; go_simp; exact hK) ?_
        go_frame
        refine mxw_nil ?_
        have hfin : BoolPost w (refFile n) (.returned (.bool (decide (n.map = runsT (tableOf n.map))))) w6 := by rw [HF.out]; exact ⟨rfl, hM6⟩
        have HG := hide hfin
        clear hfin hM6 b6 bt6 HF HSM
        go_wp2
        go_ret
        exact HG.out
    · have d4 : decide (0 < n.names.length) = true := decide_eq_true (by omega)
      have hfin : BoolPost w (refFile n) (.returned (.bool false)) w1 := by rw [refFile_names hn0]; exact ⟨rfl, hM⟩
      have HF := hide hfin
      clear hfin hn0
      go_wp2
      go_ret
      exact HF.out
  · have hfin : BoolPost w (refFile n) (.returned (.bool false)) w1 := by rw [refFile_size hz]; exact ⟨rfl, hM⟩
    have HF := hide hfin
    clear hfin
    by_cases h0 : n.size < 0
    · clear hz
      go_wp2
      go_ret
      exact HF.out
    · have d3 : decide (262144 < n.size) = true := decide_eq_true (by omega)
      clear hz
      go_wp2
      go_ret
      exact HF.out
end Go.Proofs.Ytabebkffcmajkaa

/-! Reference walk: Good, of directories and others. -/
namespace Go.Proofs.Ytabebkffcmajkaa
open Go.RowKit Go.Maps Go.Shelf
attribute [local go_sem] quietV loudUpon Oper.semAt_some

theorem refDir_size {n : NodeD} (h : ¬ n.size = 0) : refDir n = false := by unfold refDir; rw [decide_eq_false h]; rfl
theorem refDir_map {n : NodeD} (h : ¬ n.map.length = 0) : refDir n = false := by unfold refDir; rw [decide_eq_false h]; simp
theorem refDir_dent {n : NodeD} {k : Nat} (hk : k < n.names.length) (h : goodDent n.names[k] = false) : refDir n = false := by
  have : n.names.all goodDent = false := by rw [List.all_eq_false]; exact ⟨_, List.getElem_mem hk, by rw [h]; decide⟩
  unfold refDir; rw [this]; simp
theorem refDir_rise {n : NodeD} {k : Nat} (hk : k < n.names.length) (h0 : 0 < k) (h : strLt (n.names[k - 1]'(by omega)).1 n.names[k].1 = false) : refDir n = false := by
  unfold refDir; rw [decide_eq_false (rises_not hk h0 h)]; simp
theorem refDir_ok {n : NodeD} (h1 : n.size = 0) (h2 : n.map.length = 0) (h3 : n.names.all goodDent = true) (h4 : Rises n.names) : refDir n = true := by
  unfold refDir; rw [decide_eq_true h1, decide_eq_true h2, h3, decide_eq_true h4]; rfl

set_option maxRecDepth 100000 in
set_option maxHeartbeats 2000000 in
theorem refGood_other (w : World) (n : NodeD) (vm vn vl : Value) (h : NodeAt w n vm vn vl) (hk1 : ¬ n.kind = 1) : Calls Try.prog 23 #[.agg (nodeC n vm vn vl)] w (BoolPost w (if n.kind = 2 then refDir n else false)) := by
  obtain ⟨An, cn, rfl, hcn1, hcn2, _⟩ := id h.names
  obtain ⟨Am, cm, rfl, hcm1, hcm2, hml, _, _⟩ := id h.map
  have hnl := h.nlen
  have hln : ∀ w, (Builtin.len_ #[23] 3 #[.slice An n.names.length cn]).run Try.prog w = .ok (.int .i64 n.names.length) w := fun w => by simp [Builtin.len_, run_underlying Try.underlying23]; rfl
  have hlm : ∀ w, (Builtin.len_ #[22] 3 #[.slice Am n.map.length cm]).run Try.prog w = .ok (.int .i64 n.map.length) w := fun w => by simp [Builtin.len_, run_underlying Try.underlying22]; rfl
  have HN := hide h
  clear h
  unfold nodeC
  go_enter Try.func23, Try.ntmps23
  obtain ⟨m, hm⟩ : ∃ m, m = w.heap.size := ⟨_, rfl⟩
  obtain ⟨w1, hw1⟩ : ∃ w1, w1 = w.alloc (.cells (nodeC n (.slice Am n.map.length cm) (.slice An n.names.length cn) vl) 26) := ⟨_, rfl⟩
  have hM : Mod None_ w w1 := by rw [hw1]; exact (Mod.refl _ w).alloc _
  have b1 : Blk w1 m 26 (nodeC n (.slice Am n.map.length cm) (.slice An n.names.length cn) vl) := by rw [hw1, hm]; exact Blk.new w 26 _
  have c1 : w1.cell? ⟨m, 1, none⟩ = some (.int .i64 n.kind) := b1.cell 1
  have c3 : w1.cell? ⟨m, 3, none⟩ = some (.int .i64 n.size) := b1.cell 3
  have c4 : w1.cell? ⟨m, 4, none⟩ = some (.slice Am n.map.length cm) := b1.cell 4
  have c5 : w1.cell? ⟨m, 5, none⟩ = some (.slice An n.names.length cn) := b1.cell 5
  have d1 : (n.kind == 1) = false := by simpa using hk1
  unfold nodeC at hw1
  have HW1 := hide hw1
  have HMM := hide hm
  clear hw1 hm hk1
  go_upto_region 1 with fail
  rw [← HMM.out, ← HW1.out]
  clear HW1 HMM
  by_cases hk2 : n.kind = 2
  · rw [if_pos hk2]
    by_cases hz : n.size = 0
    · have d3 : (n.size != 0) = false := by simp [hz]
      by_cases hm0 : n.map.length = 0
      · have d4 : decide (0 < n.map.length) = false := decide_eq_false (by omega)
        have HZ := hide hz
        have HM0 := hide hm0
        clear hz hm0
        go_wp2_with fail
        go_loopw [6] (fun s6 wr => ∃ k : Nat, k ≤ n.names.length ∧ s6 = .int .i64 k ∧ (n.names.take k).all goodDent = true ∧ Rises (n.names.take k) ∧ Mod None_ w wr ∧ Blk wr m 26 (nodeC n (.slice Am n.map.length cm) (.slice An n.names.length cn) vl)) (fun s6 _ => n.names.length - (intOf s6).toNat)
        case atStart => exact ⟨0, Nat.zero_le _, rfl, rfl, .nil, hM, b1⟩
        clear hM b1 c1 c3 c4 c5
        obtain ⟨k, hk, rfl, hall, hri, hM, b1⟩ := hrel
        have c5 : wr.cell? ⟨m, 5, none⟩ = some (.slice An n.names.length cn) := b1.cell 5
        by_cases hlt : k < n.names.length
        · have hki : (k : Int) < n.names.length := by omega
          have HHCELL := hide (HN.out.kept hM).names
          obtain ⟨_, _, hcv, _, _, hcell⟩ := HHCELL.out
          simp only [Value.slice.injEq, true_and] at hcv
          obtain ⟨rfl, rfl⟩ := hcv
          obtain ⟨g, o, rfl, hg, hcell⟩ := hcell (by omega)
          have x0 : wr.cell? ⟨g, o + k * 2, none⟩ = some (.string n.names[k].1) := hcell k hlt 0 _ rfl
          have x1 : wr.cell? ⟨g, o + k * 2 + 1, none⟩ = some (.int .i64 n.names[k].2) := hcell k hlt 1 _ rfl
          have hbad := refDir_dent hlt
          have hsn : goodDent n.names[k] = true → (n.names.take (k + 1)).all goodDent = true := fun h => by
            rw [List.take_succ_eq_append_getElem hlt, List.all_append, hall]; simp [h]
          have hrn := rises_snoc hri hlt
          have hrb := refDir_rise hlt
          have hprev : ∀ h0 : 0 < k, wr.cell? ⟨g, o + (k - 1) * 2, none⟩ = some (.string (n.names[k - 1]'(by omega)).1) := fun h0 => hcell (k - 1) (by omega) 0 _ rfl
          have HP := hide hprev
          obtain ⟨x, hx⟩ : ∃ x, x = n.names[k] := ⟨_, rfl⟩
          rw [← hx] at x0 x1 hbad hsn
          have HX := hide hx
          have HB := hide hbad
          have HS := hide hsn
          have HRN := hide hrn
          have HRB := hide hrb
          clear hcell hall hbad hsn hx hrn hrb hprev hri HHCELL
          go_wp2_with fail
          refine (refValid_any x.1 wr).mono ?_
          rintro e w2 ⟨rfl, rfl⟩
          cases hg1 : goodName x.1 with
          | false =>
            have hfin : BoolPost w (refDir n) (.returned (.bool false)) wr := by rw [HB.out (by unfold goodDent; rw [hg1]; rfl)]; exact ⟨rfl, hM⟩
            have HF := hide hfin
            clear hfin hg1 hM b1
            go_wp2
            go_ret
            exact HF.out
          | true =>
            by_cases hi : 2 ≤ x.2 ∧ x.2 ≤ 256
            · have hgd : goodDent x = true := by unfold goodDent; rw [hg1, decide_eq_true hi]; rfl
              have HGD := hide (HS.out hgd)
              obtain ⟨hi1, hi2⟩ := hi
              have e1 : ¬ x.2 < 2 := by omega
              have e2 : decide (256 < x.2) = false := decide_eq_false (by omega)
              clear hg1 hgd
              go_wp2_with fail
              by_cases hk0 : k = 0
              · have d9 : decide ((0 : Int) < k) = false := decide_eq_false (by omega)
                have d8 : ¬ 0 < k := by omega
                have HR := hide (HRN.out (fun h0 => absurd hk0 (by omega)))
                clear hk0
                refine region_stw (by kernel_rfl) (by kernel_rfl) ?_
                rintro w3 hw3
                have hm3 : Mod None_ wr w3 := by rw [hw3]; exact (Mod.refl _ wr).drew
                have hM3 := hM.trans hm3
                have b3 := b1.mod hm3 id
                clear hw3 hm3 hM b1 c5 x0 x1
                repeat (refine stw_step (fun K hK => ?_); go_simp; refine hK _ ?_; clear hK K)
                refine stw_nil ?_
                go_wp2_with fail
                go_roundw
                case rel => exact ⟨k + 1, by omega, by simp, HGD.out, HR.out, hM3, b3⟩
                case measure => simp [intOf]; omega
              · obtain ⟨j, hj⟩ : ∃ j, j = k - 1 := ⟨_, rfl⟩
                have hj0 : 0 < k := by omega
                have p0 := HP.out hj0
                have hji : (j : Int) < n.names.length := by omega
                have ej : IntKind.i64.wrap ((k : Int) - 1) = (j : Int) := by rw [show (k : Int) - 1 = j by omega]; exact IntWalk.i64_in _ (by omega)
                have d9 : decide ((0 : Int) < k) = true := decide_eq_true (by omega)
                have hrn := HRN.out
                have hrb := HRB.out hj0
                rw [← HX.out] at hrb hrn
                obtain ⟨p, hp⟩ : ∃ p, p = (n.names[k - 1]'(by omega)).1 := ⟨_, rfl⟩
                rw [← hp] at p0 hrb
                rw [← hj] at p0
                have HRB2 := hide hrb
                have HRN2 : Hid (strLt p x.1 = true → Rises (n.names.take (k + 1))) := hide fun h => hrn fun _ => by rw [← hp]; exact h
                have hj0' : (0 : Int) < k := by omega
                clear hrn hrb hp hj hk0
                refine region_stw (by kernel_rfl) (by kernel_rfl) ?_
                rintro w3 hw3
                have hm3 : Mod None_ wr w3 := by rw [hw3]; exact (Mod.refl _ wr).drew
                have hM3 := hM.trans hm3
                have b3 := b1.mod hm3 id
                have c5 : w3.cell? ⟨m, 5, none⟩ = some (.slice (some ⟨g, o, none⟩) n.names.length cn) := b3.cell 5
                replace x0 := (World.cell?_of_block (hm3.block g hg id)).trans x0
                replace p0 := (World.cell?_of_block (hm3.block g hg id)).trans p0
                clear hw3 hm3 hM b1 x1
                cases hs : strLt p x.1 with
                | true =>
                  have HR := hide (HRN2.out hs)
                  have hb : Op.bytesLess p.toList x.1.toList = true := hs
                  clear hs
                  repeat (refine stw_step (fun K hK => ?_); go_simp; refine hK _ ?_; clear hK K)
                  refine stw_nil ?_
                  go_wp2_with fail
                  go_roundw
                  case rel => exact ⟨k + 1, by omega, by simp, HGD.out, HR.out, hM3, b3⟩
                  case measure => simp [intOf]; omega
                | false =>
                  have hfin : BoolPost w (refDir n) (.returned (.bool false)) w3 := by rw [HRB2.out hs]; exact ⟨rfl, hM3⟩
                  have HF := hide hfin
                  have hb : Op.bytesLess p.toList x.1.toList = false := hs
                  clear hs hfin hM3
                  repeat (refine stw_step (fun K hK => ?_); go_simp; refine hK _ ?_; clear hK K)
                  refine stw_nil ?_
                  go_wp2
                  go_ret
                  exact HF.out
            · have hfin : BoolPost w (refDir n) (.returned (.bool false)) wr := by rw [HB.out (by unfold goodDent; rw [hg1, decide_eq_false hi]; rfl)]; exact ⟨rfl, hM⟩
              have HF := hide hfin
              clear hfin hg1 hM b1
              by_cases e1 : x.2 < 2
              · clear hi
                go_wp2
                go_ret
                exact HF.out
              · have e2 : decide (256 < x.2) = true := decide_eq_true (by omega)
                clear hi
                go_wp2
                go_ret
                exact HF.out
        · obtain rfl : k = n.names.length := by omega
          have hkn : ¬ (n.names.length : Int) < n.names.length := by omega
          rw [List.take_length] at hall hri
          have hfin : BoolPost w (refDir n) (.returned (.bool true)) wr := by rw [refDir_ok HZ.out HM0.out hall hri]; exact ⟨rfl, hM⟩
          have HF := hide hfin
          clear hfin hall hri hM b1 hlt
          go_wp2
          go_ret
          exact HF.out
      · have d4 : decide (0 < n.map.length) = true := decide_eq_true (by omega)
        have hfin : BoolPost w (refDir n) (.returned (.bool false)) w1 := by rw [refDir_map hm0]; exact ⟨rfl, hM⟩
        have HF := hide hfin
        clear hfin hm0 hz
        go_wp2
        go_ret
        exact HF.out
    · have d3 : (n.size != 0) = true := by simpa using hz
      have hfin : BoolPost w (refDir n) (.returned (.bool false)) w1 := by rw [refDir_size hz]; exact ⟨rfl, hM⟩
      have HF := hide hfin
      clear hfin hz
      go_wp2
      go_ret
      exact HF.out
  · have hfin : BoolPost w false (.returned (.bool false)) w1 := ⟨rfl, hM⟩
    rw [if_neg hk2]
    have HF := hide hfin
    clear hfin
    go_wp2
    go_ret
    exact HF.out
theorem refGood_any (w : World) (n : NodeD) (vm vn vl : Value) (h : NodeAt w n vm vn vl) : Calls Try.prog 23 #[.agg (nodeC n vm vn vl)] w (BoolPost w (nodeGood n)) := by
  rw [← refGood_eq]
  unfold refGood
  by_cases hk : n.kind = 1
  · rw [if_pos hk]; exact refGood_file w n vm vn vl h hk
  · rw [if_neg hk]; exact refGood_other w n vm vn vl h hk
end Go.Proofs.Ytabebkffcmajkaa
