import Derived.Test.YtabebkffcmajkaaGD2
/-! Walks: furrowlaw10's sameInts, sameMeaning, sameNode; GcDues. -/
namespace Go.Proofs.Ytabebkffcmajkaa
open Go.RowKit Go.Maps Go.Shelf
attribute [local go_sem] quietV loudUpon Oper.semAt_some

set_option maxRecDepth 100000 in
set_option maxHeartbeats 1000000 in
theorem gcSameInts (w : World) (v v' : Value) (l l' : List (Int)) (h : ListAt encInt 1 w v l) (h' : ListAt encInt 1 w v' l') :
    Calls Try.prog 29 #[v, v'] w fun e w' => e = .returned (.bool (decide (l = l'))) ∧ Mod None_ w w' := by
  obtain ⟨A, c, rfl, hc1, hc2, hA⟩ := h
  obtain ⟨A', c', rfl, hc1', hc2', hA'⟩ := h'
  unfold maxLen at hc2 hc2'
  have hln : ∀ w, (Builtin.len_ #[24] 3 #[.slice A l.length c]).run Try.prog w = .ok (.int .i64 l.length) w := fun w => by simp [Builtin.len_, run_underlying Try.underlying24]; rfl
  have hln' : ∀ w, (Builtin.len_ #[24] 3 #[.slice A' l'.length c']).run Try.prog w = .ok (.int .i64 l'.length) w := fun w => by simp [Builtin.len_, run_underlying Try.underlying24]; rfl
  by_cases hlen : l.length = l'.length
  · have hb : ((l.length : Int) != l'.length) = false := by rw [bne_eq_false_iff_eq]; omega
    have HL := hide hlen
    have HA := hide hA
    have HA' := hide hA'
    clear hlen hA hA'
    go_enter Try.func29, Try.ntmps29
    go_wp2
    go_loopg [5] l.length (fun n i wr => ∃ k : Nat, k + n = l.length ∧ i = .int .i64 k ∧ l.take k = l'.take k ∧ Mod None_ w wr)
    case atStart => exact ⟨0, by omega, rfl, rfl, Mod.refl _ _⟩
    obtain ⟨k, hk, rfl, ht, hm⟩ := hrel
    have HT := hide ht
    clear ht
    by_cases hlt : k < l.length
    · have hlt' : k < l'.length := by rw [← HL.out]; exact hlt
      obtain ⟨g, o, rfl, hg, hc⟩ := HA.out (by omega)
      obtain ⟨g', o', rfl, hg', hc'⟩ := HA'.out (by omega)
      have hx := hc k hlt
      have hy := hc' k hlt'
      obtain ⟨p, hp⟩ : ∃ p, p = l[k] := ⟨_, rfl⟩
      obtain ⟨q, hq⟩ : ∃ q, q = l'[k] := ⟨_, rfl⟩
      rw [← hp] at hx
      rw [← hq] at hy
      have HP := hide hp
      have HQ := hide hq
      clear hc hc' hp hq
      have hkl : (k : Int) < l.length := by omega
      have hkl' : (k : Int) < l'.length := by omega
      go_wp2_with fail
      refine region_stw (by kernel_rfl) (by kernel_rfl) ?_
      rintro w3 hw3
      have hm3 : Mod None_ w w3 := by rw [hw3]; exact hm.drew
      replace hx : w3.rangeAt g (o + k * 1) (encInt p) := fun j u hj => (World.cell?_of_block (hm3.block g hg id)).trans (hx j u hj)
      replace hy : w3.rangeAt g' (o' + k * 1) (encInt q) := fun j u hj => (World.cell?_of_block (hm3.block g' hg' id)).trans (hy j u hj)
      clear hw3 hm
      have x0 : w3.cell? ⟨g, o + k, none⟩ = some (.int .i64 p) := by have := hx 0 _ rfl; simpa using this
      have y0 : w3.cell? ⟨g', o' + k, none⟩ = some (.int .i64 q) := by have := hy 0 _ rfl; simpa using this
      by_cases he : p = q
      · subst he
        have e0 : ((p : Int) != p) = false := by simp
        have e1 : ((p : Int) == p) = true := by simp
        have HE : Hid (l.take (k + 1) = l'.take (k + 1)) := by
          refine hide ?_
          rw [List.take_succ_eq_append_getElem hlt, List.take_succ_eq_append_getElem hlt', HT.out, ← HP.out, ← HQ.out]
        clear hx hy
        repeat (refine stw_step (fun K hK => ?_); go_simp; refine hK _ ?_; clear hK K)
        refine stw_nil ?_
        go_wp2
        go_roundg (gk - 1)
        case measure => omega
        case rel => exact ⟨k + 1, by omega, by go_num, HE.out, hm3⟩
      · have hno : decide (l = l') = false := by
          rw [decide_eq_false_iff_not]
          rintro rfl
          exact he (HP.out.trans HQ.out.symm)
        have HN := hide hno
        have e0 : ((p : Int) != q) = true := by rw [bne_iff_ne]; exact he
        have e1 : ((p : Int) == q) = false := by rw [beq_eq_false_iff_ne]; exact he
        have e2 : ¬ p = q := he
        clear hno hx hy he
        repeat (refine stw_step (fun K hK => ?_); go_simp; refine hK _ ?_; clear hK K)
        refine stw_nil ?_
        go_wp2
        go_ret
        exact ⟨by rw [HN.out]; rfl, hm3⟩
    · have he : decide (l = l') = true := by
        rw [decide_eq_true_eq]
        have := HT.out
        rwa [List.take_of_length_le (by omega), List.take_of_length_le (by have := HL.out; omega)] at this
      have HE := hide he
      have hkl : ¬ (k : Int) < l.length := by omega
      clear he
      go_wp2
      go_ret
      exact ⟨by rw [HE.out]; rfl, hm⟩
  · have hb : ((l.length : Int) != l'.length) = true := by rw [bne_iff_ne]; omega
    have hne : decide (l = l') = false := by rw [decide_eq_false_iff_not]; rintro rfl; exact hlen rfl
    have HN := hide hne
    clear hne hlen hA hA'
    go_enter Try.func29, Try.ntmps29
    go_wp2
    go_ret
    exact ⟨by rw [HN.out]; rfl, Mod.refl _ _⟩

set_option maxRecDepth 100000 in
set_option maxHeartbeats 1000000 in
theorem gcSameMeaning (w : World) (n : NodeD) (vm vn vl vm' vn' vl' : Value) (h : NodeIn w n vm vn vl) (h' : NodeIn w n vm' vn' vl') : Calls Try.prog 28 #[.agg (nodeC n vm vn vl), .agg (nodeC n vm' vn' vl')] w (BoolPost w true) := by
  obtain ⟨Am, cm, rfl, hcm1, hcm2, _⟩ := id h.map
  obtain ⟨An, cn, rfl, hcn1, hcn2, _⟩ := id h.names
  obtain ⟨Am', cm', rfl, hcm1', hcm2', _⟩ := id h'.map
  obtain ⟨An', cn', rfl, hcn1', hcn2', _⟩ := id h'.names
  unfold maxLen at hcm2 hcn2 hcm2' hcn2'
  have hln : ∀ w, (Builtin.len_ #[23] 3 #[.slice An n.names.length cn]).run Try.prog w = .ok (.int .i64 n.names.length) w := fun w => by simp [Builtin.len_, run_underlying Try.underlying23]; rfl
  have hlm : ∀ w, (Builtin.len_ #[22] 3 #[.slice Am n.map.length cm]).run Try.prog w = .ok (.int .i64 n.map.length) w := fun w => by simp [Builtin.len_, run_underlying Try.underlying22]; rfl
  have hln' : ∀ w, (Builtin.len_ #[23] 3 #[.slice An' n.names.length cn']).run Try.prog w = .ok (.int .i64 n.names.length) w := fun w => by simp [Builtin.len_, run_underlying Try.underlying23]; rfl
  have hlm' : ∀ w, (Builtin.len_ #[22] 3 #[.slice Am' n.map.length cm']).run Try.prog w = .ok (.int .i64 n.map.length) w := fun w => by simp [Builtin.len_, run_underlying Try.underlying22]; rfl
  obtain ⟨m, hm⟩ : ∃ m, m = w.heap.size := ⟨_, rfl⟩
  obtain ⟨w1, hw1⟩ : ∃ w1, w1 = (w.alloc (.cells (nodeC n (.slice Am n.map.length cm) (.slice An n.names.length cn) vl) 26)).alloc (.cells (nodeC n (.slice Am' n.map.length cm') (.slice An' n.names.length cn') vl') 26) := ⟨_, rfl⟩
  have hM : Mod None_ w w1 := by rw [hw1]; exact ((Mod.refl _ w).alloc _).alloc _
  have b1 : Blk w1 m 26 (nodeC n (.slice Am n.map.length cm) (.slice An n.names.length cn) vl) := by rw [hw1, hm]; exact (Blk.new w 26 _).alloc _
  have b2 : Blk w1 (m + 1) 26 (nodeC n (.slice Am' n.map.length cm') (.slice An' n.names.length cn') vl') := by
    have := Blk.new (w.alloc (.cells (nodeC n (.slice Am n.map.length cm) (.slice An n.names.length cn) vl) 26)) 26 (nodeC n (.slice Am' n.map.length cm') (.slice An' n.names.length cn') vl')
    rw [← hw1, alloc_size, ← hm] at this
    exact this
  have HN := hide (h.kept hM)
  have HN' := hide (h'.kept hM)
  unfold nodeC at hw1
  have HW1 := hide hw1
  have HMM := hide hm
  have HM := hide hM
  have c3 : w1.cell? ⟨m, 3, none⟩ = some (.int .i64 n.size) := b1.cell 3
  have c3' : w1.cell? ⟨m + 1, 3, none⟩ = some (.int .i64 n.size) := b2.cell 3
  have c4 : w1.cell? ⟨m, 4, none⟩ = some (.slice Am n.map.length cm) := b1.cell 4
  have c4' : w1.cell? ⟨m + 1, 4, none⟩ = some (.slice Am' n.map.length cm') := b2.cell 4
  have c5 : w1.cell? ⟨m, 5, none⟩ = some (.slice An n.names.length cn) := b1.cell 5
  have c5' : w1.cell? ⟨m + 1, 5, none⟩ = some (.slice An' n.names.length cn') := b2.cell 5
  clear hw1 hm h h' hM
  unfold nodeC
  go_enter Try.func28, Try.ntmps28
  go_upto_region 1 with fail
  rw [← HMM.out, ← HW1.out]
  clear HMM HW1
  go_wp2_with fail
  clear c3 c3' c4 c4' c5 c5'
  go_loopw [5] (fun s wr => ∃ k : Nat, k ≤ n.map.length ∧ s = .int .i64 k ∧ Mod None_ w1 wr) (fun s _ => n.map.length - (intOf s).toNat)
  case atStart => exact ⟨0, Nat.zero_le _, rfl, Mod.refl _ _⟩
  obtain ⟨k, hk, rfl, hmr⟩ := hrel
  have c4 : wr.cell? ⟨m, 4, none⟩ = some (.slice Am n.map.length cm) := (b1.mod hmr id).cell 4
  by_cases hlt : k < n.map.length
  · have hki : (k : Int) < n.map.length := by omega
    obtain ⟨_, _, hcv, _, _, hcell⟩ := HN.out.map
    simp only [Value.slice.injEq, true_and] at hcv
    obtain ⟨rfl, rfl⟩ := hcv
    obtain ⟨g, o, rfl, hg, hcell⟩ := hcell (by omega)
    obtain ⟨_, _, hcv', _, _, hcell'⟩ := HN'.out.map
    simp only [Value.slice.injEq, true_and] at hcv'
    obtain ⟨rfl, rfl⟩ := hcv'
    obtain ⟨g', o', rfl, hg', hcell'⟩ := hcell' (by omega)
    have hx := hcell k hlt
    have hy := hcell' k hlt
    obtain ⟨x, hxx⟩ : ∃ x, x = n.map[k] := ⟨_, rfl⟩
    rw [← hxx] at hx hy
    clear hxx hcell hcell'
    go_wp2_with fail
    refine region_stw (by kernel_rfl) (by kernel_rfl) ?_
    rintro w3 hw3
    have hm3 : Mod None_ w1 w3 := by rw [hw3]; exact hmr.drew
    have b13 := b1.mod hm3 id
    have b23 := b2.mod hm3 id
    have d4 : w3.cell? ⟨m, 4, none⟩ = some (.slice (some ⟨g, o, none⟩) n.map.length cm) := b13.cell 4
    have d4' : w3.cell? ⟨m + 1, 4, none⟩ = some (.slice (some ⟨g', o', none⟩) n.map.length cm') := b23.cell 4
    replace hx : w3.rangeAt g (o + k * 3) (encRun x) := fun j u hj => (World.cell?_of_block (hm3.block g hg id)).trans (hx j u hj)
    replace hy : w3.rangeAt g' (o' + k * 3) (encRun x) := fun j u hj => (World.cell?_of_block (hm3.block g' hg' id)).trans (hy j u hj)
    have hx0 := run_loadAt_mid w3 g (o + k * 3) 51 (encRun x) _ hx Try.underlying51 rfl (by kernel_rfl)
    have hy0 := run_loadAt_mid w3 g' (o' + k * 3) 51 (encRun x) _ hy Try.underlying51 rfl (by kernel_rfl)
    have hne : (binOp .neq 51 (.agg (encRun x).toArray) (.agg (encRun x).toArray)).run Try.prog w3 = .ok (.bool false) w3 := run_sameRun x w3
    clear hw3 hmr c4 hx hy b13 b23
    iterate 4 (refine stw_step (fun K hK => ?_); go_simp; refine hK _ ?_; clear hK K)
    refine stw_val rfl (ex_load rfl hx0) ?_
    go_frame
    iterate 4 (refine stw_step (fun K hK => ?_); go_simp; refine hK _ ?_; clear hK K)
    refine stw_val rfl (ex_load rfl hy0) ?_
    go_frame
    refine stw_val rfl (ex_neqAgg rfl guardRun rfl rfl hne) ?_
    go_frame
    refine stw_nil ?_
    go_wp2_with fail
    go_roundw
    case rel => exact ⟨k + 1, by omega, by simp, hm3⟩
    case measure => simp [intOf]; omega
  · have hkn : ¬ (k : Int) < n.map.length := by omega
    go_wp2_with fail
    clear c4
    go_loopw [6] (fun s wr => ∃ k : Nat, k ≤ n.names.length ∧ s = .int .i64 k ∧ Mod None_ w1 wr) (fun s _ => n.names.length - (intOf s).toNat)
    case atStart => exact ⟨0, Nat.zero_le _, rfl, hmr⟩
    clear hmr
    obtain ⟨k, hk, rfl, hmr⟩ := hrel
    have c4 : wr.cell? ⟨m, 5, none⟩ = some (.slice An n.names.length cn) := (b1.mod hmr id).cell 5
    by_cases hlt : k < n.names.length
    · have hki : (k : Int) < n.names.length := by omega
      obtain ⟨_, _, hcv, _, _, hcell⟩ := HN.out.names
      simp only [Value.slice.injEq, true_and] at hcv
      obtain ⟨rfl, rfl⟩ := hcv
      obtain ⟨g, o, rfl, hg, hcell⟩ := hcell (by omega)
      obtain ⟨_, _, hcv', _, _, hcell'⟩ := HN'.out.names
      simp only [Value.slice.injEq, true_and] at hcv'
      obtain ⟨rfl, rfl⟩ := hcv'
      obtain ⟨g', o', rfl, hg', hcell'⟩ := hcell' (by omega)
      have hx := hcell k hlt
      have hy := hcell' k hlt
      obtain ⟨x, hxx⟩ : ∃ x, x = n.names[k] := ⟨_, rfl⟩
      rw [← hxx] at hx hy
      clear hxx hcell hcell'
      go_wp2_with fail
      refine region_stw (by kernel_rfl) (by kernel_rfl) ?_
      rintro w3 hw3
      have hm3 : Mod None_ w1 w3 := by rw [hw3]; exact hmr.drew
      have b13 := b1.mod hm3 id
      have b23 := b2.mod hm3 id
      have d4 : w3.cell? ⟨m, 5, none⟩ = some (.slice (some ⟨g, o, none⟩) n.names.length cn) := b13.cell 5
      have d4' : w3.cell? ⟨m + 1, 5, none⟩ = some (.slice (some ⟨g', o', none⟩) n.names.length cn') := b23.cell 5
      replace hx : w3.rangeAt g (o + k * 2) (encDent x) := fun j u hj => (World.cell?_of_block (hm3.block g hg id)).trans (hx j u hj)
      replace hy : w3.rangeAt g' (o' + k * 2) (encDent x) := fun j u hj => (World.cell?_of_block (hm3.block g' hg' id)).trans (hy j u hj)
      have hx0 := run_loadAt_mid w3 g (o + k * 2) 49 (encDent x) _ hx Try.underlying49 rfl (by kernel_rfl)
      have hy0 := run_loadAt_mid w3 g' (o' + k * 2) 49 (encDent x) _ hy Try.underlying49 rfl (by kernel_rfl)
      have hne : (binOp .neq 49 (.agg (encDent x).toArray) (.agg (encDent x).toArray)).run Try.prog w3 = .ok (.bool false) w3 := run_sameDent x w3
      clear hw3 hmr c4 hx hy b13 b23
      iterate 4 (refine stw_step (fun K hK => ?_); go_simp; refine hK _ ?_; clear hK K)
      refine stw_val rfl (ex_load rfl hx0) ?_
      go_frame
      iterate 4 (refine stw_step (fun K hK => ?_); go_simp; refine hK _ ?_; clear hK K)
      refine stw_val rfl (ex_load rfl hy0) ?_
      go_frame
      refine stw_val rfl (ex_neqAgg rfl guardDent rfl rfl hne) ?_
      go_frame
      refine stw_nil ?_
      go_wp2_with fail
      go_roundw
      case rel => exact ⟨k + 1, by omega, by simp, hm3⟩
      case measure => simp [intOf]; omega
    · have hkn : ¬ (k : Int) < n.names.length := by omega
      have hfin := HM.out.trans hmr
      clear HM
      go_wp2
      go_ret
      exact ⟨rfl, hfin⟩

set_option maxRecDepth 100000 in
set_option maxHeartbeats 1000000 in
theorem gcSameNode (w : World) (n : NodeD) (vm vn vl vm' vn' vl' : Value) (h : NodeIn w n vm vn vl) (h' : NodeIn w n vm' vn' vl') : Calls Try.prog 19 #[.agg (nodeC n vm vn vl), .agg (nodeC n vm' vn' vl')] w (BoolPost w true) := by
  obtain ⟨m, hm⟩ : ∃ m, m = w.heap.size := ⟨_, rfl⟩
  obtain ⟨w1, hw1⟩ : ∃ w1, w1 = (w.alloc (.cells (nodeC n vm vn vl) 26)).alloc (.cells (nodeC n vm' vn' vl') 26) := ⟨_, rfl⟩
  have hM : Mod None_ w w1 := by rw [hw1]; exact ((Mod.refl _ w).alloc _).alloc _
  have b1 : Blk w1 m 26 (nodeC n vm vn vl) := by rw [hw1, hm]; exact (Blk.new w 26 _).alloc _
  have b2 : Blk w1 (m + 1) 26 (nodeC n vm' vn' vl') := by
    have := Blk.new (w.alloc (.cells (nodeC n vm vn vl) 26)) 26 (nodeC n vm' vn' vl')
    rw [← hw1, alloc_size, ← hm] at this
    exact this
  have H1 := hide (gcSameMeaning w1 n _ _ _ _ _ _ (h.kept hM) (h'.kept hM))
  have HI := hide (infoNode n vm vn vl)
  have HI' := hide (infoNode n vm' vn' vl')
  have HN := hide h
  have HN' := hide h'
  unfold nodeC at hw1
  have HW1 := hide hw1
  have HMM := hide hm
  clear hw1 hm h h'
  unfold nodeC
  go_enter Try.func19, Try.ntmps19
  go_upto_region 3 with fail
  rw [← HMM.out, ← HW1.out]
  clear HMM HW1
  go_wp2_with (first
    | ((with_reducible refine at_slot 45 ?_); refine wpList_val rfl (ex_load rfl (run_loadRow b1 Try.underlying26 rfl HI.out)) ?_; go_frame)
    | ((with_reducible refine at_slot 46 ?_); refine wpList_val rfl (ex_load rfl (run_loadRow b2 Try.underlying26 rfl HI'.out)) ?_; go_frame))
  refine Calls.mono H1.out ?_
  rintro e w2 ⟨rfl, hm2⟩
  have b12 := b1.mod hm2 id
  have b22 := b2.mod hm2 id
  have hM2 := hM.trans hm2
  have H2 := hide (gcSameInts w2 _ _ _ _ (HN.out.log.kept hM2) (HN'.out.log.kept hM2))
  have c8 : w2.cell? ⟨m, 8, none⟩ = some vl := b12.cell 8
  have c8' : w2.cell? ⟨m + 1, 8, none⟩ = some vl' := b22.cell 8
  clear b1 b2 hM hm2 H1
  go_wp2_with fail
  refine Calls.mono H2.out ?_
  rintro e w3 ⟨rfl, hm3⟩
  simp only [decide_true]
  have hM3 := hM2.trans hm3
  clear c8 c8' b12 b22 hM2 hm3 H2
  go_wp2
  go_ret
  exact ⟨rfl, hM3⟩
end Go.Proofs.Ytabebkffcmajkaa
