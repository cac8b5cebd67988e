import Derived.Test.YtabebkffcmajkaaRG7
import Derived.Test.YtabebkffcmajkaaIN7
/-! Reference walk: Canon. -/
namespace Go.Proofs.Ytabebkffcmajkaa
open Go.RowKit Go.Maps Go.Shelf
attribute [local go_sem] quietV loudUpon Oper.semAt_some

theorem piece16 {z : Int} {K T : List StepD} {r : RunD} (h : K ++ runSteps z r = T) (h0 : 0 < r.count) : (K ++ [.write ⟨r.off, r.page, cut16 r.count⟩ z]) ++ runSteps z ⟨r.off + 16, r.page + 16, r.count - 16⟩ = T := by
  have := piece_eq h h0
  by_cases hc : 16 ≤ r.count
  · have e : cut16 r.count = 16 := by unfold cut16; split <;> omega
    unfold nextRun at this
    rw [e] at this ⊢
    exact this
  · have e : cut16 r.count = r.count := by unfold cut16; split <;> omega
    have e1 : runSteps z (nextRun r) = [] := by
      unfold runSteps nextRun; rw [e, piecesOf_none (by show ¬ 0 < r.count - r.count; omega)]; rfl
    have e2 : runSteps z ⟨r.off + 16, r.page + 16, r.count - 16⟩ = [] := by
      unfold runSteps; rw [piecesOf_none (by show ¬ 0 < r.count - 16; omega)]; rfl
    rw [e1] at this
    rw [e2]
    exact this
def sizeTail (n : NodeD) : List StepD := if 0 < n.size ∧ n.map.length = 0 then [.resize n.size] else []
def refSteps (n : NodeD) : List StepD := n.names.map addOf ++ mapSteps n ++ sizeTail n
theorem mapSteps_ne {n : NodeD} (h : ∀ r ∈ n.map, refRun r = true) (h0 : n.map.length ≠ 0) : mapSteps n ≠ [] := by
  obtain ⟨r, l, hl⟩ : ∃ r l, n.map = r :: l := by
    cases hm : n.map with
    | nil => rw [hm] at h0; exact absurd rfl h0
    | cons r l => exact ⟨r, l, rfl⟩
  have hr := (refRun_iff r).1 (h r (by rw [hl]; simp))
  unfold mapSteps
  rw [hl, List.flatMap_cons]
  unfold runSteps
  rw [piecesOf_some (by omega)]
  simp
theorem canon_good {n : NodeD} (h : nodeGood n = true) : canonOf n = entsFrom 1 (refSteps n) := by
  obtain ⟨hr, ⟨_, hn, _⟩ | ⟨_, hm, hz⟩⟩ := good_runs h
  · unfold canonOf refSteps stepsOf
    rw [hn]
    simp only [List.map_nil, List.nil_append, List.append_nil]
    congr 1
    unfold sizeSteps sizeTail
    by_cases h0 : n.map.length = 0
    · have e : mapSteps n = [] := by unfold mapSteps; rw [List.length_eq_zero_iff.1 h0]; rfl
      rw [e]
      by_cases hz : 0 < n.size
      · rw [if_pos ⟨rfl, hz⟩, if_pos ⟨hz, h0⟩]; rfl
      · rw [if_neg (fun e => hz e.2), if_neg (fun e => hz e.1)]; rfl
    · rw [if_neg (fun e => mapSteps_ne hr h0 e.1), if_neg (fun e => h0 e.2), List.append_nil]
  · unfold canonOf refSteps stepsOf sizeSteps sizeTail
    have e : mapSteps n = [] := by unfold mapSteps; rw [hm]; rfl
    rw [e, if_neg (by rw [hz]; simp), if_neg (by rw [hz]; simp)]
    simp
theorem ents_snoc {L : List StepD} {E : List EntD} (h : E = entsFrom 1 L) (s : StepD) : E ++ [entOf s ((E.length : Int) + 1)] = entsFrom 1 (L ++ [s]) := by
  have hl := entsFrom_length 1 L
  rw [entsFrom_snoc, h, hl]
  congr 3
  omega

set_option maxRecDepth 100000 in
set_option maxHeartbeats 2000000 in
theorem refCanon_any (w : World) (n : NodeD) (vm vn vl : Value) (h : NodeAt w n vm vn vl) : Calls Try.prog 8 #[.agg (nodeC n vm vn vl)] w (CanonPost w n) := by
  obtain ⟨An, cn, rfl, hcn1, hcn2, _⟩ := id h.names
  obtain ⟨Am, cm, rfl, hcm1, hcm2, hml, _, _⟩ := id h.map
  have hnl := h.nlen
  have hln : ∀ w, (Builtin.len_ #[23] 3 #[.slice An n.names.length cn]).run Try.prog w = .ok (.int .i64 n.names.length) w := fun w => by simp [Builtin.len_, run_underlying Try.underlying23]; rfl
  have hlm : ∀ w, (Builtin.len_ #[22] 3 #[.slice Am n.map.length cm]).run Try.prog w = .ok (.int .i64 n.map.length) w := fun w => by simp [Builtin.len_, run_underlying Try.underlying22]; rfl
  have hll : ∀ w A (n c : Nat), (Builtin.len_ #[29] 3 #[.slice A n c]).run Try.prog w = .ok (.int .i64 n) w := fun w A n c => by simp [Builtin.len_, run_underlying Try.underlying29]; rfl
  have hM : Mod None_ w (w.alloc (.cells (nodeC n (.slice Am n.map.length cm) (.slice An n.names.length cn) vl) 26)) := (Mod.refl None_ w).alloc _
  have HS := hide (refGood_any _ n _ _ vl (h.kept hM))
  have b1 : Blk (w.alloc (.cells (nodeC n (.slice Am n.map.length cm) (.slice An n.names.length cn) vl) 26)) w.heap.size 26 (nodeC n (.slice Am n.map.length cm) (.slice An n.names.length cn) vl) := Blk.new w 26 _
  have HN := hide h
  have HM := hide hM
  have B1 := hide b1
  clear hM h b1
  unfold nodeC at HM HS B1 ⊢
  go_enter Try.func8, Try.ntmps8
  obtain ⟨m, hm⟩ : ∃ m, m = w.heap.size := ⟨_, rfl⟩
  rw [← hm] at B1
  have HMM := hide hm
  clear hm
  go_wp2_with fail
  rw [← HMM.out]
  refine Calls.mono HS.out ?_
  rintro e w2 ⟨rfl, hm2⟩
  have hM := HM.out.trans hm2
  have b1 := B1.out.mod hm2 id
  clear hm2 HM HS B1 HMM
  by_cases hg : nodeGood n = true
  · have hca := canon_good hg
    obtain ⟨hl512, htame⟩ := good_tame hg
    have HCA := hide hca
    have HG := hide hg
    have HTA := hide htame
    rw [hg]
    clear hca htame hg
    go_wp2_with fail
    go_loopw [6, 5] (fun s6 s5 wr => ∃ (k : Nat) (L : List StepD) (E : List EntD) (v5 : Value), v5 = s5 ∧ k ≤ n.names.length ∧ s6 = .int .i64 k ∧ L = (n.names.take k).map addOf ∧ E = entsFrom 1 L ∧ wr.ownsRow w2.heap.size 46 8 v5 E.length (rowOf encEntry E) ∧ Mod None_ w2 wr) (fun s6 _ _ => n.names.length - (intOf s6).toNat)
    case atStart => exact ⟨0, [], [], _, rfl, Nat.zero_le _, rfl, rfl, rfl, ⟨rfl, .inl ⟨rfl, rfl⟩⟩, Mod.refl _ _⟩
    obtain ⟨k, L, E, v5, rfl, hk, rfl, hL, hE, hown, hmr⟩ := hrel
    have hEl : E.length = k := by rw [hE, entsFrom_length, hL, List.length_map, List.length_take, Nat.min_eq_left hk]
    by_cases hlt : k < n.names.length
    · have hki : (k : Int) < n.names.length := by omega
      obtain ⟨_, _, hcv, _, _, hcell⟩ := (HN.out.kept hM).names
      simp only [Value.slice.injEq, true_and] at hcv
      obtain ⟨rfl, rfl⟩ := hcv
      obtain ⟨g, o, rfl, hg, hcell⟩ := hcell (by omega)
      have x0 : w2.cell? ⟨g, o + k * 2, none⟩ = some (.string n.names[k].1) := hcell k hlt 0 _ rfl
      have x1 : w2.cell? ⟨g, o + k * 2 + 1, none⟩ = some (.int .i64 n.names[k].2) := hcell k hlt 1 _ rfl
      have hLs : L ++ [addOf n.names[k]] = (n.names.take (k + 1)).map addOf := by rw [hL, List.take_succ_eq_append_getElem hlt, List.map_append]; rfl
      obtain ⟨x, hx⟩ : ∃ x, x = n.names[k] := ⟨_, rfl⟩
      rw [← hx] at x0 x1 hLs
      have hsn := ents_snoc hE (addOf x)
      rw [hLs] at hsn
      have HSN := hide hsn
      obtain ⟨A5, c5s, rfl⟩ := own_slice hown
      have hsz := hmr.size
      have eu : IntKind.u64.wrap ((E.length : Int) + 1) = (E.length : Int) + 1 := by unfold IntKind.wrap; simp [IntKind.bits, IntKind.signed]; omega
      have c5 : wr.cell? ⟨m, 5, none⟩ = some (.slice (some ⟨g, o, none⟩) n.names.length cn) := (b1.mod hmr id).cell 5
      have ei : IntKind.i64.wrap ((E.length : Int) + 1) = (E.length : Int) + 1 := IntWalk.i64_in _ (by omega)
      have hEle : E.length ≤ 1000000000000 := by omega
      clear hcell hx hL hLs hsn hE hEl
      go_wp2_with fail
      refine region_mxw [(true, 0), (true, 1), (true, 2), (true, 3), (true, 4), (true, 5), (true, 6), (true, 7), (true, 8), (true, 9), (true, 10), (true, 11), (true, 12), (true, 13), (true, 14), (true, 15), (true, 16), (true, 17), (false, 18), (false, 19), (true, 20)] (fun w' => Mod None_ w2 w') (by kernel_rfl) (by kernel_rfl) ?_
      rintro w3 hw3
      have hm3 : Mod None_ wr w3 := by rw [hw3]; exact (Mod.refl _ wr).drew
      have hown3 := own_mod hown hm3 (fun _ _ f => f)
      have hmr3 := hmr.trans hm3
      have hsz3 := Nat.le_trans hsz hm3.size
      have X0 := hide x0
      have X1 := hide x1
      clear hw3 hm3 hown hmr hsz c5 x0 x1
      refine ⟨hmr3, ?_⟩
      iterate 18 (refine mxw_quiet rfl (fun w' i1 K hK => by
        have i5 := (b1.mod i1 id).cell 5
        have i8 := (World.cell?_of_block (i1.block g hg id)).trans X0.out
        have i9 := (World.cell?_of_block (i1.block g hg id)).trans X1.out
        clear i1
        (try go_simp); exact hK) ?_; try go_frame)
      refine mxw_loud rfl (fun K hK => ?_)
      go_simp
      refine ⟨hmr3.alloc _, hK _ _ ?_⟩
      clear hK K
      try go_frame
      refine mxw_append_row encEntry 29 46 (.agg #[.int .i64 0, .int .u64 0, .int .i64 0, .int .i64 0, .int .i64 0, .int .i64 0, .int .i64 0, .string ⟨#[]⟩]) 8 72 Try.underlying29 infoEntry rfl (by decide) (fun _ => rfl) oneEntry rfl rfl (.tmp 22) (.tmp 40) rfl w3 w2.heap.size (.slice A5 E.length c5s) E ⟨3, (E.length : Int) + 1, 0, 0, 0, 0, x.2, x.1⟩ rfl rfl w3.heap.size rfl rfl hown3 hsz3 (by unfold maxLen; omega) (by omega) ?_
      intro v8 w8 hown8 hm8 hat8
      have hM8 := hmr3.trans' hm8 (fun g hg e => by have := (own_blk hown3 e.symm).1; omega)
      clear hm8 hat8 hown3 hmr3 hsz3
      refine ⟨hM8, ?_⟩
      try go_frame
      iterate 1 (refine mxw_quiet rfl (fun w' i1 KK hKK => by clear i1; (try go_simp); exact hKK) ?_; try go_frame)
      refine mxw_nil ?_
      have L1 := hide hown8
      have L2 := hide hM8
      clear hown8 hM8
      go_wp2_with fail
      go_roundw
      case rel => exact ⟨k + 1, _, _, _, rfl, by omega, by simp, rfl, HSN.out, L1.out, L2.out⟩
      case measure => simp [intOf]; omega
    · obtain rfl : k = n.names.length := by omega
      have hkn : ¬ (n.names.length : Int) < n.names.length := by omega
      rw [List.take_length] at hL
      have c5 : wr.cell? ⟨m, 5, none⟩ = some (.slice An n.names.length cn) := (b1.mod hmr id).cell 5
      have HL := hide hL
      have HE := hide hE
      clear hL hE hlt
      go_wp2_with fail
      clear c5
      go_loopw [7, 5] (fun s7 s5 wr => ∃ (k : Nat) (L : List StepD) (E : List EntD) (v5 : Value), v5 = s5 ∧ k ≤ n.map.length ∧ s7 = .int .i64 k ∧ L = n.names.map addOf ++ (n.map.take k).flatMap (runSteps n.size) ∧ L.length ≤ n.names.length + k * 512 ∧ E = entsFrom 1 L ∧ wr.ownsRow w2.heap.size 46 8 v5 E.length (rowOf encEntry E) ∧ Mod None_ w2 wr) (fun s7 _ _ => n.map.length - (intOf s7).toNat)
      case atStart => exact ⟨0, L, E, _, rfl, Nat.zero_le _, rfl, by rw [HL.out]; simp, by rw [HL.out]; simp, HE.out, hown, hmr⟩
      clear HL HE hown hmr hEl hkn hk
      clear L E
      obtain ⟨k, L, E, v5, rfl, hk, rfl, hL, hLl, hE, hown, hmr⟩ := hrel
      have hEl : E.length = L.length := by rw [hE, entsFrom_length]
      have c4 : wr.cell? ⟨m, 4, none⟩ = some (.slice Am n.map.length cm) := (b1.mod hmr id).cell 4
      by_cases hlt : k < n.map.length
      · have hki : (k : Int) < n.map.length := by omega
        obtain ⟨_, _, hcv, _, _, hcell⟩ := (HN.out.kept hM).map.list
        simp only [Value.slice.injEq, true_and] at hcv
        obtain ⟨rfl, rfl⟩ := hcv
        obtain ⟨g, o, rfl, hg, hcell⟩ := hcell (by omega)
        have x0 : wr.cell? ⟨g, o + k * 3, none⟩ = some (.int .i64 n.map[k].off) := (World.cell?_of_block (hmr.block g hg id)).trans (hcell k hlt 0 _ rfl)
        have x1 : wr.cell? ⟨g, o + k * 3 + 1, none⟩ = some (.int .i64 n.map[k].page) := (World.cell?_of_block (hmr.block g hg id)).trans (hcell k hlt 1 _ rfl)
        have x2 : wr.cell? ⟨g, o + k * 3 + 2, none⟩ = some (.int .i64 n.map[k].count) := (World.cell?_of_block (hmr.block g hg id)).trans (hcell k hlt 2 _ rfl)
        have htx := HTA.out _ (List.getElem_mem hlt)
        have hLs := steps_snoc n hlt
        obtain ⟨x, hx⟩ : ∃ x, x = n.map[k] := ⟨_, rfl⟩
        rw [← hx] at x0 x1 x2 htx hLs
        have hrl := runSteps_length n.size htx
        obtain ⟨t1, t2, t3, t4, t5, t6⟩ := htx
        have hLL : L ++ runSteps n.size x = n.names.map addOf ++ (n.map.take (k + 1)).flatMap (runSteps n.size) := by rw [hLs, hL, List.append_assoc]
        obtain ⟨ma, hma⟩ : ∃ k, k = wr.heap.size := ⟨_, rfl⟩
        obtain ⟨wa, hwa⟩ : ∃ wa, wa = wr.alloc (.cells #[.int .i64 x.off, .int .i64 x.page, .int .i64 x.count] 51) := ⟨_, rfl⟩
        have hmwa : Mod None_ wr wa := by rw [hwa]; exact (Mod.refl _ wr).alloc _
        have bx : Blk wa ma 51 #[.int .i64 x.off, .int .i64 x.page, .int .i64 x.count] := by rw [hwa, hma]; exact Blk.new wr 51 _
        have hama : w2.heap.size ≤ ma := by rw [hma]; exact hmr.size
        have hmra := hmr.trans hmwa
        have howna := own_mod hown hmwa (fun _ _ f => f)
        have HWA := hide hwa
        have HMA := hide hma
        have HLL := hide hLL
        have HX := hide hx
        clear hwa hma hmwa hLL hLs hx hcell hL hmr hown
        go_wp2_with fail
        rw [← HMA.out, ← HWA.out]
        clear HMA HWA x0 x1 x2 c4
        go_loopw [9, 5] (fun s9 s5 wv => ∃ (fr : Nat) (K : List StepD) (E : List EntD) (v6 : Value), v6 = s5 ∧ (fr : Int) ≤ x.count + 15 ∧ s9 = .int .i64 fr ∧ K ++ runSteps n.size ⟨x.off + fr, x.page + fr, x.count - fr⟩ = L ++ runSteps n.size x ∧ E = entsFrom 1 K ∧ wv.ownsRow w2.heap.size 46 8 v6 E.length (rowOf encEntry E) ∧ Mod None_ w2 wv ∧ Blk wv ma 51 #[.int .i64 x.off, .int .i64 x.page, .int .i64 x.count]) (fun s9 _ _ => x.count.toNat - (intOf s9).toNat)
        case atStart => exact ⟨0, L, E, _, rfl, by omega, rfl, by simp, hE, howna, hmra, bx⟩
        clear bx hmra howna hE hEl
        clear E
        obtain ⟨fr, K, E, v6, rfl, hfr, rfl, hK, hE, hown, hmr, bx⟩ := hrel
        have hKl : E.length ≤ L.length + 512 := by
          rw [hE, entsFrom_length]
          have := congrArg List.length hK
          simp only [List.length_append] at this
          omega
        have y2 : wr.cell? ⟨ma, 2, none⟩ = some (.int .i64 x.count) := bx.cell 2
        by_cases hfc : (fr : Int) < x.count
        · have hpc := piece16 hK (by show 0 < x.count - fr; omega)
          have hsn := ents_snoc hE (.write ⟨x.off + fr, x.page + fr, cut16 (x.count - fr)⟩ n.size)
          have e16 : ∀ y : Int, y + fr + 16 = y + ((fr + 16 : Nat) : Int) := fun y => by omega
          have e17 : x.count - fr - 16 = x.count - ((fr + 16 : Nat) : Int) := by omega
          simp only [e16, e17] at hpc
          obtain ⟨A6, c6, rfl⟩ := own_slice hown
          have hsz := hmr.size
          have y0 : wr.cell? ⟨ma, 0, none⟩ = some (.int .i64 x.off) := bx.cell 0
          have y1 : wr.cell? ⟨ma, 1, none⟩ = some (.int .i64 x.page) := bx.cell 1
          have c3 : wr.cell? ⟨m, 3, none⟩ = some (.int .i64 n.size) := (b1.mod hmr id).cell 3
          have ei : IntKind.i64.wrap ((E.length : Int) + 1) = (E.length : Int) + 1 := IntWalk.i64_in _ (by omega)
          have eu : IntKind.u64.wrap ((E.length : Int) + 1) = (E.length : Int) + 1 := by unfold IntKind.wrap; simp [IntKind.bits, IntKind.signed]; omega
          have e1 : IntKind.i64.wrap (x.off + (fr : Int)) = x.off + fr := IntWalk.i64_in _ (by omega)
          have e2 : IntKind.i64.wrap (x.page + (fr : Int)) = x.page + fr := IntWalk.i64_in _ (by omega)
          have e3 : IntKind.i64.wrap (x.count - (fr : Int)) = x.count - fr := IntWalk.i64_in _ (by omega)
          clear hK hE e16 e17
          by_cases h16 : 16 < x.count - fr
          · have ec : cut16 (x.count - fr) = 16 := by unfold cut16; rw [if_pos h16]
            have d5 : decide (16 < x.count - (fr : Int)) = true := decide_eq_true h16
            rw [ec] at hpc hsn
            have HPC := hide hpc
            have HSN := hide hsn
            clear hpc hsn ec
            go_wp2_with ((with_reducible refine at_slot 84 ?_); refine wpList_append_row encEntry 29 46 (.agg #[.int .i64 0, .int .u64 0, .int .i64 0, .int .i64 0, .int .i64 0, .int .i64 0, .int .i64 0, .string ⟨#[]⟩]) 8 72 Try.underlying29 infoEntry rfl (by decide) (fun _ => rfl) oneEntry rfl (.tmp 66) (.tmp 83) rfl wr w2.heap.size (.slice A6 E.length c6) E ⟨1, (E.length : Int) + 1, x.off + fr, 16, x.page + fr, n.size, 0, ⟨#[]⟩⟩ rfl rfl wr.heap.size rfl rfl hown hsz (by unfold maxLen; omega) (by omega) ?_; intro v8 w8 hown8 hm8 hat8
                         have hM8 := hmr.trans' hm8 (fun g hg e => by have := (own_blk hown e.symm).1; omega)
                         have bx8 := bx.mod hm8 (fun e => own_ne hown bx (by decide) e.symm rfl)
                         have L1 := hide hown8
                         have L2 := hide hM8
                         have L3 := hide bx8
                         clear hown8 hm8 hat8 hM8 bx8 hown hmr bx c3 y0 y1 y2 hsz
                         go_frame)
            go_roundw
            case rel => exact ⟨fr + 16, _, _, _, rfl, by omega, by simp, HPC.out, HSN.out, L1.out, L2.out, L3.out⟩
            case measure => simp [intOf]; omega
          · have ec : cut16 (x.count - fr) = (x.count - fr) := by unfold cut16; rw [if_neg h16]
            have d5 : decide (16 < x.count - (fr : Int)) = false := decide_eq_false h16
            rw [ec] at hpc hsn
            have HPC := hide hpc
            have HSN := hide hsn
            clear hpc hsn ec
            go_wp2_with ((with_reducible refine at_slot 84 ?_); refine wpList_append_row encEntry 29 46 (.agg #[.int .i64 0, .int .u64 0, .int .i64 0, .int .i64 0, .int .i64 0, .int .i64 0, .int .i64 0, .string ⟨#[]⟩]) 8 72 Try.underlying29 infoEntry rfl (by decide) (fun _ => rfl) oneEntry rfl (.tmp 66) (.tmp 83) rfl wr w2.heap.size (.slice A6 E.length c6) E ⟨1, (E.length : Int) + 1, x.off + fr, (x.count - fr), x.page + fr, n.size, 0, ⟨#[]⟩⟩ rfl rfl wr.heap.size rfl rfl hown hsz (by unfold maxLen; omega) (by omega) ?_; intro v8 w8 hown8 hm8 hat8
                         have hM8 := hmr.trans' hm8 (fun g hg e => by have := (own_blk hown e.symm).1; omega)
                         have bx8 := bx.mod hm8 (fun e => own_ne hown bx (by decide) e.symm rfl)
                         have L1 := hide hown8
                         have L2 := hide hM8
                         have L3 := hide bx8
                         clear hown8 hm8 hat8 hM8 bx8 hown hmr bx c3 y0 y1 y2 hsz
                         go_frame)
            go_roundw
            case rel => exact ⟨fr + 16, _, _, _, rfl, by omega, by simp, HPC.out, HSN.out, L1.out, L2.out, L3.out⟩
            case measure => simp [intOf]; omega
        · have hK0 : K = L ++ runSteps n.size x := piece_end hK (by show ¬ 0 < x.count - fr; omega)
          rw [HLL.out] at hK0
          have hKl2 : K.length ≤ n.names.length + (k + 1) * 512 := by
            have := congrArg List.length hK
            simp only [List.length_append] at this
            omega
          have HK0 := hide hK0
          clear hK hK0
          go_wp2_with fail
          go_roundw
          case rel => exact ⟨k + 1, K, E, _, rfl, by omega, by simp, HK0.out, hKl2, hE, hown, hmr⟩
          case measure => simp [intOf]; omega
      · obtain rfl : k = n.map.length := by omega
        have hkn : ¬ (n.map.length : Int) < n.map.length := by omega
        rw [List.take_length] at hL
        have c3 : wr.cell? ⟨m, 3, none⟩ = some (.int .i64 n.size) := (b1.mod hmr id).cell 3
        have hLm : L = n.names.map addOf ++ mapSteps n := hL
        by_cases hz : 0 < n.size ∧ n.map.length = 0
        · have hnn : n.names = [] := by
            obtain ⟨_, ⟨_, hn, _⟩ | ⟨_, _, hz0⟩⟩ := good_runs HG.out
            · exact hn
            · omega
          have hL0 : L = [] := by rw [hLm, hnn]; unfold mapSteps; rw [List.length_eq_zero_iff.1 hz.2]; rfl
          have hE0 : E = [] := by rw [hE, hL0]; rfl
          have hfinE : E ++ [⟨2, 1, 0, 0, 0, n.size, 0, ⟨#[]⟩⟩] = canonOf n := by
            rw [HCA.out]
            unfold refSteps sizeTail
            rw [if_pos hz, ← hLm, hL0, hE0]
            rfl
          have HFE := hide hfinE
          have d1 : decide (0 < n.size) = true := decide_eq_true hz.1
          have d2 : ((n.map.length : Int) == 0) = true := by rw [hz.2]; rfl
          have d3 : 0 < n.size := hz.1
          have hsz := hmr.size
          have hE1 : E.length ≤ 0 := by rw [hE0]; simp
          have hm0 := hz.2
          clear hfinE hLm hL hL0 hE hE0 hEl hz hlt hkn hnn
          go_wp2_with ((with_reducible refine at_slot 99 ?_); refine wpList_append_row encEntry 29 46 (.agg #[.int .i64 0, .int .u64 0, .int .i64 0, .int .i64 0, .int .i64 0, .int .i64 0, .int .i64 0, .string ⟨#[]⟩]) 8 72 Try.underlying29 infoEntry rfl (by decide) (fun _ => rfl) oneEntry rfl (.tmp 94) (.tmp 98) rfl wr w2.heap.size v5 E ⟨2, 1, 0, 0, 0, n.size, 0, ⟨#[]⟩⟩ rfl rfl wr.heap.size rfl rfl hown hsz (by unfold maxLen; omega) (by omega) ?_; intro v8 w8 hown8 hm8 hat8
                       have hM8 := (hM.trans hmr).trans' hm8 (fun g hg e => by
                         have h1 := (own_blk hown e.symm).1
                         have h2 := hM.size
                         omega)
                       have hli := list_of_ownRow (enc := encEntry) (fun _ => rfl) hown8
                       rw [HFE.out] at hli
                       have HF : Hid (CanonPost w n (.returned (.tuple #[v8, .int .i64 0])) w8) := hide ⟨hM8, by rw [if_pos HG.out]; exact ⟨v8, rfl, hli⟩⟩
                       clear hown8 hm8 hat8 hM8 hli hown hmr c3
                       go_frame)
          go_ret2
          exact HF.out
        · have hli := list_of_ownRow (enc := encEntry) (fun _ => rfl) hown
          have hfinE : E = canonOf n := by
            rw [HCA.out, hE, hLm]
            unfold refSteps sizeTail
            rw [if_neg hz, List.append_nil]
          rw [hfinE] at hli
          have HF : Hid (CanonPost w n (.returned (.tuple #[v5, .int .i64 0])) wr) := hide ⟨hM.trans hmr, by rw [if_pos HG.out]; exact ⟨v5, rfl, hli⟩⟩
          have c4 : wr.cell? ⟨m, 4, none⟩ = some (.slice Am n.map.length cm) := (b1.mod hmr id).cell 4
          clear hfinE hLm hL hE hEl hli hown hlt hkn
          by_cases h0 : 0 < n.size
          · have d1 : decide (0 < n.size) = true := decide_eq_true h0
            have h1 : ¬ n.map.length = 0 := fun e => hz ⟨h0, e⟩
            have d2 : ((n.map.length : Int) == 0) = false := by rw [beq_eq_false_iff_ne]; omega
            clear hz
            go_wp2
            go_ret2
            exact HF.out
          · have d1 : decide (0 < n.size) = false := decide_eq_false h0
            clear hz
            go_wp2
            go_ret2
            exact HF.out
  · have hb : nodeGood n = false := by simpa using hg
    have hfin : CanonPost w n (.returned (.tuple #[.slice none 0 0, .int .i64 90])) w2 := ⟨hM, by rw [if_neg hg]⟩
    have HF := hide hfin
    rw [hb]
    clear hfin hb hg
    go_wp2
    go_ret2
    exact HF.out
end Go.Proofs.Ytabebkffcmajkaa
