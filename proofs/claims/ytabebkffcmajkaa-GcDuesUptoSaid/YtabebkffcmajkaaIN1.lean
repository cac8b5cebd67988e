import Derived.Test.YtabebkffcmajkaaIN0
import Derived.Deep.CutRange
/-! Walk: fileOf. -/
namespace Go.Proofs.Ytabebkffcmajkaa
open Go.RowKit Go.Maps Go.Shelf
attribute [local go_sem] quietV loudUpon Oper.semAt_some

theorem file_bad {w w' : World} {n : NodeD} (h : fileGood n = false) (hm : Mod None_ w w') : FilePost w n (.returned (.pointer none)) w' := by
  unfold FilePost; rw [if_neg (by rw [h]; simp)]; exact ⟨rfl, hm⟩
theorem file_bad_size {n : NodeD} (h : ¬ (0 ≤ n.size ∧ n.size ≤ 262144)) : fileGood n = false := by unfold fileGood; simp [h]
theorem file_bad_names {n : NodeD} (h : n.names.length ≠ 0) : fileGood n = false := by unfold fileGood; simp [h]
theorem file_bad_load {n : NodeD} (h : ¬ n.map.all okRun = true) : fileGood n = false := by unfold fileGood; simp only [Bool.not_eq_true] at h; rw [h]; simp
theorem file_bad_runs {n : NodeD} (h : ¬ runsOf (itemsOf (tableOf n.map) 0 512 0) = n.map) : fileGood n = false := by unfold fileGood; rw [decide_eq_false h]; simp
theorem file_bad_page {n : NodeD} (h : ¬ n.map.all pageOk = true) : fileGood n = false := by unfold fileGood; simp only [Bool.not_eq_true] at h; rw [h]; simp
theorem file_bad_end {n : NodeD} (h : ¬ itemsOf (tableOf n.map) 0 512 ((n.size + 511) / 512) = []) : fileGood n = false := by unfold fileGood; rw [decide_eq_false h]; simp
theorem file_ok {n : NodeD} (h1 : 0 ≤ n.size ∧ n.size ≤ 262144) (h2 : n.names.length = 0) (h3 : n.map.all okRun = true) (h4 : runsOf (itemsOf (tableOf n.map) 0 512 0) = n.map) (h5 : n.map.all pageOk = true)
    (h6 : itemsOf (tableOf n.map) 0 512 ((n.size + 511) / 512) = []) : fileGood n = true := by unfold fileGood; rw [decide_eq_true h1, decide_eq_true h2, h3, decide_eq_true h4, h5, decide_eq_true h6]; rfl

set_option maxRecDepth 100000 in
set_option maxHeartbeats 8000000 in
theorem file_any (w : World) (n : NodeD) (vm vn vl : Value) (h : NodeAt w n vm vn vl) : Calls Try.prog 30 #[.agg (nodeC n vm vn vl)] w (FilePost w n) := by
  obtain ⟨An, cn, rfl, hcn1, hcn2, _⟩ := id h.names
  obtain ⟨Am, cm, rfl, hcm1, hcm2, hml, _, _⟩ := id h.map
  obtain ⟨hs1, hs2⟩ := h.size
  have HN := hide h
  have hnl := h.nlen
  clear h
  have hln : ∀ w, (Builtin.len_ #[23] 3 #[.slice An n.names.length cn]).run Try.prog w = .ok (.int .i64 n.names.length) w := fun w => by simp [Builtin.len_, run_underlying Try.underlying23]; rfl
  have hlm : ∀ w, (Builtin.len_ #[22] 3 #[.slice Am n.map.length cm]).run Try.prog w = .ok (.int .i64 n.map.length) w := fun w => by simp [Builtin.len_, run_underlying Try.underlying22]; rfl
  unfold nodeC
  refine calls_of_wp_marks 3 Try.func30 rfl ?_
  simp only [Try.ntmps30, List.size_toArray, List.length_cons, List.length_nil, Nat.reduceAdd, Nat.reduceSub, Array.replicate_succ, Array.replicate_zero, List.push_toArray, List.append_toArray, List.nil_append, List.cons_append]
  by_cases hsz : 0 ≤ n.size ∧ n.size ≤ 262144
  · by_cases hnm : n.names.length = 0
    · obtain ⟨hsa, hsb⟩ := hsz
      have d1 : ¬ n.size < 0 := by omega
      have d2 : decide (262144 < n.size) = false := decide_eq_false (by omega)
      have d3 : decide (0 < n.names.length) = false := decide_eq_false (by omega)
      have HNM := hide hnm
      clear hnm
      obtain ⟨m, hm⟩ : ∃ m, m = w.heap.size := ⟨_, rfl⟩
      obtain ⟨w1, hw1⟩ : ∃ w1, w1 = (w.alloc (.cells (nodeC n (.slice Am n.map.length cm) (.slice An n.names.length cn) vl) 26)).alloc (.cells #[.pointer none] 38) := ⟨_, rfl⟩
      have hM : Mod None_ w w1 := by rw [hw1]; exact ((Mod.refl _ w).alloc _).alloc _
      have b1 : Blk w1 m 26 (nodeC n (.slice Am n.map.length cm) (.slice An n.names.length cn) vl) := by rw [hw1, hm]; exact (Blk.new w 26 _).alloc _
      have b2 : Blk w1 (m + 1) 38 #[.pointer none] := by
        have := Blk.new (w.alloc (.cells (nodeC n (.slice Am n.map.length cm) (.slice An n.names.length cn) vl) 26)) 38 #[.pointer none]
        rw [← hw1, alloc_size, ← hm] at this
        exact this
      have hgem : w.heap.size ≤ m := by omega
      have hgem2 : m ≤ w.heap.size := by omega
      unfold nodeC at hw1
      have HW1 := hide hw1
      have HMM := hide hm
      clear hw1 hm
      go_wp2_with fail
      rw [← HW1.out, ← HMM.out]
      clear HW1 HMM
      have hN1 := HN.out.kept hM
      refine (load_any w1 _ _ hN1.map).mono ?_
      rintro e w2 hp
      unfold LoadPost at hp
      by_cases hall : n.map.all okRun = true
      · rw [if_pos hall] at hp
        obtain ⟨t, r, mid, leaf, many, rfl, hT, hTB, hm2⟩ := hp
        have hlt1 : m + 1 < w1.heap.size := b2.lt
        replace b1 := b1.mod hm2 (by first | exact id | omega | (unfold Ix; omega) | (unfold LateS Ix; omega))
        replace b2 := b2.mod hm2 (by first | exact id | omega | (unfold Ix; omega) | (unfold LateS Ix; omega))
        replace hM := hM.trans hm2
        have hN2 := hN1.kept hm2
        have HALL := hide hall
        clear hN1 hm2 hall
        go_upto_region 4 with fail
        go_cut [36] from 27 to 36 (fun s wx => s = .bool (!decide (runsOf (itemsOf (tableOf n.map) 0 512 0) = n.map)) ∧ RadixAt wx t r mid leaf (tableOf n.map) many ∧ NodeAt wx n (.slice Am n.map.length cm) (.slice An n.names.length cn) vl ∧ Mod None_ w wx ∧ Blk wx m 26 (nodeC n (.slice Am n.map.length cm) (.slice An n.names.length cn) vl) ∧ Blk wx (m + 1) 38 #[.pointer none])
        case first =>
          have c4 : w2.cell? ⟨m, 4, none⟩ = some (.slice Am n.map.length cm) := b1.cell 4
          refine region_mxw [(true, 0), (true, 1), (true, 2), (true, 3), (true, 5), (true, 6), (false, 4), (false, 7), (true, 8), (true, 9)] (fun w' => w'.cell? ⟨m, 4, none⟩ = some (.slice Am n.map.length cm)) (by kernel_rfl) (by kernel_rfl) ?_
          rintro w3 hw3
          have hm3 : Mod None_ w2 w3 := by rw [hw3]; exact (Mod.refl _ w2).drew
          replace b1 := b1.mod hm3 (by first | exact id | omega | (unfold Ix; omega) | (unfold LateS Ix; omega))
          replace b2 := b2.mod hm3 (by first | exact id | omega | (unfold Ix; omega) | (unfold LateS Ix; omega))
          replace hM := hM.trans hm3
          replace hT := hT.kept hm3
          replace hN2 := hN2.kept hm3
          replace c4 : w3.cell? ⟨m, 4, none⟩ = some (.slice Am n.map.length cm) := b1.cell 4
          have HR := hide (runs_any w3 t r mid leaf _ many hT)
          clear hw3 hm3
          refine ⟨c4, ?_⟩
          iterate 6 (refine mxw_quiet rfl (fun w' i1 K hK => by go_simp; exact hK) ?_; go_frame)
          refine mxw_loud rfl (fun K hK => ?_)
          go_simp
          refine Calls.mono HR.out ?_
          rintro e w4 ⟨v4, rfl, ho4, hm4⟩
          replace b1 := b1.mod hm4 (by first | exact id | omega | (unfold Ix; omega) | (unfold LateS Ix; omega))
          replace b2 := b2.mod hm4 (by first | exact id | omega | (unfold Ix; omega) | (unfold LateS Ix; omega))
          replace hM := hM.trans hm4
          replace hT := hT.kept hm4
          replace hN2 := hN2.kept hm4
          have c5 : w4.cell? ⟨m, 4, none⟩ = some (.slice Am n.map.length cm) := b1.cell 4
          have HE := hide (slicesEqRun w4 _ _ _ _ (list_of_ownRuns ho4) hN2.map.list)
          clear hm4 ho4 HR c4
          refine ⟨_, rfl, c5, hK _ _ ?_⟩
          clear hK K
          try go_frame
          refine mxw_loud rfl (fun K hK => ?_)
          go_simp
          refine Calls.mono HE.out ?_
          rintro e w5 ⟨rfl, hm5⟩
          replace b1 := b1.mod hm5 (by first | exact id | omega | (unfold Ix; omega) | (unfold LateS Ix; omega))
          replace b2 := b2.mod hm5 (by first | exact id | omega | (unfold Ix; omega) | (unfold LateS Ix; omega))
          replace hM := hM.trans hm5
          replace hT := hT.kept hm5
          replace hN2 := hN2.kept hm5
          have c6 : w5.cell? ⟨m, 4, none⟩ = some (.slice Am n.map.length cm) := b1.cell 4
          clear hm5 HE c5
          refine ⟨_, rfl, c6, hK _ _ ?_⟩
          clear hK K
          try go_frame
          iterate 2 (refine mxw_quiet rfl (fun w' i1 K hK => by go_simp; exact hK) ?_; go_frame)
          refine mxw_nil ?_
          go_wp2_with fail
          go_meet
          case rel => exact ⟨rfl, hT, hN2, hM, b1, b2⟩
        case rest =>
          obtain ⟨rfl, hT, hN2, hM, b1, b2⟩ := hcut

          have c2 : wc.cell? ⟨m + 1, 0, none⟩ = some (.pointer none) := b2.cell 0
          have f2 : wc.frozen? ⟨m + 1, 0, none⟩ = false := b2.frozen 0
          by_cases hru : runsOf (itemsOf (tableOf n.map) 0 512 0) = n.map
          · rw [decide_eq_true hru]
            rw [show (!true) = false from rfl]
            have c4 : wc.cell? ⟨m, 4, none⟩ = some (.slice Am n.map.length cm) := b1.cell 4
            have HRU := hide hru
            clear hru
            go_wp2_with fail
            go_loopw [40] (fun s wr => ∃ k : Nat, k ≤ n.map.length ∧ s = .int .i64 k ∧ (n.map.take k).all pageOk = true ∧ Mod None_ wc wr) (fun s _ => n.map.length - (intOf s).toNat)
            case atStart => exact ⟨0, Nat.zero_le _, rfl, rfl, Mod.refl _ _⟩
            obtain ⟨k, hk, rfl, hpg, hm⟩ := hrel
            have HPG := hide hpg
            clear hpg c2 f2 c4
            by_cases hlt : k < n.map.length
            · have hki : (k : Int) < n.map.length := by omega
              obtain ⟨_, _, hcv, _, _, _, hok, hcell⟩ := hN2.map
              simp only [Value.slice.injEq, true_and] at hcv
              obtain ⟨rfl, rfl⟩ := hcv
              obtain ⟨g, o, rfl, hg, hcell⟩ := hcell (by omega)
              obtain ⟨x0, x1, x2⟩ := hcell k hlt
              obtain ⟨_, ⟨hp1, hp2⟩, hn1, hn2⟩ := hok n.map[k] (List.getElem_mem hlt)
              have hoky := List.all_eq_true.1 HALL.out n.map[k] (List.getElem_mem hlt)
              have htk : n.map.take (k + 1) = n.map.take k ++ [n.map[k]] := List.take_succ_eq_append_getElem hlt
              have hall : n.map.all pageOk = true → pageOk n.map[k] = true := fun h => List.all_eq_true.1 h _ (List.getElem_mem hlt)
              obtain ⟨x, hx⟩ : ∃ x, x = n.map[k] := ⟨_, rfl⟩
              rw [← hx] at x0 x1 x2 hp1 hp2 hn1 hn2 hoky htk hall
              simp only [okRun, Bool.and_eq_true, decide_eq_true_eq] at hoky
              obtain ⟨⟨⟨q1, q2⟩, q3, q4⟩, q5⟩ := hoky
              have HTK := hide htk
              have HPA := hide hall
              replace x0 := (World.cell?_of_block (hm.block g hg id)).trans x0
              replace x1 := (World.cell?_of_block (hm.block g hg id)).trans x1
              replace x2 := (World.cell?_of_block (hm.block g hg id)).trans x2
              obtain ⟨wa, hwa⟩ : ∃ wa, wa = wr.alloc (.cells #[.int .i64 x.off, .int .i64 x.page, .int .i64 x.count] 51) := ⟨_, rfl⟩
              have hma : Mod None_ wc wa := by rw [hwa]; exact hm.alloc _
              have b3 := (b2.mod hma id)
              have c3 : (wr.alloc (.cells #[.int .i64 x.off, .int .i64 x.page, .int .i64 x.count] 51)).cell? ⟨m + 1, 0, none⟩ = some (.pointer none) := by rw [← hwa]; exact b3.cell 0
              have f3 : (wr.alloc (.cells #[.int .i64 x.off, .int .i64 x.page, .int .i64 x.count] 51)).frozen? ⟨m + 1, 0, none⟩ = false := by rw [← hwa]; exact b3.frozen 0
              have HWA := hide hwa
              clear hwa hcell hx htk hall hok
              by_cases hpk : pageOk x = true
              · have hpk2 := hpk
                simp only [pageOk, Bool.not_eq_true', Bool.or_eq_false_iff, decide_eq_false_iff_not] at hpk2
                obtain ⟨p1, p2⟩ := hpk2
                have d5 : ¬ x.page < 5 := p1
                have d6 : decide (1024 - x.count < x.page) = false := decide_eq_false p2
                have HK := hide hpk
                clear hpk p1 p2
                go_wp2_with fail
                rw [← HWA.out]
                go_roundw
                case rel => exact ⟨k + 1, by omega, by simp, by rw [HTK.out, List.all_append, HPG.out]; simp [HK.out], hma⟩
                case measure => simp [intOf]; omega
              · have HB := hide (file_bad_page (fun h => hpk (HPA.out h)))
                have HM3 := hide (show Mod None_ w (wa.setCell ⟨m + 1, 0, none⟩ (.pointer none)) from (hM.trans hma).setCell (p := ⟨m + 1, 0, none⟩) (.inl (by show w.heap.size ≤ m + 1; omega)) _)
                have b4 : Blk (wa.setCell ⟨m + 1, 0, none⟩ (.pointer none)) (m + 1) 38 #[.pointer none] := by simpa using b3.set_ 0 (.pointer none)
                have HB4 := hide b4
                clear b4 b3 hma
                by_cases p1 : x.page < 5
                · clear hpk
                  go_wp2
                  rw [← HWA.out]
                  have hc := HB4.out.cell 0
                  refine ⟨.pointer none, ?_, file_bad HB.out HM3.out⟩
                  simp [results, Try.results30, go_sem, hc]
                · have d6 : decide (1024 - x.count < x.page) = true := by
                    refine decide_eq_true ?_
                    simp only [pageOk, Bool.not_eq_true', Bool.not_eq_false, Bool.or_eq_true, decide_eq_true_eq] at hpk
                    rcases hpk with h | h
                    · exact absurd h p1
                    · exact h
                  clear hpk
                  go_wp2
                  rw [← HWA.out]
                  have hc := HB4.out.cell 0
                  refine ⟨.pointer none, ?_, file_bad HB.out HM3.out⟩
                  simp [results, Try.results30, go_sem, hc]
            obtain rfl : k = n.map.length := by omega
            have hkn : ¬ (n.map.length : Int) < n.map.length := by omega
            have hpa := HPG.out
            rw [List.take_length] at hpa
            have HPA := hide hpa
            replace b1 := b1.mod hm (by first | exact id | omega | (unfold Ix; omega) | (unfold LateS Ix; omega))
            replace b2 := b2.mod hm (by first | exact id | omega | (unfold Ix; omega) | (unfold LateS Ix; omega))
            replace hM := hM.trans hm
            replace hT := hT.kept hm
            have c3 : wr.cell? ⟨m, 3, none⟩ = some (.int .i64 n.size) := b1.cell 3
            clear hm hpa HPG hlt
            go_wp2_with fail
            refine (endPage_any n.size wr hsa hsb).mono ?_
            rintro e w5 ⟨rfl, rfl⟩
            go_wp2_with fail
            refine (from_call wr t _).mono ?_
            rintro e w6 ⟨rfl, hw6⟩
            obtain ⟨mt, hmt⟩ : ∃ k, k = wr.heap.size := ⟨_, rfl⟩
            rw [← hmt]
            have hM6 : Mod None_ wr w6 := by rw [hw6]; exact ((Mod.refl _ wr).alloc _).alloc _
            have b3 : Blk w6 mt 52 #[.pointer (some ⟨t, 0, none⟩)] := by rw [hw6, hmt]; exact (Blk.new wr 52 _).alloc _
            have b4 : Blk w6 (mt + 1) 3 #[.int .i64 ((n.size + 511) / 512)] := by
              have := Blk.new (wr.alloc (.cells #[.pointer (some ⟨t, 0, none⟩)] 52)) 3 #[.int .i64 ((n.size + 511) / 512)]
              rw [← hw6, alloc_size, ← hmt] at this
              exact this
            replace b1 := b1.mod hM6 (by first | exact id | omega | (unfold Ix; omega) | (unfold LateS Ix; omega))
            replace b2 := b2.mod hM6 (by first | exact id | omega | (unfold Ix; omega) | (unfold LateS Ix; omega))
            replace hM := hM.trans hM6
            replace hT := hT.kept hM6
            clear hw6 hM6 hmt c3
            have hst := from_stops 2 w6 (KpR w6.heap.size) (fun W _ => KpR.refl _ W) (fun h k => h.trans k) (fun W W1 B g t cs hb hm hk hg hB => hk.same g _ _ _ (by have := hb.size; omega) hB) t r mid leaf (tableOf n.map) many ((n.size + 511) / 512) (mt + 1) mt hT (b4.cell 0) (b3.cell 0)
            have hmw : m < w6.heap.size := b1.lt
            have hmw1 : m + 1 < w6.heap.size := b2.lt
            obtain ⟨L, hL⟩ : ∃ L, L = itemsOf (tableOf n.map) 0 512 ((n.size + 511) / 512) := ⟨_, rfl⟩
            have HL := hide hL
            rw [← hL] at hst
            clear hL
            go_wp2_with fail
            refine wp_range_two 3 (by omega) (gf := 38) (lb := #[.pointer (some ⟨mt + 1, 0, none⟩), .pointer (some ⟨mt, 0, none⟩)]) rfl (enters_of Try.func38 (by kernel_rfl) rfl) hst (fun h k => h.trans k) (fun U l o o' hl h ho _ => KpR.putObj U l o o' h ho) (Below.refl _ _) (fun _ => rfl)
              (fun pre U => pre = [] ∧ Mod None_ w6 U) (fun c pre U => c = .ret ∧ pre ≠ [] ∧ Mod None_ w U ∧ Blk U (m + 1) 38 #[.pointer none]) 2 (fun U => L = [] ∧ Mod None_ w6 U) (fun U => L ≠ [] ∧ Mod None_ w U ∧ Blk U (m + 1) 38 #[.pointer none])
              (fun pre A B row h hg hr => ⟨h.1, mod_of_grown_own h.2 hg hr (Nat.le_refl _)⟩) (fun c pre A B row h hg hr => ⟨h.1, h.2.1, mod_of_grown_own h.2.2.1 hg hr (by have := hM.size; omega), blk_of_grown_own h.2.2.2 hg hr hmw1⟩)
              ⟨rfl, Mod.refl _ _⟩ ?done ?stop ?body ?rest ?rest2
            case done =>
              rintro xs U hxs h
              obtain rfl : L = xs := hxs.symm
              exact h
            case stop =>
              rintro c pre U hp h
              obtain ⟨rfl, h2, h3⟩ := h
              refine .inr ⟨rfl, fun e => h2 ?_, h3⟩
              rw [e] at hp
              exact List.prefix_nil.1 hp
            case body =>
              apply Exists.intro
              refine ⟨?_, ?_⟩
              · intro l x U K hK
                gi_wp2
                exact hK
              · rintro l pre x U ⟨hp, hm⟩ hlt
                replace b2 := b2.mod hm id
                have c2 : U.cell? ⟨m + 1, 0, none⟩ = some (.pointer none) := b2.cell 0
                have f2 : U.frozen? ⟨m + 1, 0, none⟩ = false := b2.frozen 0
                clear hst
                gi_wp2
                have hm4 : Mod (· = m + 1) U (U.setCell ⟨m + 1, 0, none⟩ (.pointer none)) := (Mod.refl (· = m + 1) U).setCell (p := ⟨m + 1, 0, none⟩) (.inr rfl) _
                refine ⟨KeepsFrom.of_mod hm4 (fun k h1 h2 e => by omega), rfl, by simp, (hM.trans hm).setCell (p := ⟨m + 1, 0, none⟩) (.inl (by show w.heap.size ≤ m + 1; omega)) _, ?_⟩
                simpa using b2.set_ 0 (.pointer none)
            case rest =>
              rintro D U hD ⟨hLn, hm⟩ hdf
              have hTl : ∀ g, TreeB t r mid leaf g → g < w6.heap.size := fun g hg => hT.lt hg
              have hUs := hm.size
              have hTw : ∀ g, TreeB t r mid leaf g → w.heap.size ≤ g := fun g hg => by have := hTB g hg; omega
              replace b1 := b1.mod hm (by first | exact id | omega | (unfold Ix; omega) | (unfold LateS Ix; omega))
              replace b2 := b2.mod hm (by first | exact id | omega | (unfold Ix; omega) | (unfold LateS Ix; omega))
              replace hM := hM.trans hm
              replace hT := hT.kept hm
              have hOK := hide (file_ok ⟨hsa, hsb⟩ HNM.out HALL.out HRU.out HPA.out (HL.out.symm.trans hLn))
              have c3 : U.cell? ⟨m, 3, none⟩ = some (.int .i64 n.size) := b1.cell 3
              have hltD := (Array.getElem?_eq_some_iff.1 hdf).1
              clear hm hst hLn HNM HALL HRU HPA HL
              obtain ⟨ms, hms⟩ : ∃ k, k = U.heap.size := ⟨_, rfl⟩
              obtain ⟨w7, hw7⟩ : ∃ w7, w7 = U.alloc (.cells #[.int .i64 1, .int .i64 n.size, .pointer (some ⟨t, 0, none⟩), .pointer none] 55) := ⟨_, rfl⟩
              have hmw7 : Mod None_ U w7 := by rw [hw7]; exact (Mod.refl _ U).alloc _
              have bs : Blk w7 ms 55 #[.int .i64 1, .int .i64 n.size, .pointer (some ⟨t, 0, none⟩), .pointer none] := by rw [hw7, hms]; exact Blk.new U 55 _
              have hlm : m + 1 < ms := by rw [hms]; exact b2.lt
              have hDm : D < ms := by omega
              have hdf7 : w7.heap[D]? = some (.deferred (some [])) := (hmw7.block D hltD id).trans hdf
              replace b2 := b2.mod hmw7 (by first | exact id | omega | (unfold Ix; omega) | (unfold LateS Ix; omega))
              replace hM := hM.trans hmw7
              replace hT := hT.kept hmw7
              have c2 : w7.cell? ⟨m + 1, 0, none⟩ = some (.pointer none) := b2.cell 0
              have f2 : w7.frozen? ⟨m + 1, 0, none⟩ = false := b2.frozen 0
              have HW7 := hide hw7
              have HMS := hide hms
              rw [hw7] at c2 f2
              clear hw7 hms
              go_wp2
              rw [← HMS.out, ← HW7.out]
              clear c2 f2 c3
              obtain ⟨w8, hw8⟩ : ∃ w8, w8 = w7.setCell ⟨m + 1, 0, none⟩ (.pointer (some ⟨ms, 0, none⟩)) := ⟨_, rfl⟩
              rw [← hw8]
              have hm8 : Mod (· = m + 1) w7 w8 := by rw [hw8]; exact (Mod.refl (· = m + 1) w7).setCell (p := ⟨m + 1, 0, none⟩) (.inr rfl) _
              have b5 : Blk w8 (m + 1) 38 #[.pointer (some ⟨ms, 0, none⟩)] := by rw [hw8]; simpa using b2.set_ 0 (.pointer (some ⟨ms, 0, none⟩))
              replace bs := bs.mod hm8 (by omega)
              have hgeT : ∀ g, TreeB t r mid leaf g → g ≠ m + 1 := fun g hg e => by have := hTB g hg; omega
              replace hT := hT.mod hm8 (fun g hg e => hgeT g hg e)
              have hdf8 : w8.heap[D]? = some (.deferred (some [])) := (hm8.block D (by have := hmw7.size; omega) (by omega)).trans hdf7
              have hm9 : Mod (· = D) w8 (w8.putObj D (.deferred none)) := (Mod.of_grown (grownBy_putObj' _ D _)).mono fun k _ e => by cases e; rfl
              replace bs := bs.mod hm9 (by omega)
              replace hT := hT.mod hm9 (fun g hg e => by have := hTl g hg; omega)
              replace b5 := b5.mod hm9 (by omega)
              have hwD : w.heap.size ≤ D := by omega
              have hm79 := hmw7.size
              have hM9 : Mod None_ w (w8.putObj D (.deferred none)) := (hM.trans' hm8 (fun k hk e => by omega)).trans' hm9 (fun k hk e => by omega)
              have hpost : FilePost w n (.returned (.pointer (some ⟨ms, 0, none⟩))) (w8.putObj D (.deferred none)) := by
                unfold FilePost
                rw [if_pos hOK.out]
                exact ⟨ms, t, r, mid, leaf, many, rfl, bs, hT, by omega, fun g hg => ⟨hTw g hg, fun e => by have := hTl g hg; omega⟩, hM9⟩
              have hc := b5.cell 0
              have HC := hide hc
              have HP := hide hpost
              have HD := hide hdf8
              refine ⟨by simp, .inl ⟨_, _, rfl, run_takeDeferred HD.out, ?_⟩⟩
              have hc := HC.out
              refine ⟨.pointer (some ⟨ms, 0, none⟩), ?_, HP.out⟩
              simp [results, Try.results30, go_sem, hc]
            case rest2 =>
              rintro D U hD ⟨hLn, hm, hb⟩ hdf
              have hB := file_bad_end (fun e => hLn (HL.out.trans e))
              have hm3 : Mod (· = D) U (U.putObj D (.deferred none)) := (Mod.of_grown (grownBy_putObj' _ D _)).mono fun k _ e => by cases e; rfl
              have hF := file_bad hB (hm.trans' hm3 (fun k hk e => by have := hM.size; omega))
              have hb3 := hb.mod hm3 (by omega)
              have HB := hide hb3
              have HF := hide hF
              have HD := hide hdf
              clear hF hB hm3 hb3 hb hm hdf hLn hst
              go_wp2
              have hc := HB.out.cell 0
              refine ⟨by simp, .inl ⟨_, _, rfl, run_takeDeferred HD.out, ?_⟩⟩
              refine ⟨.pointer none, ?_, HF.out⟩
              simp [results, Try.results30, go_sem, hc]
          · have HB := hide (file_bad_runs hru)
            rw [decide_eq_false hru]
            rw [show (!false) = true from rfl]
            clear hru hT hN2 b1
            have c2 : wc.cell? ⟨m + 1, 0, none⟩ = some (.pointer none) := b2.cell 0
            have f2 : wc.frozen? ⟨m + 1, 0, none⟩ = false := b2.frozen 0
            obtain ⟨w3, hw3⟩ : ∃ w3, w3 = wc.setCell ⟨m + 1, 0, none⟩ (.pointer none) := ⟨_, rfl⟩
            have hM3 : Mod None_ w w3 := by rw [hw3]; exact hM.setCell (p := ⟨m + 1, 0, none⟩) (.inl (by show w.heap.size ≤ m + 1; omega)) _
            have b3 : Blk w3 (m + 1) 38 #[.pointer none] := by rw [hw3]; simpa using b2.set_ 0 (.pointer none)
            have HW3 := hide hw3
            have HF := hide (file_bad HB.out hM3)
            have HB3 := hide b3
            clear hw3 hM3 b3 b2
            go_wp2
            rw [← HW3.out]
            have hc := HB3.out.cell 0
            refine ⟨.pointer none, ?_, HF.out⟩
            simp [results, Try.results30, go_sem, hc]
      · rw [if_neg hall] at hp
        obtain ⟨rfl, hm2⟩ := hp
        replace b2 := b2.mod hm2 (by first | exact id | omega | (unfold Ix; omega) | (unfold LateS Ix; omega))
        replace hM := hM.trans hm2
        have HB := hide (file_bad_load hall)
        clear hm2 hall hN1 b1
        go_wp2_with fail
        refine region_stw (by kernel_rfl) (by kernel_rfl) ?_
        rintro w4 hw4
        have hm4 : Mod None_ w2 w4 := by rw [hw4]; exact (Mod.refl _ w2).drew
        replace b2 := b2.mod hm4 (by first | exact id | omega | (unfold Ix; omega) | (unfold LateS Ix; omega))
        replace hM := hM.trans hm4
        clear hw4 hm4
        repeat (refine stw_step (fun K hK => ?_); go_simp; refine hK _ ?_; clear hK K)
        refine stw_nil ?_
        obtain ⟨w2, rfl⟩ : ∃ w2, w2 = w4 := ⟨_, rfl⟩
        have c2 : w2.cell? ⟨m + 1, 0, none⟩ = some (.pointer none) := b2.cell 0
        have f2 : w2.frozen? ⟨m + 1, 0, none⟩ = false := b2.frozen 0
        obtain ⟨w3, hw3⟩ : ∃ w3, w3 = w2.setCell ⟨m + 1, 0, none⟩ (.pointer none) := ⟨_, rfl⟩
        have hM3 : Mod None_ w w3 := by rw [hw3]; exact hM.setCell (p := ⟨m + 1, 0, none⟩) (.inl (by show w.heap.size ≤ m + 1; omega)) _
        have b3 : Blk w3 (m + 1) 38 #[.pointer none] := by rw [hw3]; simpa using b2.set_ 0 (.pointer none)
        have HW3 := hide hw3
        have HF := hide (file_bad HB.out hM3)
        have HB3 := hide b3
        clear hw3 hM3 b3 b2
        go_wp2
        rw [← HW3.out]
        have hc := HB3.out.cell 0
        refine ⟨.pointer none, ?_, HF.out⟩
        simp [results, Try.results30, go_sem, hc]
    · have d1 : decide (0 < n.names.length) = true := decide_eq_true (by omega)
      obtain ⟨hsa, hsb⟩ := hsz
      have hb := file_bad_names hnm
      have d2 : decide (262144 < n.size) = false := decide_eq_false (by omega)
      have HB := hide hb
      clear hb hnm
      have HM1 := hide (file_bad HB.out (((Mod.refl None_ w).alloc (.cells (nodeC n (.slice Am n.map.length cm) (.slice An n.names.length cn) vl) 26)).alloc (.cells #[.pointer none] 38)))
      go_wp2
      refine ⟨.pointer none, ?_, HM1.out⟩
      simp [results, Try.results30, go_sem]
  · have HB := hide (file_bad_size hsz)
    have HM1 := hide (file_bad HB.out (((Mod.refl None_ w).alloc (.cells (nodeC n (.slice Am n.map.length cm) (.slice An n.names.length cn) vl) 26)).alloc (.cells #[.pointer none] 38)))
    by_cases h0 : n.size < 0
    · clear hsz
      go_wp2
      refine ⟨.pointer none, ?_, HM1.out⟩
      simp [results, Try.results30, go_sem]
    · have d2 : decide (262144 < n.size) = true := decide_eq_true (by omega)
      clear hsz
      go_wp2
      refine ⟨.pointer none, ?_, HM1.out⟩
      simp [results, Try.results30, go_sem]
end Go.Proofs.Ytabebkffcmajkaa

