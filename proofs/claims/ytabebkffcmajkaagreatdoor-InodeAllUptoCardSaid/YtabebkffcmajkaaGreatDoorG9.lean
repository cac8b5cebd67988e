import Derived.Deep.CutRange
import Derived.Test.YtabebkffcmajkaaGreatDoorG8
import Derived.Test.YtabebkffcmajkaaGreatDoorG7
import Derived.Test.YtabebkffcmajkaaGreatDoorG6
set_option linter.unusedVariables false
set_option linter.unusedSimpArgs false
/-! Reference walk: file. -/
namespace Go.Proofs.YtabebkffcmajkaaGreatDoor
open Go.RowKit Go.Maps Go.Shelf
attribute [local go_sem] quietV loudUpon Oper.semAt_some

/-- a file's table behind an entry -/
def nextF (e : EntD) (f : Nat → Int) : Nat → Int := cutF (if e.kind = 1 then setN f e.off.toNat e.page e.count.toNat else f) ((e.size + 511) / 512)
def fileN (n : NodeD) (e : EntD) : NodeD := { n with size := e.size, map := runsT (nextF e (tableOf n.map)) }
theorem nextF_in {e : EntD} {f : Nat → Int} (hr : e.kind = 1 → refRun ⟨e.off, e.page, e.count⟩ = true) (h : InR f) : InR (nextF e f) := by
  intro x
  unfold nextF cutF
  split
  · exact .inl rfl
  · split
    · rename_i hk
      exact fold_in [⟨e.off, e.page, e.count⟩] f (fun r hr' => by simp only [List.mem_singleton] at hr'; subst hr'; exact hr hk) h x
    · exact h x
theorem zeroTabV (w : World) : (zeroValue 103).run Tryz.prog w = .ok (.agg (tabCells fun _ => 0)) w := by kernel_rfl
theorem tabCells_size (f : Nat → Int) : (tabCells f).size = 512 := by rw [tabCells, Array.size_ofFn]
theorem infoTab (f : Nat → Int) : (Tryz.prog.info? 103).map (·.size) = some (tabCells f).size := by rw [tabCells_size]; kernel_rfl
theorem tabCells_one (f : Nat → Int) : (tabCells f).all (·.oneCell') = true := by
  obtain ⟨T, hT⟩ : ∃ T, T = tabCells f := ⟨_, rfl⟩
  have hs : T.size = 512 := by rw [hT]; exact tabCells_size f
  rw [← hT, Array.all_eq_true]
  intro i hi
  have e : T[i]? = some (.int .i64 (f i)) := by rw [hT]; exact tabCells_get f (by omega)
  rw [Array.getElem?_eq_getElem hi] at e
  rw [Option.some.inj e]
  rfl
theorem tabCells_congr {f g : Nat → Int} (h : ∀ i, i < 512 → f i = g i) : tabCells f = tabCells g := by
  unfold tabCells
  congr 1
  funext i
  rw [h i i.2]
/-- f, cut from k on up to j -/
def cutTo2 (f : Nat → Int) (a j : Nat) : Nat → Int := fun i => if a ≤ i ∧ i < j then 0 else f i

set_option maxRecDepth 100000 in
set_option maxHeartbeats 2000000 in
theorem refFile_any (w : World) (n : NodeD) (vm vn vl : Value) (e : EntD) (hm0 : RunsAt w vm n.map) (hall : ∀ r ∈ n.map, refRun r = true) (hone : vn.oneCell' = true ∧ vl.oneCell' = true)
    (hkr : e.kind = 1 → refRun ⟨e.off, e.page, e.count⟩ = true) (hz : 0 ≤ e.size ∧ e.size ≤ 262144) :
    Calls Tryz.prog 50 #[.agg (nodeC n vm vn vl), .agg (encEntry e).toArray] w fun x w' => ∃ v, x = .returned (.agg (nodeC (fileN n e) v vn vl)) ∧ w'.ownsRow w.heap.size 73 3 v (fileN n e).map.length (rowOf encRun (fileN n e).map) ∧ Mod None_ w w' := by
  obtain ⟨m, hm⟩ : ∃ m, m = w.heap.size := ⟨_, rfl⟩
  obtain ⟨w0, hw0⟩ : ∃ w0, w0 = ((w.alloc (.cells (nodeC n vm vn vl) 34)).alloc (.cells (encEntry e).toArray 49)).alloc (.cells zeroNode 34) := ⟨_, rfl⟩
  have hM0 : Mod None_ w w0 := by rw [hw0]; exact (((Mod.refl _ w).alloc _).alloc _).alloc _
  have bn : Blk w0 m 34 (nodeC n vm vn vl) := by rw [hw0, hm]; exact ((Blk.new w 34 _).alloc _).alloc _
  have be : Blk w0 (m + 1) 49 (encEntry e).toArray := by
    have := (Blk.new (w.alloc (.cells (nodeC n vm vn vl) 34)) 49 (encEntry e).toArray).alloc (.cells zeroNode 34)
    rw [← hw0, alloc_size, ← hm] at this
    exact this
  have bo : Blk w0 (m + 2) 34 zeroNode := by
    have := Blk.new ((w.alloc (.cells (nodeC n vm vn vl) 34)).alloc (.cells (encEntry e).toArray 49)) 34 zeroNode
    rw [← hw0, alloc_size, alloc_size, ← hm] at this
    exact this
  have hem : w.heap.size ≤ m := by omega
  have HT := hide (refTable_any w0 vm n.map (hm0.kept hM0) hall)
  have hin0 := table_in hall
  have c4 : w0.cell? ⟨m, 4, none⟩ = some vm := bn.cell 4
  have hvm : vm.oneCell' = true := by obtain ⟨A, c, rfl, _⟩ := hm0.list; rfl
  have HW0 := hide hw0
  have HMM := hide hm
  clear hw0 hm hm0 hall
  go_enter Tryz.func50, Tryz.ntmps50
  go_upto_region 1 with ((with_reducible refine at_slot 4 ?_); refine wpList_alloc rfl 34 rfl (.agg zeroNode) zeroNodeV ?_; go_frame)
  simp only [alloc_size]
  rw [← HMM.out, show (Value.agg zeroNode).cells = zeroNode from rfl, show m + 1 + 1 = m + 2 from rfl, ← HW0.out]
  clear HMM HW0
  go_wp2_with fail
  refine HT.out.mono ?_
  rintro x w1 ⟨rfl, hm1⟩
  obtain ⟨f0, hf0⟩ : ∃ f0, f0 = tableOf n.map := ⟨_, rfl⟩
  rw [← hf0] at hin0 ⊢
  replace bn := bn.mod hm1 id
  replace be := be.mod hm1 id
  replace bo := bo.mod hm1 id
  have hM1 := hM0.trans hm1
  obtain ⟨q, hq⟩ : ∃ q, q = w1.heap.size := ⟨_, rfl⟩
  obtain ⟨w2, hw2⟩ : ∃ w2, w2 = w1.alloc (.cells (tabCells f0) 103) := ⟨_, rfl⟩
  have hm2 : Mod None_ w1 w2 := by rw [hw2]; exact (Mod.refl _ w1).alloc _
  have bt : Blk w2 q 103 (tabCells f0) := by rw [hw2, hq]; exact Blk.new w1 _ _
  have hmq : m + 2 < q := by rw [hq]; exact bo.lt
  replace bn := bn.mod hm2 id
  replace be := be.mod hm2 id
  replace bo := bo.mod hm2 id
  have hM2 := hM1.trans hm2
  have HW2 := hide hw2
  have HQ := hide hq
  have HF0 := hide hf0
  clear hw2 hq hm1 hm2 hM0 hM1 HT c4 hf0
  go_upto_region 2 with ((with_reducible refine at_slot 5 ?_); refine wpList_declare rfl rfl 103 5 (.tmp 10) rfl rfl rfl (tabCells fun _ => 0) (tabCells f0) zeroTabV (infoTab _) (by rw [tabCells_size, tabCells_size]) (tabCells_one _) (by simp) rfl ?_; go_frame; rw [← HW2.out, ← HQ.out])
  clear HW2 HQ
  have x0 : w2.cell? ⟨m + 1, 0, none⟩ = some (.int .i64 e.kind) := be.cell 0
  go_upto_if 13 with fail
  go_cut [6] from 13 to 28 (fun s wx => Mod None_ w wx ∧ Mod (· = q) w2 wx ∧ Blk wx q 103 (tabCells (if e.kind = 1 then setN f0 e.off.toNat e.page e.count.toNat else f0)))
  case first =>
    by_cases hk : e.kind = 1
    · have k1 : (e.kind == 1) = true := by simp [hk]
      have hr := hkr hk
      simp only [refRun, dataB, Bool.and_eq_true, decide_eq_true_eq] at hr
      obtain ⟨⟨⟨⟨⟨r1, r2⟩, r3⟩, r4⟩, r5, r6⟩, r7⟩ := hr
      obtain ⟨o1, ho1⟩ : ∃ o1 : Nat, e.off = o1 := ⟨e.off.toNat, by omega⟩
      obtain ⟨c1, hc1⟩ : ∃ c1 : Nat, e.count = c1 := ⟨e.count.toNat, by omega⟩
      have hto : e.off.toNat = o1 := by omega
      have htc : e.count.toNat = c1 := by omega
      have HK := hide (And.intro hk (And.intro hto htc))
      have HO := hide ho1
      have HC := hide hc1
      have hoc : o1 + c1 ≤ 512 := by omega
      clear hk hkr hto htc ho1 hc1 bn bo
      go_wp2_with fail
      go_loopw [6] (fun s6 wv => ∃ i : Nat, i ≤ c1 ∧ s6 = .int .i64 i ∧ Mod None_ w wv ∧ Mod (· = q) w2 wv ∧ Blk wv q 103 (tabCells (setN f0 o1 e.page i))) (fun s6 _ => c1 - (intOf s6).toNat)
      case atStart => exact ⟨0, Nat.zero_le _, rfl, hM2, Mod.refl _ _, bt⟩
      clear hM2 bt x0 k1
      obtain ⟨i, hi, rfl, hM, hmo, bt⟩ := hrel
      replace be := be.mod hmo (by omega)
      have y2 : wr.cell? ⟨m + 1, 2, none⟩ = some (.int .i64 e.off) := be.cell 2
      have y3 : wr.cell? ⟨m + 1, 3, none⟩ = some (.int .i64 e.count) := be.cell 3
      have y4 : wr.cell? ⟨m + 1, 4, none⟩ = some (.int .i64 e.page) := be.cell 4
      by_cases hil : i < c1
      · have hic : (i : Int) < e.count := by rw [HC.out]; omega
        obtain ⟨j, hj⟩ : ∃ j, j = o1 + i := ⟨_, rfl⟩
        have hb : j < 512 := by omega
        have e3 : IntKind.i64.wrap (e.off + (i : Int)) = (j : Int) := by rw [HO.out, hj]; rw [IntWalk.i64_in _ (by omega)]; push_cast; rfl
        have e4 : IntKind.i64.wrap (e.page + (i : Int)) = e.page + i := IntWalk.i64_in _ (by omega)
        have w1' : wrap64 (e.page + i) = e.page + i := by unfold wrap64; omega
        have hb2 : (j : Int) < 512 := by omega
        obtain ⟨z, hz'⟩ : ∃ z, (tabCells (setN f0 o1 e.page i))[j]? = some z := ⟨_, tabCells_get _ hb⟩
        have fz : wr.frozen? ⟨q, j, none⟩ = false := bt.frozen _
        have cz : wr.cell? ⟨q, j, none⟩ = some z := by rw [bt.cell]; exact hz'
        have W1 := hide w1'
        have HJ := hide hj
        clear hz' w1' hj
        go_wp2_with fail
        have hms : Mod (· = q) wr (wr.setCell ⟨q, j, none⟩ (.int .i64 (e.page + i))) := (Mod.refl (· = q) wr).setCell (p := ⟨q, j, none⟩) (.inr rfl) _
        have b4 : Blk (wr.setCell ⟨q, j, none⟩ (.int .i64 (e.page + i))) q 103 (tabCells (setN f0 o1 e.page (i + 1))) := by
          have := bt.set_ j (.int .i64 (e.page + i))
          rw [tabCells_set _ hb, ← W1.out, HJ.out] at this
          rw [← W1.out, HJ.out]
          exact this
        go_roundw
        case rel => exact ⟨i + 1, by omega, by simp, hM.trans' hms (fun g hg e => by omega), hmo.trans hms, b4⟩
        case measure => simp [intOf]; omega
      · have hic : ¬ (i : Int) < e.count := by rw [HC.out]; omega
        obtain rfl : i = c1 := by omega
        clear y2 y4 be
        have HF := hide (And.intro hM (And.intro hmo bt))
        clear hM hmo bt
        go_wp2_with fail
        go_meet
        case rel => rw [if_pos HK.out.1, HK.out.2.1, HK.out.2.2]; exact HF.out
    · have k1 : (e.kind == 1) = false := by simp [hk]
      have HF := hide (And.intro hM2 (And.intro (Mod.refl (· = q) w2) bt))
      have HK := hide hk
      clear hk hkr bn be bo hM2 bt
      go_wp2_with fail
      go_meet
      case rel => rw [if_neg HK.out]; exact HF.out
  case rest =>
    obtain ⟨hM, hmo, bt⟩ := hcut
    replace bn := bn.mod hmo (by omega)
    replace be := be.mod hmo (by omega)
    replace bo := bo.mod hmo (by omega)
    have hin1 : InR (nextF e f0) := nextF_in hkr hin0
    obtain ⟨f1, hf1⟩ : ∃ f1, f1 = (if e.kind = 1 then setN f0 e.off.toNat e.page e.count.toNat else f0) := ⟨_, rfl⟩
    rw [← hf1] at bt
    have hnext : nextF e f0 = cutF f1 ((e.size + 511) / 512) := by rw [hf1]; rfl
    obtain ⟨a, ha⟩ : ∃ a : Nat, (e.size + 511) / 512 = a := ⟨((e.size + 511) / 512).toNat, by omega⟩
    rw [ha] at hnext
    have ha2 : a ≤ 512 := by omega
    have HEP := hide (refEndPage_any e.size wc hz.1 hz.2)
    rw [ha] at HEP
    have HNX := hide hnext
    have HIN := hide hin1
    have x5 : wc.cell? ⟨m + 1, 5, none⟩ = some (.int .i64 e.size) := be.cell 5
    have h00 : Blk wc q 103 (tabCells (cutTo2 f1 a a)) := by
      rw [show cutTo2 f1 a a = f1 from by funext i; unfold cutTo2; rw [if_neg (by omega)]]; exact bt
    clear hf1 hnext hin1 hin0 hkr ha bt x0 hmo hM2
    go_wp2_with fail
    refine HEP.out.mono ?_
    rintro x w3 ⟨rfl, rfl⟩
    clear HEP
    go_wp2_with fail
    go_loopw [7] (fun s7 wv => ∃ j : Nat, a ≤ j ∧ j ≤ 512 ∧ s7 = .int .i64 j ∧ Mod (· = q) wc wv ∧ Blk wv q 103 (tabCells (cutTo2 f1 a j))) (fun s7 _ => 512 - (intOf s7).toNat)
    case atStart => exact ⟨a, Nat.le_refl _, ha2, rfl, Mod.refl _ _, h00⟩
    clear h00
    obtain ⟨j, haj, hj5, rfl, hmo, bt⟩ := hrel
    by_cases hjl : j < 512
    · have hjd : (j : Int) < 512 := by omega
      obtain ⟨z, hz'⟩ : ∃ z, (tabCells (cutTo2 f1 a j))[j]? = some z := ⟨_, tabCells_get _ hjl⟩
      have fz : wr.frozen? ⟨q, j, none⟩ = false := bt.frozen _
      have cz : wr.cell? ⟨q, j, none⟩ = some z := by rw [bt.cell]; exact hz'
      have hms : Mod (· = q) wr (wr.setCell ⟨q, j, none⟩ (.int .i64 0)) := (Mod.refl (· = q) wr).setCell (p := ⟨q, j, none⟩) (.inr rfl) _
      have b4 : Blk (wr.setCell ⟨q, j, none⟩ (.int .i64 0)) q 103 (tabCells (cutTo2 f1 a (j + 1))) := by
        have := bt.set_ j (.int .i64 0)
        rw [tabCells_set _ hjl] at this
        rw [show cutTo2 f1 a (j + 1) = setAt (cutTo2 f1 a j) j 0 from by
          funext i
          unfold setAt cutTo2
          by_cases h : i = j
          · subst h; rw [if_pos (by omega), if_pos rfl]
          · rw [if_neg h]
            by_cases h2 : a ≤ i ∧ i < j
            · rw [if_pos h2, if_pos (by omega)]
            · rw [if_neg h2, if_neg (by omega)]]
        exact this
      have HB := hide (And.intro hms b4)
      clear hz' hms b4
      go_wp2_with fail
      go_roundw
      case rel => exact ⟨j + 1, by omega, by omega, by simp, hmo.trans HB.out.1, HB.out.2⟩
      case measure => simp [intOf]; omega
    · obtain rfl : j = 512 := by omega
      have hjd : ¬ ((512 : Nat) : Int) < 512 := by omega
      replace bn := bn.mod hmo (by omega)
      replace be := be.mod hmo (by omega)
      replace bo := bo.mod hmo (by omega)
      replace hM := hM.trans' hmo (fun g hg e => by omega)
      rw [tabCells_congr (g := nextF e f0) (fun i hi => by
        rw [HNX.out]
        unfold cutTo2 cutF
        by_cases h : a ≤ i
        · rw [if_pos (by omega), if_pos (by omega)]
        · rw [if_neg (by omega), if_neg (by omega)])] at bt
      clear HNX hmo
      have x5 : wr.cell? ⟨m + 1, 5, none⟩ = some (.int .i64 e.size) := be.cell 5
      have c3 : wr.cell? ⟨m, 3, none⟩ = some (.int .i64 n.size) := bn.cell 3
      have f3 : wr.frozen? ⟨m, 3, none⟩ = false := bn.frozen _
      obtain ⟨w4, hw4⟩ : ∃ w4, w4 = wr.setCell ⟨m, 3, none⟩ (.int .i64 e.size) := ⟨_, rfl⟩
      have hm4 : Mod (· = m) wr w4 := by rw [hw4]; exact (Mod.refl (· = m) wr).setCell (p := ⟨m, 3, none⟩) (.inr rfl) _
      have bn4 : Blk w4 m 34 (nodeC { n with size := e.size } vm vn vl) := by rw [hw4]; exact bn.set_ 3 _
      replace bo := bo.mod hm4 (by omega)
      replace bt := bt.mod hm4 (by omega)
      replace hM := hM.trans' hm4 (fun g hg e => by omega)
      have HW4 := hide hw4
      have HI := hide (infoTab (nextF e f0))
      have hM4s : m + 2 < w4.heap.size := bo.lt
      have hM4t := hM.size
      have HR := hide (refRuns_own w4 (nextF e f0) HIN.out)
      clear hw4 hm4 bn
      go_upto_region 12 with fail
      rw [← HW4.out]
      clear HW4 x5 c3 f3
      go_wp2_with ((with_reducible refine at_slot 41 ?_); refine wpList_val rfl (ex_load rfl (run_loadRow bt Tryz.underlying103 rfl HI.out)) ?_; go_frame)
      refine HR.out.mono ?_
      rintro x w5 ⟨v, rfl, hv, hm5⟩
      replace bn4 := bn4.mod hm5 id
      replace bo := bo.mod hm5 id
      replace hM := hM.trans hm5
      obtain ⟨A, c, rfl⟩ := own_slice hv
      have c4 : w5.cell? ⟨m, 4, none⟩ = some vm := bn4.cell 4
      have f4 : w5.frozen? ⟨m, 4, none⟩ = false := bn4.frozen _
      have hFN : fileN n e = { n with size := e.size, map := runsT (nextF e f0) } := by unfold fileN; rw [HF0.out]
      have hvb : ∀ g, (Value.slice A (runsT (nextF e f0)).length c).ownBlock = some g → m + 2 < g := fun g hg => by have := (own_blk hv hg).1; have := bo.lt; have := hM4s; omega
      have hv6 := own_base hv (show w.heap.size ≤ w4.heap.size by omega)
      obtain ⟨w6, hw6⟩ : ∃ w6, w6 = w5.setCell ⟨m, 4, none⟩ (.slice A (runsT (nextF e f0)).length c) := ⟨_, rfl⟩
      have hm6 : Mod (· = m) w5 w6 := by rw [hw6]; exact (Mod.refl (· = m) w5).setCell (p := ⟨m, 4, none⟩) (.inr rfl) _
      have bn6 : Blk w6 m 34 (nodeC (fileN n e) (.slice A (runsT (nextF e f0)).length c) vn vl) := by rw [hw6, hFN]; exact bn4.set_ 4 _
      replace bo := bo.mod hm6 (by omega)
      replace hM := hM.trans' hm6 (fun g hg e => by omega)
      replace hv6 := own_mod hv6 hm6 (fun g hg e => by have := hvb g hg; omega)
      have hmap : (fileN n e).map = runsT (nextF e f0) := by rw [hFN]
      rw [← hmap] at hv6 hvb hw6 bn6 ⊢
      have hm7 : Mod (· = m + 2) w6 (w6.setRow (m + 2) (nodeC (fileN n e) (.slice A (fileN n e).map.length c) vn vl)) := (Mod.refl (· = m + 2) w6).setRow (.inr rfl) _
      have hfin : ∃ v, Ending.returned (.agg (nodeC (fileN n e) (.slice A (fileN n e).map.length c) vn vl)) = .returned (.agg (nodeC (fileN n e) v vn vl)) ∧ (w6.setRow (m + 2) (nodeC (fileN n e) (.slice A (fileN n e).map.length c) vn vl)).ownsRow w.heap.size 73 3 v (fileN n e).map.length (rowOf encRun (fileN n e).map) ∧ Mod None_ w (w6.setRow (m + 2) (nodeC (fileN n e) (.slice A (fileN n e).map.length c) vn vl)) :=
        ⟨_, rfl, own_mod hv6 hm7 (fun g hg e => by have := hvb g hg; omega), hM.trans' hm7 (fun g hg e => by omega)⟩
      have HF := hide hfin
      have HB := hide (bo.row (nodeC (fileN n e) (.slice A (fileN n e).map.length c) vn vl))
      have HI2 := hide (infoNode (fileN n e) (.slice A (fileN n e).map.length c) vn vl)
      have HO2 := hide (nodeC_one (fileN n e) (.slice A (fileN n e).map.length c) vn vl rfl hone.1 hone.2)
      have HW6 := hide hw6
      clear hfin hm7 hM hv6 hvb hv hm6 hw6 bn4 hm5 hmap hFN
      go_upto_region 13 with fail
      rw [← HW6.out]
      clear HW6 c4 f4
      go_wp2_with (first
        | ((with_reducible refine at_slot 44 ?_); refine wpList_val rfl (ex_load rfl (run_loadRow bn6 Tryz.underlying34 rfl HI2.out)) ?_; go_frame)
        | ((with_reducible refine at_none 34 4 44 ?_); refine wpList_store_row rfl 34 (.tmp 4) (.tmp 44) rfl (m + 2) (nodeC (fileN n e) (.slice A (fileN n e).map.length c) vn vl) rfl rfl 34 zeroNode bo HI2.out rfl HO2.out ?_; go_frame))
      have hl := run_loadVar_row (P := Tryz.prog) _ (m + 2) 34 34 _ (0, 0) _ HB.out Tryz.underlying34 rfl HI2.out
      exact ⟨rfl, .agg (nodeC (fileN n e) (.slice A (fileN n e).map.length c) vn vl), by simp [results, Tryz.results50, asAddr, hl], HF.out⟩
end Go.Proofs.YtabebkffcmajkaaGreatDoor

/-! Reference walk: directory. -/
namespace Go.Proofs.YtabebkffcmajkaaGreatDoor
open Go.RowKit Go.Maps Go.Shelf
attribute [local go_sem] quietV loudUpon Oper.semAt_some

def dropL (l : List (ByteArray × Int)) (s : ByteArray) : List (ByteArray × Int) := l.filter (fun x => !decide (x.1 = s))
def hadL (l : List (ByteArray × Int)) (s : ByteArray) : Bool := l.any (fun x => decide (x.1 = s))
def insStep (p : ByteArray × Int) (st : List (ByteArray × Int) × Bool) (x : ByteArray × Int) : List (ByteArray × Int) × Bool :=
  if st.2 = false ∧ strLt p.1 x.1 = true then (st.1 ++ [p] ++ [x], true) else (st.1 ++ [x], st.2)
def insSt (p : ByteArray × Int) (l : List (ByteArray × Int)) : List (ByteArray × Int) × Bool := l.foldl (insStep p) ([], false)
def insL (p : ByteArray × Int) (l : List (ByteArray × Int)) : List (ByteArray × Int) := if (insSt p l).2 = true then (insSt p l).1 else (insSt p l).1 ++ [p]
theorem insSt_snoc (p : ByteArray × Int) (l : List (ByteArray × Int)) (x : ByteArray × Int) : insSt p (l ++ [x]) = insStep p (insSt p l) x := by unfold insSt; rw [List.foldl_append]; rfl
theorem dropL_snoc (l : List (ByteArray × Int)) (s : ByteArray) (x : ByteArray × Int) : dropL (l ++ [x]) s = dropL l s ++ (if x.1 = s then [] else [x]) := by
  unfold dropL
  rw [List.filter_append]
  by_cases h : x.1 = s <;> simp [h]
theorem hadL_snoc (l : List (ByteArray × Int)) (s : ByteArray) (x : ByteArray × Int) : hadL (l ++ [x]) s = (hadL l s || decide (x.1 = s)) := by unfold hadL; simp
theorem insSt_len (p : ByteArray × Int) : ∀ (l : List (ByteArray × Int)) (st : List (ByteArray × Int) × Bool), (l.foldl (insStep p) st).1.length ≤ st.1.length + 2 * l.length
  | [], st => by simp
  | x :: l, st => by
    have h := insSt_len p l (insStep p st x)
    have h2 : (insStep p st x).1.length ≤ st.1.length + 2 := by unfold insStep; split <;> simp
    simp only [List.foldl_cons, List.length_cons]
    omega
theorem dropL_len (l : List (ByteArray × Int)) (s : ByteArray) : (dropL l s).length ≤ l.length := List.length_filter_le _ _
def dirOk (n : NodeD) (e : EntD) : Bool := hadL n.names e.name == decide (e.kind = 4)
def dirNames (n : NodeD) (e : EntD) : List (ByteArray × Int) := if e.kind = 3 then insL (e.name, e.ino) (dropL n.names e.name) else dropL n.names e.name
def dirN (n : NodeD) (e : EntD) : NodeD := { n with names := dirNames n e }
def RefDirPost (w : World) (n : NodeD) (vm vn vl : Value) (e : EntD) : Ending → World → Prop := fun x w' => Mod None_ w w' ∧
  (if dirOk n e = true then ∃ v, x = .returned (.tuple #[.agg (nodeC (dirN n e) vm v vl), .bool true]) ∧ w'.ownsRow w.heap.size 75 2 v (dirNames n e).length (rowOf encDent (dirNames n e))
    else x = .returned (.tuple #[.agg (nodeC n vm vn vl), .bool false]))
theorem eqStr (a b : ByteArray) : (a.toList == b.toList) = decide (a = b) := by
  by_cases h : a = b
  · rw [decide_eq_true h, h]; simp
  · rw [decide_eq_false h]
    have : ¬ a.toList = b.toList := fun e => h (by rw [Go.Lib.toList_data, Go.Lib.toList_data] at e; exact Go.WideShapes.bytes_inj e)
    simpa using this

set_option maxRecDepth 100000 in
set_option maxHeartbeats 4000000 in
theorem refDirectory_any (w : World) (n : NodeD) (vm vn vl : Value) (e : EntD) (hn : ListAt encDent 2 w vn n.names) (hlen : n.names.length ≤ 1000000) (hone : vm.oneCell' = true ∧ vl.oneCell' = true) :
    Calls Tryz.prog 51 #[.agg (nodeC n vm vn vl), .agg (encEntry e).toArray] w (RefDirPost w n vm vn vl e) := by
  obtain ⟨m, hm⟩ : ∃ m, m = w.heap.size := ⟨_, rfl⟩
  obtain ⟨w0, hw0⟩ : ∃ w0, w0 = ((w.alloc (.cells (nodeC n vm vn vl) 34)).alloc (.cells (encEntry e).toArray 49)).alloc (.cells zeroNode 34) := ⟨_, rfl⟩
  have hM0 : Mod None_ w w0 := by rw [hw0]; exact (((Mod.refl _ w).alloc _).alloc _).alloc _
  have bn : Blk w0 m 34 (nodeC n vm vn vl) := by rw [hw0, hm]; exact ((Blk.new w 34 _).alloc _).alloc _
  have be : Blk w0 (m + 1) 49 (encEntry e).toArray := by
    have := (Blk.new (w.alloc (.cells (nodeC n vm vn vl) 34)) 49 (encEntry e).toArray).alloc (.cells zeroNode 34)
    rw [← hw0, alloc_size, ← hm] at this
    exact this
  have bo : Blk w0 (m + 2) 34 zeroNode := by
    have := Blk.new ((w.alloc (.cells (nodeC n vm vn vl) 34)).alloc (.cells (encEntry e).toArray 49)) 34 zeroNode
    rw [← hw0, alloc_size, alloc_size, ← hm] at this
    exact this
  have hem : w.heap.size ≤ m := by omega
  obtain ⟨A, c, rfl, hc1, hc2, hA⟩ := hn
  have hln : ∀ w, (Builtin.len_ #[31] 3 #[.slice A n.names.length c]).run Tryz.prog w = .ok (.int .i64 n.names.length) w := fun w => by simp [Builtin.len_, run_underlying Tryz.underlying31]; rfl
  have HA := hide hA
  have HW0 := hide hw0
  have HMM := hide hm
  clear hw0 hm hA
  go_enter Tryz.func51, Tryz.ntmps51
  go_upto_region 1 with ((with_reducible refine at_slot 4 ?_); refine wpList_alloc rfl 34 rfl (.agg zeroNode) zeroNodeV ?_; go_frame)
  simp only [alloc_size]
  rw [← HMM.out, show (Value.agg zeroNode).cells = zeroNode from rfl, show m + 1 + 1 = m + 2 from rfl, ← HW0.out]
  clear HMM HW0
  have hws := bo.lt
  go_wp2_with fail
  go_loopw [8, 6, 7] (fun s8 s6 s7 wr => ∃ (k : Nat) (v : Value), v = s6 ∧ k ≤ n.names.length ∧ s8 = .int .i64 k ∧ s7 = .bool (hadL (n.names.take k) e.name) ∧ Mod None_ w0 wr ∧
      wr.ownsRow w0.heap.size 75 2 v (dropL (n.names.take k) e.name).length (rowOf encDent (dropL (n.names.take k) e.name))) (fun s8 _ _ _ => n.names.length - (intOf s8).toNat)
  case atStart => exact ⟨0, _, rfl, Nat.zero_le _, rfl, rfl, Mod.refl _ _, ⟨rfl, .inl ⟨rfl, rfl⟩⟩⟩
  obtain ⟨k, v, rfl, hk, rfl, rfl, hM, hown⟩ := hrel
  have hMw := hM0.trans hM
  replace bn := bn.mod hM id
  replace be := be.mod hM id
  replace bo := bo.mod hM id
  have c5 : wr.cell? ⟨m, 5, none⟩ = some (.slice A n.names.length c) := bn.cell 5
  have y7 : wr.cell? ⟨m + 1, 7, none⟩ = some (.string e.name) := be.cell 7
  by_cases hlt : k < n.names.length
  · have hki : (k : Int) < n.names.length := by omega
    obtain ⟨g, o, rfl, hg, hcell⟩ := HA.out (by omega)
    have hc := hcell k hlt
    have htk : n.names.take (k + 1) = n.names.take k ++ [n.names[k]] := List.take_succ_eq_append_getElem hlt
    obtain ⟨x, hx⟩ : ∃ x, x = n.names[k] := ⟨_, rfl⟩
    rw [← hx] at hc htk
    have hd := dropL_snoc (n.names.take k) e.name x
    have hh := hadL_snoc (n.names.take k) e.name x
    rw [← htk] at hd hh
    have hdl := dropL_len (n.names.take k) e.name
    rw [List.length_take] at hdl
    obtain ⟨O, hO⟩ : ∃ O, O = dropL (n.names.take k) e.name := ⟨_, rfl⟩
    rw [← hO] at hown hd hdl
    have hdl2 : O.length ≤ 1000000 := by omega
    have x0 : wr.cell? ⟨g, o + k * 2, none⟩ = some (.string x.1) := (World.cell?_of_block (hMw.block g hg id)).trans (hc 0 _ rfl)
    have x1 : wr.cell? ⟨g, o + k * 2 + 1, none⟩ = some (.int .i64 x.2) := (World.cell?_of_block (hMw.block g hg id)).trans (hc 1 _ rfl)
    have HD := hide hd
    have HH := hide hh
    clear hc htk hx hd hh hdl hO hcell
    go_upto_region 7 with fail
    obtain ⟨wa, hwa⟩ : ∃ wa, wa = wr.alloc (.cells #[.string x.1, .int .i64 x.2] 75) := ⟨_, rfl⟩
    obtain ⟨mb, hmb⟩ : ∃ mb, mb = wr.heap.size := ⟨_, rfl⟩
    rw [← hwa, ← hmb]
    have hma : Mod None_ wr wa := by rw [hwa]; exact (Mod.refl _ wr).alloc _
    have bx : Blk wa mb 75 #[.string x.1, .int .i64 x.2] := by rw [hwa, hmb]; exact Blk.new wr _ _
    replace be := be.mod hma id
    replace hM := hM.trans hma
    replace hown := own_mod hown hma (fun _ _ f => f)
    have z0 : wa.cell? ⟨mb, 0, none⟩ = some (.string x.1) := bx.cell 0
    have z1 : wa.cell? ⟨mb, 1, none⟩ = some (.int .i64 x.2) := bx.cell 1
    have y7 : wa.cell? ⟨m + 1, 7, none⟩ = some (.string e.name) := be.cell 7
    clear hwa hmb hma bx bn be bo hMw x0 x1 c5
    by_cases hs : x.1 = e.name
    · have d1 : (x.1.toList == e.name.toList) = true := by rw [eqStr, decide_eq_true hs]
      rw [if_pos hs, List.append_nil] at HD
      rw [decide_eq_true hs, Bool.or_true] at HH
      have HF := hide hown
      have HG := hide hM
      clear hown hM hs
      go_wp2_with fail
      go_roundw
      case rel => exact ⟨k + 1, v, rfl, by omega, by simp, by rw [HH.out], HG.out, by rw [HD.out]; exact HF.out⟩
      case measure => simp [intOf]; omega
    · have d1 : (x.1.toList == e.name.toList) = false := by rw [eqStr, decide_eq_false hs]
      rw [if_neg hs] at HD
      rw [decide_eq_false hs, Bool.or_false] at HH
      have hbs := hM.size
      clear hs
      go_wp2_with ((with_reducible refine at_slot 33 ?_); refine wpList_append_row encDent 31 75 (.agg #[.string ByteArray.empty, .int .i64 0]) 2 24 Tryz.underlying31 info36 rfl (by decide) (fun _ => rfl) oneDent rfl (.tmp 30) (.tmp 32) rfl wa w0.heap.size v O x rfl rfl wa.heap.size rfl rfl hown hbs (by unfold maxLen; omega) (by omega) ?_; intro v8 w8 hown8 hm8 hat8
                   have hM8 := hM.trans' hm8 (fun k hk e => by have := (own_blk hown e.symm).1; omega)
                   have L1 := hide hown8
                   have L2 := hide hM8
                   clear hown8 hm8 hat8 hM8 hown hM
                   go_frame)
      go_roundw
      case rel => exact ⟨k + 1, _, rfl, by omega, by simp, by rw [HH.out], L2.out, by rw [HD.out]; exact L1.out⟩
      case measure => simp [intOf]; omega
  · obtain rfl : k = n.names.length := by omega
    rw [List.take_length] at hown ⊢
    have hki : ¬ (n.names.length : Int) < n.names.length := by omega
    have hdl := dropL_len n.names e.name
    obtain ⟨O, hO⟩ : ∃ O, O = dropL n.names e.name := ⟨_, rfl⟩
    rw [← hO] at hown hdl
    have hdl2 : O.length ≤ 1000000 := by omega
    obtain ⟨h, hh⟩ : ∃ h, h = hadL n.names e.name := ⟨_, rfl⟩
    rw [← hh]
    have y0 : wr.cell? ⟨m + 1, 0, none⟩ = some (.int .i64 e.kind) := be.cell 0
    go_upto_region 10 with fail
    by_cases hok : dirOk n e = true
    · have d38 : (h != (e.kind == 4)) = false := by
        unfold dirOk at hok
        rw [← hh] at hok
        show (!(h == decide (e.kind = 4))) = false
        rw [hok]; rfl
      have d39 : (!h == (e.kind == 4)) = false := by rw [← d38]; cases h <;> cases (e.kind == 4) <;> rfl
      have HN : Hid (dirNames n e = if e.kind = 3 then insL (e.name, e.ino) O else O) := hide (by unfold dirNames; rw [hO])
      have HOK := hide hok
      clear hok hO hh
      go_upto_if 42 with fail
      go_cut [6] from 10 to 86 (fun s6 wx => Mod None_ w0 wx ∧ wx.ownsRow w0.heap.size 75 2 s6 (dirNames n e).length (rowOf encDent (dirNames n e)))
      case first =>
        clear bn bo hM0 hMw y7 c5 d38 d39
        have y7 : wr.cell? ⟨m + 1, 7, none⟩ = some (.string e.name) := be.cell 7
        have y6 : wr.cell? ⟨m + 1, 6, none⟩ = some (.int .i64 e.ino) := be.cell 6
        by_cases h3 : e.kind = 3
        · have k3 : (e.kind == 3) = true := by simp [h3]
          rw [if_pos h3] at HN
          clear h3
          obtain ⟨A2, c2, rfl⟩ := own_slice hown
          have hlo := list_of_ownRow (enc := encDent) (fun _ => rfl) hown
          obtain ⟨A', c', hcv, hoc1, hoc2, hocell⟩ := hlo
          simp only [Value.slice.injEq, true_and] at hcv
          obtain ⟨rfl, rfl⟩ := hcv
          have hln2 : ∀ w, (Builtin.len_ #[31] 3 #[.slice A2 O.length c2]).run Tryz.prog w = .ok (.int .i64 O.length) w := fun w => by simp [Builtin.len_, run_underlying Tryz.underlying31]; rfl
          have HC := hide hocell
          have HM := hide hM
          have hbw := hM.size
          clear hocell hown hM
          obtain ⟨wo, rfl⟩ : ∃ wo : World, wo = wr := ⟨_, rfl⟩
          go_wp2_with fail
          go_loopw [12, 10, 11] (fun s12 s10 s11 wv => ∃ (j : Nat) (v : Value), v = s10 ∧ j ≤ O.length ∧ s12 = .int .i64 j ∧ s11 = .bool (insSt (e.name, e.ino) (O.take j)).2 ∧ Mod None_ wo wv ∧
              wv.ownsRow wo.heap.size 75 2 v (insSt (e.name, e.ino) (O.take j)).1.length (rowOf encDent (insSt (e.name, e.ino) (O.take j)).1)) (fun s12 _ _ _ => O.length - (intOf s12).toNat)
          case atStart => exact ⟨0, _, rfl, Nat.zero_le _, rfl, rfl, Mod.refl _ _, ⟨rfl, .inl ⟨rfl, rfl⟩⟩⟩
          obtain ⟨j, v, rfl, hj, rfl, rfl, hM, hown⟩ := hrel
          by_cases hjl : j < O.length
          · have hji : (j : Int) < O.length := by omega
            obtain ⟨g, o, rfl, hg, hcell⟩ := HC.out (by omega)
            have hc := hcell j hjl
            have htk : O.take (j + 1) = O.take j ++ [O[j]] := List.take_succ_eq_append_getElem hjl
            obtain ⟨x, hx⟩ : ∃ x, x = O[j] := ⟨_, rfl⟩
            rw [← hx] at hc htk
            have hst := insSt_snoc (e.name, e.ino) (O.take j) x
            rw [← htk] at hst
            have hsl := insSt_len (e.name, e.ino) (O.take j) ([], false)
            rw [show (O.take j).foldl (insStep (e.name, e.ino)) ([], false) = insSt (e.name, e.ino) (O.take j) from rfl, List.length_take] at hsl
            simp only [List.length_nil] at hsl
            obtain ⟨L, hL⟩ : ∃ L, L = (insSt (e.name, e.ino) (O.take j)).1 := ⟨_, rfl⟩
            obtain ⟨pt, hpt⟩ : ∃ pt, pt = (insSt (e.name, e.ino) (O.take j)).2 := ⟨_, rfl⟩
            rw [← hL] at hown hsl
            rw [← hpt]
            have hst2 : insSt (e.name, e.ino) (O.take j) = (L, pt) := by rw [hL, hpt]
            rw [hst2] at hst
            have hll : L.length ≤ 2000000 := by omega
            have x0 : wr.cell? ⟨g, o + j * 2, none⟩ = some (.string x.1) := (World.cell?_of_block (hM.block g hg id)).trans (hc 0 _ rfl)
            have x1 : wr.cell? ⟨g, o + j * 2 + 1, none⟩ = some (.int .i64 x.2) := (World.cell?_of_block (hM.block g hg id)).trans (hc 1 _ rfl)
            have z7 : wr.cell? ⟨m + 1, 7, none⟩ = some (.string e.name) := (World.cell?_of_block (hM.block _ be.lt id)).trans y7
            have z6 : wr.cell? ⟨m + 1, 6, none⟩ = some (.int .i64 e.ino) := (World.cell?_of_block (hM.block _ be.lt id)).trans y6
            have HST := hide hst
            have HCX := hide hc
            clear hc htk hx hst hsl hL hpt hst2 hcell
            have hbs := hM.size
            cases pt with
            | true =>
              rw [show insStep (e.name, e.ino) (L, true) x = (L ++ [x], true) from by unfold insStep; rw [if_neg (by simp)]] at HST
              go_wp2_with fail
              refine region_stw (by kernel_rfl) (by kernel_rfl) ?_
              rintro w3 hw3
              have hm3 : Mod None_ wr w3 := by rw [hw3]; exact (Mod.refl _ wr).drew
              have hM3 := hM.trans hm3
              have hown3 := own_mod hown hm3 (fun _ _ f => f)
              have hbs3 := hM3.size
              replace x0 := (World.cell?_of_block (hm3.block g (Nat.lt_of_lt_of_le hg hbs) id)).trans x0
              replace x1 := (World.cell?_of_block (hm3.block g (Nat.lt_of_lt_of_le hg hbs) id)).trans x1
              replace z7 := (World.cell?_of_block (hm3.block _ (Nat.lt_of_lt_of_le be.lt hbs) id)).trans z7
              replace z6 := (World.cell?_of_block (hm3.block _ (Nat.lt_of_lt_of_le be.lt hbs) id)).trans z6
              clear hw3 hm3 hM hown
              repeat (refine stw_step (fun K hK => ?_); go_simp; refine hK _ ?_; clear hK K)
              refine stw_nil ?_
              go_wp2_with ((with_reducible refine at_slot 75 ?_); refine wpList_append_row encDent 31 75 (.agg #[.string ByteArray.empty, .int .i64 0]) 2 24 Tryz.underlying31 info36 rfl (by decide) (fun _ => rfl) oneDent rfl (.tmp 69) (.tmp 74) rfl w3 wo.heap.size v L x rfl rfl w3.heap.size rfl rfl hown3 hbs3 (by unfold maxLen; omega) (by omega) ?_; intro v8 w8 hown8 hm8 hat8; have hM8 := hM3.trans' hm8 (fun k hk e => by have := (own_blk hown3 e.symm).1; omega); have L18 := hide hown8; have L28 := hide hM8; clear hown8 hm8 hat8 hM8 hown3 hM3; go_frame)
              go_roundw
              case rel => exact ⟨j + 1, _, rfl, by omega, by simp, by rw [HST.out], L28.out, by rw [HST.out]; exact L18.out⟩
              case measure => simp [intOf]; omega
            | false =>
              cases hlt : strLt e.name x.1 with
              | false =>
                rw [show insStep (e.name, e.ino) (L, false) x = (L ++ [x], false) from by unfold insStep; rw [if_neg (by simp [hlt])]] at HST
                have hb : Op.bytesLess e.name.toList x.1.toList = false := hlt
                clear hlt
                go_wp2_with fail
                refine region_stw (by kernel_rfl) (by kernel_rfl) ?_
                rintro w3 hw3
                have hm3 : Mod None_ wr w3 := by rw [hw3]; exact (Mod.refl _ wr).drew
                have hM3 := hM.trans hm3
                have hown3 := own_mod hown hm3 (fun _ _ f => f)
                have hbs3 := hM3.size
                replace x0 := (World.cell?_of_block (hm3.block g (Nat.lt_of_lt_of_le hg hbs) id)).trans x0
                replace x1 := (World.cell?_of_block (hm3.block g (Nat.lt_of_lt_of_le hg hbs) id)).trans x1
                replace z7 := (World.cell?_of_block (hm3.block _ (Nat.lt_of_lt_of_le be.lt hbs) id)).trans z7
                replace z6 := (World.cell?_of_block (hm3.block _ (Nat.lt_of_lt_of_le be.lt hbs) id)).trans z6
                clear hw3 hm3 hM hown
                repeat (refine stw_step (fun K hK => ?_); go_simp; refine hK _ ?_; clear hK K)
                refine stw_nil ?_
                go_wp2_with ((with_reducible refine at_slot 75 ?_); refine wpList_append_row encDent 31 75 (.agg #[.string ByteArray.empty, .int .i64 0]) 2 24 Tryz.underlying31 info36 rfl (by decide) (fun _ => rfl) oneDent rfl (.tmp 69) (.tmp 74) rfl w3 wo.heap.size v L x rfl rfl w3.heap.size rfl rfl hown3 hbs3 (by unfold maxLen; omega) (by omega) ?_; intro v8 w8 hown8 hm8 hat8; have hM8 := hM3.trans' hm8 (fun k hk e => by have := (own_blk hown3 e.symm).1; omega); have L18 := hide hown8; have L28 := hide hM8; clear hown8 hm8 hat8 hM8 hown3 hM3; go_frame)
                go_roundw
                case rel => exact ⟨j + 1, _, rfl, by omega, by simp, by rw [HST.out], L28.out, by rw [HST.out]; exact L18.out⟩
                case measure => simp [intOf]; omega
              | true =>
                rw [show insStep (e.name, e.ino) (L, false) x = (L ++ [(e.name, e.ino)] ++ [x], true) from by unfold insStep; rw [if_pos ⟨rfl, hlt⟩]] at HST
                have hb : Op.bytesLess e.name.toList x.1.toList = true := hlt
                clear hlt
                go_wp2_with fail
                refine region_stw (by kernel_rfl) (by kernel_rfl) ?_
                rintro w3 hw3
                have hm3 : Mod None_ wr w3 := by rw [hw3]; exact (Mod.refl _ wr).drew
                have hM3 := hM.trans hm3
                have hown3 := own_mod hown hm3 (fun _ _ f => f)
                have hbs3 := hM3.size
                replace x0 := (World.cell?_of_block (hm3.block g (Nat.lt_of_lt_of_le hg hbs) id)).trans x0
                replace x1 := (World.cell?_of_block (hm3.block g (Nat.lt_of_lt_of_le hg hbs) id)).trans x1
                replace z7 := (World.cell?_of_block (hm3.block _ (Nat.lt_of_lt_of_le be.lt hbs) id)).trans z7
                replace z6 := (World.cell?_of_block (hm3.block _ (Nat.lt_of_lt_of_le be.lt hbs) id)).trans z6
                clear hw3 hm3 hM hown
                repeat (refine stw_step (fun K hK => ?_); go_simp; refine hK _ ?_; clear hK K)
                refine stw_nil ?_
                go_upto_region 20 with ((with_reducible refine at_slot 68 ?_); refine wpList_append_row encDent 31 75 (.agg #[.string ByteArray.empty, .int .i64 0]) 2 24 Tryz.underlying31 info36 rfl (by decide) (fun _ => rfl) oneDent rfl (.tmp 61) (.tmp 67) rfl w3 wo.heap.size v L (e.name, e.ino) rfl rfl w3.heap.size rfl rfl hown3 hbs3 (by unfold maxLen; omega) (by omega) ?_; intro v8 w8 hown8 hm8 hat8; have hM8 := hM3.trans' hm8 (fun k hk e => by have := (own_blk hown3 e.symm).1; omega); have L18 := hide hown8; have L28 := hide hM8; clear hown8 hm8 hat8 hM8 hown3 hM3; go_frame)
                have hM8 := L28.out
                have hown8 := L18.out
                have x0 := (World.cell?_of_block (hM8.block g hg id)).trans (HCX.out 0 (.string x.1) rfl)
                have x1 := (World.cell?_of_block (hM8.block g hg id)).trans (HCX.out 1 (.int .i64 x.2) rfl)
                rw [Nat.add_zero] at x0
                have hbs8 := hM8.size
                have hll8 : (L ++ [(e.name, e.ino)]).length ≤ 2000001 := by rw [List.length_append]; simp; omega
                obtain ⟨L8, hL8⟩ : ∃ L8, L8 = L ++ [(e.name, e.ino)] := ⟨_, rfl⟩
                rw [← hL8] at hown8 hll8 HST
                clear L18 L28 hL8 hbs3
                go_wp2_with ((with_reducible refine at_slot 75 ?_); refine wpList_append_row encDent 31 75 (.agg #[.string ByteArray.empty, .int .i64 0]) 2 24 Tryz.underlying31 info36 rfl (by decide) (fun _ => rfl) oneDent rfl (.tmp 69) (.tmp 74) rfl w8 wo.heap.size v8 L8 x rfl rfl w8.heap.size rfl rfl hown8 hbs8 (by unfold maxLen; omega) (by omega) ?_; intro v9 w9 hown9 hm9 hat9; have hM9 := hM8.trans' hm9 (fun k hk e => by have := (own_blk hown8 e.symm).1; omega); have L19 := hide hown9; have L29 := hide hM9; clear hown9 hm9 hat9 hM9 hown8 hM8; go_frame)
                go_roundw
                case rel => exact ⟨j + 1, _, rfl, by omega, by simp, by rw [HST.out], L29.out, by rw [HST.out]; exact L19.out⟩
                case measure => simp [intOf]; omega
          · obtain rfl : j = O.length := by omega
            have hji : ¬ (O.length : Int) < O.length := by omega
            rw [List.take_length] at hown ⊢
            have hsl := insSt_len (e.name, e.ino) O ([], false)
            rw [show O.foldl (insStep (e.name, e.ino)) ([], false) = insSt (e.name, e.ino) O from rfl] at hsl
            simp only [List.length_nil] at hsl
            obtain ⟨L, hL⟩ : ∃ L, L = (insSt (e.name, e.ino) O).1 := ⟨_, rfl⟩
            obtain ⟨pt, hpt⟩ : ∃ pt, pt = (insSt (e.name, e.ino) O).2 := ⟨_, rfl⟩
            rw [← hL] at hown hsl
            rw [← hpt]
            have hll : L.length ≤ 2000000 := by omega
            have hin : insL (e.name, e.ino) O = if pt = true then L else L ++ [(e.name, e.ino)] := by unfold insL; rw [hL, hpt]
            rw [hin] at HN
            clear hL hpt hin hsl
            have hbs := hM.size
            have hbw0 := hM.size
            cases pt with
            | true =>
              rw [if_pos rfl] at HN
              have HF : Hid (Mod None_ w0 wr ∧ wr.ownsRow w0.heap.size 75 2 v (dirNames n e).length (rowOf encDent (dirNames n e))) := hide ⟨HM.out.trans hM, by rw [HN.out]; exact own_base hown hbw⟩
              clear hM hown
              go_wp2_with fail
              go_meet
              case rel => exact HF.out
            | false =>
              rw [if_neg (by decide)] at HN
              have z7 : wr.cell? ⟨m + 1, 7, none⟩ = some (.string e.name) := (World.cell?_of_block (hM.block _ be.lt id)).trans y7
              have z6 : wr.cell? ⟨m + 1, 6, none⟩ = some (.int .i64 e.ino) := (World.cell?_of_block (hM.block _ be.lt id)).trans y6
              go_wp2_with ((with_reducible refine at_slot 85 ?_); refine wpList_append_row encDent 31 75 (.agg #[.string ByteArray.empty, .int .i64 0]) 2 24 Tryz.underlying31 info36 rfl (by decide) (fun _ => rfl) oneDent rfl (.tmp 78) (.tmp 84) rfl wr wo.heap.size v L (e.name, e.ino) rfl rfl wr.heap.size rfl rfl hown hbs (by unfold maxLen; omega) (by omega) ?_; intro v8 w8 hown8 hm8 hat8; have hM8 := hM.trans' hm8 (fun k hk e => by have := (own_blk hown e.symm).1; omega); have L18 := hide hown8; have L28 := hide hM8; clear hown8 hm8 hat8 hM8 hown hM; go_frame)
              go_meet
              case rel => exact ⟨HM.out.trans L28.out, by rw [HN.out]; exact own_base L18.out hbw⟩
        · have k3 : (e.kind == 3) = false := by simp [h3]
          rw [if_neg h3] at HN
          have HF : Hid (Mod None_ w0 wr ∧ wr.ownsRow w0.heap.size 75 2 v (dirNames n e).length (rowOf encDent (dirNames n e))) := hide ⟨hM, by rw [HN.out]; exact hown⟩
          clear hM hown h3
          go_wp2_with fail
          go_meet
          case rel => exact HF.out
      case rest =>
        obtain ⟨hMc, hownc⟩ := hcut
        obtain ⟨A6, c6, rfl⟩ := own_slice hownc
        replace bn : Blk wc m 34 (nodeC n vm (.slice A n.names.length c) vl) := (hMc.block m (by omega) id).trans ((hM.block m (by omega) id).symm.trans bn)
        replace bo : Blk wc (m + 2) 34 zeroNode := (hMc.block (m + 2) (by omega) id).trans ((hM.block (m + 2) (by omega) id).symm.trans bo)
        have hMw2 := hM0.trans hMc
        have hob : ∀ g, (Value.slice A6 (dirNames n e).length c6).ownBlock = some g → m + 2 < g := fun g hg => by have := (own_blk hownc hg).1; omega
        have c5 : wc.cell? ⟨m, 5, none⟩ = some (.slice A n.names.length c) := bn.cell 5
        have f5 : wc.frozen? ⟨m, 5, none⟩ = false := bn.frozen _
        obtain ⟨w6, hw6⟩ : ∃ w6, w6 = wc.setCell ⟨m, 5, none⟩ (.slice A6 (dirNames n e).length c6) := ⟨_, rfl⟩
        have hm6 : Mod (· = m) wc w6 := by rw [hw6]; exact (Mod.refl (· = m) wc).setCell (p := ⟨m, 5, none⟩) (.inr rfl) _
        have bn6 : Blk w6 m 34 (nodeC (dirN n e) vm (.slice A6 (dirNames n e).length c6) vl) := by rw [hw6]; exact bn.set_ 5 _
        replace bo := bo.mod hm6 (by omega)
        have hM6 := hMw2.trans' hm6 (fun g hg e => by omega)
        have hown6 := own_mod hownc hm6 (fun g hg e => by have := hob g hg; omega)
        have hm7 : Mod (· = m + 2) w6 (w6.setRow (m + 2) (nodeC (dirN n e) vm (.slice A6 (dirNames n e).length c6) vl)) := (Mod.refl (· = m + 2) w6).setRow (.inr rfl) _
        have HF : Hid (RefDirPost w n vm (.slice A n.names.length c) vl e (.returned (.tuple #[.agg (nodeC (dirN n e) vm (.slice A6 (dirNames n e).length c6) vl), .bool true])) (w6.setRow (m + 2) (nodeC (dirN n e) vm (.slice A6 (dirNames n e).length c6) vl))) :=
          hide ⟨hM6.trans' hm7 (fun g hg e => by omega), by
            rw [if_pos HOK.out]
            exact ⟨_, rfl, own_base (own_mod hown6 hm7 (fun g hg e => by have := hob g hg; omega)) hM0.size⟩⟩
        have HB := hide (bo.row (nodeC (dirN n e) vm (.slice A6 (dirNames n e).length c6) vl))
        have HI2 := hide (infoNode (dirN n e) vm (.slice A6 (dirNames n e).length c6) vl)
        have HO2 := hide (nodeC_one (dirN n e) vm (.slice A6 (dirNames n e).length c6) vl hone.1 rfl hone.2)
        have HW6 := hide hw6
        clear hm7 hown6 hM6 hm6 hw6 hob hMw2 hownc hMc bn hM hMw hown HA HN HOK y0 y7 be d38 d39 hM0
        go_upto_region 26 with fail
        rw [← HW6.out]
        clear HW6 c5 f5
        go_wp2_with (first
          | ((with_reducible refine at_slot 89 ?_); refine wpList_val rfl (ex_load rfl (run_loadRow bn6 Tryz.underlying34 rfl HI2.out)) ?_; go_frame)
          | ((with_reducible refine at_none 34 4 89 ?_); refine wpList_store_row rfl 34 (.tmp 4) (.tmp 89) rfl (m + 2) (nodeC (dirN n e) vm (.slice A6 (dirNames n e).length c6) vl) rfl rfl 34 zeroNode bo HI2.out rfl HO2.out ?_; go_frame))
        have hl := run_loadVar_row (P := Tryz.prog) _ (m + 2) 34 34 _ (0, 0) _ HB.out Tryz.underlying34 rfl HI2.out
        exact ⟨rfl, .tuple #[.agg (nodeC (dirN n e) vm (.slice A6 (dirNames n e).length c6) vl), .bool true], by simp [results, Tryz.results51, asAddr, hl], HF.out⟩
    · have d38 : (h != (e.kind == 4)) = true := by
        unfold dirOk at hok
        rw [← hh, Bool.not_eq_true] at hok
        show (!(h == decide (e.kind = 4))) = true
        rw [hok]; rfl
      have d39 : (!h == (e.kind == 4)) = true := by rw [← d38]; cases h <;> cases (e.kind == 4) <;> rfl
      have hmr : Mod (· = m + 2) wr (wr.setRow (m + 2) (nodeC n vm (.slice A n.names.length c) vl)) := (Mod.refl (· = m + 2) wr).setRow (.inr rfl) _
      have HF : Hid (RefDirPost w n vm (.slice A n.names.length c) vl e (.returned (.tuple #[.agg (nodeC n vm (.slice A n.names.length c) vl), .bool false])) (wr.setRow (m + 2) (nodeC n vm (.slice A n.names.length c) vl))) := hide ⟨hMw.trans' hmr (fun g hg e => by omega), by rw [if_neg hok]⟩
      have HB := hide (bo.row (nodeC n vm (.slice A n.names.length c) vl))
      have HI2 := hide (infoNode n vm (.slice A n.names.length c) vl)
      have HO2 := hide (nodeC_one n vm (.slice A n.names.length c) vl hone.1 rfl hone.2)
      clear hmr hok hO hh hown hM hMw HA
      go_wp2_with (first
        | ((with_reducible refine at_slot 39 ?_); refine wpList_val rfl (ex_load rfl (run_loadRow bn Tryz.underlying34 rfl HI2.out)) ?_; go_frame)
        | ((with_reducible refine at_none 34 4 39 ?_); refine wpList_store_row rfl 34 (.tmp 4) (.tmp 39) rfl (m + 2) (nodeC n vm (.slice A n.names.length c) vl) rfl rfl 34 zeroNode bo HI2.out rfl HO2.out ?_; go_frame))
      have hl := run_loadVar_row (P := Tryz.prog) _ (m + 2) 34 34 _ (0, 0) _ HB.out Tryz.underlying34 rfl HI2.out
      exact ⟨rfl, .tuple #[.agg (nodeC n vm (.slice A n.names.length c) vl), .bool false], by simp [results, Tryz.results51, asAddr, hl], HF.out⟩
end Go.Proofs.YtabebkffcmajkaaGreatDoor

/-! Reference walk: step. -/
namespace Go.Proofs.YtabebkffcmajkaaGreatDoor
open Go.RowKit Go.Maps Go.Shelf
attribute [local go_sem] quietV loudUpon Oper.semAt_some

theorem ListAt.modX {α : Type} {enc : α → List Value} {sz : Nat} {S : Nat → Prop} {w w' : World} {v : Value} {l : List α} (h : ListAt enc sz w v l) (hm : Mod S w w') (hs : 0 < l.length → ∀ g, v.ownBlock = some g → ¬ S g) : ListAt enc sz w' v l := by
  obtain ⟨A, c, rfl, h2, h3, h4⟩ := h
  refine ⟨A, c, rfl, h2, h3, fun h0 => ?_⟩
  obtain ⟨g, o, rfl, hg, hc⟩ := h4 h0
  exact ⟨g, o, rfl, Nat.lt_of_lt_of_le hg hm.size, fun i hi j u hj => (World.cell?_of_block (hm.block g hg (hs h0 g rfl))).trans (hc i hi j u hj)⟩
/-- a list, its block not one of three -/
def ListX {α : Type} (enc : α → List Value) (sz : Nat) (w : World) (m : Nat) (v : Value) (l : List α) : Prop := ListAt enc sz w v l ∧ (0 < l.length → ∀ g, v.ownBlock = some g → g < m ∨ m + 2 < g)
theorem ListX.mod {α : Type} {enc : α → List Value} {sz : Nat} {S : Nat → Prop} {w w' : World} {m : Nat} {v : Value} {l : List α} (h : ListX enc sz w m v l) (hm : Mod S w w') (hs : ∀ g, S g → m ≤ g ∧ g ≤ m + 2) : ListX enc sz w' m v l :=
  ⟨h.1.modX hm fun h0 g hg e => by have := h.2 h0 g hg; have := hs g e; omega, h.2⟩
theorem ListX.of_old {α : Type} {enc : α → List Value} {sz : Nat} {w w' : World} {m : Nat} {v : Value} {l : List α} (h : ListAt enc sz w v l) (hm : Mod None_ w w') (hw : w.heap.size ≤ m) : ListX enc sz w' m v l :=
  ⟨h.kept hm, fun h0 g hg => .inl (by
    obtain ⟨A, c, rfl, h2, h3, h4⟩ := h
    obtain ⟨g2, o, rfl, hg2, hc⟩ := h4 h0
    have e : some g2 = some g := hg
    cases e
    omega)⟩
theorem ListX.of_own {α : Type} {enc : α → List Value} {sz : Nat} (he : ∀ x, (enc x).length = sz) {w : World} {base m : Nat} {e : TypeId} {v : Value} {l : List α} (h : w.ownsRow base e sz v l.length (rowOf enc l)) (hb : m + 2 < base) : ListX enc sz w m v l :=
  ⟨list_of_ownRow he h, fun _ g hg => .inr (by have := (own_blk h hg).1; omega)⟩
def errR (n : NodeD) (e : EntD) : Int := if goodEnt (one e) = false then 34 else if (n.kind == 1) ≠ decide (e.kind ≤ 2) then 90 else if n.kind = 1 then 0 else if dirOk n e = true then 0 else 90
def nodeR (n : NodeD) (e : EntD) : NodeD := if errR n e = 0 then { (if n.kind = 1 then fileN n e else dirN n e) with entries := wrap64 (n.entries + 1) } else zeroN
/-- a list handed on as it was, or a new one -/
def Fresh (w : World) (v0 v : Value) (k : Nat) : Prop := 0 < k → v = v0 ∨ ∀ g, v.ownBlock = some g → w.heap.size ≤ g
def StepRPost (w : World) (n : NodeD) (vm0 vn0 vl0 : Value) (e : EntD) : Ending → World → Prop := fun x w' => ∃ vm vn vl, x = .returned (.tuple #[.agg (nodeC (nodeR n e) vm vn vl), .int .i64 (errR n e)]) ∧
  ListAt encRun 3 w' vm (nodeR n e).map ∧ ListAt encDent 2 w' vn (nodeR n e).names ∧ ListAt encInt 1 w' vl (nodeR n e).log ∧ Mod None_ w w' ∧ Fresh w vm0 vm (nodeR n e).map.length ∧ Fresh w vn0 vn (nodeR n e).names.length ∧ Fresh w vl0 vl (nodeR n e).log.length
theorem nilList {α : Type} (enc : α → List Value) (sz : Nat) (w : World) : ListAt enc sz w (.slice none 0 0) ([] : List α) := ⟨none, 0, rfl, Nat.zero_le _, by unfold maxLen; omega, fun h => by cases h⟩
theorem StepRPost.bad {w w' : World} {n : NodeD} {vm0 vn0 vl0 : Value} {e : EntD} {k : Int} (h : errR n e = k) (hk : k ≠ 0) (hm : Mod None_ w w') : StepRPost w n vm0 vn0 vl0 e (.returned (.tuple #[.agg zeroNode, .int .i64 k])) w' := by
  have h2 : nodeR n e = zeroN := by unfold nodeR; rw [if_neg (by rw [h]; exact hk)]
  unfold StepRPost
  rw [h2, h]
  exact ⟨_, _, _, rfl, nilList _ _ _, nilList _ _ _, nilList _ _ _, hm, (fun h => by cases h), (fun h => by cases h), (fun h => by cases h)⟩
theorem run_of_good {e : EntD} (h : goodEnt (one e) = true) (hk : e.kind = 1) : refRun ⟨e.off, e.page, e.count⟩ = true := by
  unfold goodEnt at h
  rw [Bool.and_eq_true] at h
  replace h := h.2
  rw [if_pos (show (one e).kind = 1 from hk)] at h
  simp only [Bool.and_eq_true, roomB, wi_iff] at h
  have h1 : 1 ≤ e.count ∧ e.count ≤ 16 := h.1.1
  have h2 : 0 ≤ e.off ∧ e.off ≤ 512 - e.count := h.1.2.1
  have h3 : 5 ≤ e.page ∧ e.page ≤ 1024 - e.count := h.1.2.2
  rw [refRun_iff]
  refine ⟨?_, ?_, ?_, ?_, ?_, ?_, ?_⟩ <;> (simp only []; omega)

set_option maxRecDepth 100000 in
set_option maxHeartbeats 4000000 in
theorem refStep_any (w : World) (n : NodeD) (vm vn vl : Value) (e : EntD) (h : NodeIn w n vm vn vl) (hs : smallB n = true) (hall : n.kind = 1 → ∀ r ∈ n.map, refRun r = true) :
    Calls Tryz.prog 30 #[.agg (nodeC n vm vn vl), .agg (encEntry e).toArray] w (StepRPost w n vm vn vl e) := by
  have hs' := hs
  simp only [smallB, Bool.and_eq_true, decide_eq_true_eq] at hs'
  obtain ⟨hs1, hs2, hs3⟩ := hs'
  obtain ⟨m, hm⟩ : ∃ m, m = w.heap.size := ⟨_, rfl⟩
  obtain ⟨w0, hw0⟩ : ∃ w0, w0 = ((w.alloc (.cells (nodeC n vm vn vl) 34)).alloc (.cells (encEntry e).toArray 49)).alloc (.cells zeroNode 34) := ⟨_, rfl⟩
  have hM0 : Mod None_ w w0 := by rw [hw0]; exact (((Mod.refl _ w).alloc _).alloc _).alloc _
  have bn : Blk w0 m 34 (nodeC n vm vn vl) := by rw [hw0, hm]; exact ((Blk.new w 34 _).alloc _).alloc _
  have be : Blk w0 (m + 1) 49 (encEntry e).toArray := by
    have := (Blk.new (w.alloc (.cells (nodeC n vm vn vl) 34)) 49 (encEntry e).toArray).alloc (.cells zeroNode 34)
    rw [← hw0, alloc_size, ← hm] at this
    exact this
  have bo : Blk w0 (m + 2) 34 zeroNode := by
    have := Blk.new ((w.alloc (.cells (nodeC n vm vn vl) 34)).alloc (.cells (encEntry e).toArray 49)) 34 zeroNode
    rw [← hw0, alloc_size, alloc_size, ← hm] at this
    exact this
  have hem : w.heap.size ≤ m := by omega
  have hvm : vm.oneCell' = true := by obtain ⟨A, c, rfl, _⟩ := h.map; rfl
  have hvn : vn.oneCell' = true := by obtain ⟨A, c, rfl, _⟩ := h.names; rfl
  have hvl : vl.oneCell' = true := by obtain ⟨A, c, rfl, _⟩ := h.log; rfl
  have HW0 := hide hw0
  have HMM := hide hm
  have HH := hide h
  have hwm := bo.lt
  clear hw0 hm h
  have c1 : w0.cell? ⟨m + 1, 1, none⟩ = some (.int .u64 e.seq) := be.cell 1
  have f1 : w0.frozen? ⟨m + 1, 1, none⟩ = false := be.frozen _
  go_enter Tryz.func30, Tryz.ntmps30
  go_upto_region 1 with ((with_reducible refine at_slot 4 ?_); refine wpList_alloc rfl 34 rfl (.agg zeroNode) zeroNodeV ?_; go_frame)
  simp only [alloc_size]
  rw [← HMM.out, show (Value.agg zeroNode).cells = zeroNode from rfl, show m + 1 + 1 = m + 2 from rfl, ← HW0.out]
  clear HMM HW0
  go_upto_region 2 with fail
  obtain ⟨w1, hw1⟩ : ∃ w1, w1 = w0.setCell ⟨m + 1, 1, none⟩ (.int .u64 1) := ⟨_, rfl⟩
  rw [← hw1]
  have hm1 : Mod (· = m + 1) w0 w1 := by rw [hw1]; exact (Mod.refl (· = m + 1) w0).setCell (p := ⟨m + 1, 1, none⟩) (.inr rfl) _
  replace be : Blk w1 (m + 1) 49 (encEntry (one e)).toArray := by rw [hw1]; exact be.set_ 1 (.int .u64 1)
  replace bn := bn.mod hm1 (by omega)
  replace bo := bo.mod hm1 (by omega)
  have hM1 : Mod None_ w w1 := hM0.trans' hm1 (fun g hg e => by omega)
  have hw01 := hm1.size
  clear hw1 hm1 hM0 c1 f1
  have HIE := hide (infoEnt (one e))
  go_wp2_with ((with_reducible refine at_slot 10 ?_); refine wpList_val rfl (ex_load rfl (run_loadRow be Tryz.underlying49 rfl HIE.out)) ?_; go_frame)
  refine (refGoodEntry_any w1 (one e) (by show (0 : Int) ≤ 1; omega)).mono ?_
  rintro x w2 ⟨rfl, hm2⟩
  replace be := be.mod hm2 id
  replace bn := bn.mod hm2 id
  replace bo := bo.mod hm2 id
  have hM2 := hM1.trans hm2
  have hw12 := hm2.size
  clear hm2 hM1
  cases hg : goodEnt (one e) with
  | false =>
    have hmr : Mod (· = m + 2) w2 (w2.setRow (m + 2) zeroNode) := (Mod.refl (· = m + 2) w2).setRow (.inr rfl) _
    have HF := hide (StepRPost.bad (n := n) (vm0 := vm) (vn0 := vn) (vl0 := vl) (e := e) (k := 34) (by unfold errR; rw [if_pos hg]) (by decide) (hM2.trans' hmr (fun g hg e => by omega)))
    have HB := hide (bo.row zeroNode)
    clear hmr hg hM2 bn be hall HH
    go_wp2_with (first
      | ((with_reducible refine at_slot 14 ?_); refine wpList_val rfl (ex_build (ps := []) rfl (run_build31 _)) ?_; go_frame)
      | ((with_reducible refine at_none 34 4 14 ?_); refine wpList_store_row rfl 34 (.tmp 4) (.tmp 14) rfl (m + 2) zeroNode rfl rfl 34 zeroNode bo infoZero rfl oneZero ?_; go_frame))
    have hl := run_loadVar_row (P := Tryz.prog) _ (m + 2) 34 34 _ (0, 0) _ HB.out Tryz.underlying34 rfl infoZero
    exact ⟨rfl, .tuple #[.agg zeroNode, .int .i64 34], by simp [results, Tryz.results30, asAddr, hl], HF.out⟩
  | true =>
    obtain ⟨b1, k1⟩ : ∃ b, (n.kind == 1) = b := ⟨_, rfl⟩
    obtain ⟨b2, k2⟩ : ∃ b, decide (e.kind ≤ 2) = b := ⟨_, rfl⟩
    have x1 : w2.cell? ⟨m, 1, none⟩ = some (.int .i64 n.kind) := bn.cell 1
    have x0 : w2.cell? ⟨m + 1, 0, none⟩ = some (.int .i64 e.kind) := be.cell 0
    by_cases hb : b1 = b2
    · subst hb
      have d21 : (!b1 == b1) = false := by cases b1 <;> rfl
      have d22 : (b1 != b1) = false := by cases b1 <;> rfl
      go_upto_if 25 with fail
      have hge := goodE_of hg
      have hkr : e.kind = 1 → refRun ⟨e.off, e.page, e.count⟩ = true := fun h => run_of_good hg h
      have herr0 : errR n e = if n.kind = 1 then 0 else if dirOk n e = true then 0 else 90 := by
        unfold errR
        rw [if_neg (by rw [hg]; decide), if_neg (by rw [k1, k2]; simp)]
      have HER := hide herr0
      have HK1 := hide k1
      have HIN := hide (infoNode n vm vn vl)
      clear herr0 hg d21 d22 k2 x0 x1
      go_cut [6] from 25 to 37 (fun s6 wx => ∃ vm1 vn1 N1, N1 = (if n.kind = 1 then fileN n e else dirN n e) ∧ errR n e = 0 ∧ vm1.oneCell' = true ∧ vn1.oneCell' = true ∧ Blk wx m 34 (nodeC N1 vm1 vn1 vl) ∧ Blk wx (m + 2) 34 zeroNode ∧ Mod None_ w wx ∧ ListX encRun 3 wx m vm1 N1.map ∧ ListX encDent 2 wx m vn1 N1.names ∧ Fresh w vm vm1 N1.map.length ∧ Fresh w vn vn1 N1.names.length)
      case first =>
        cases b1 with
        | true =>
          have hn1 : n.kind = 1 := by simpa using HK1.out
          have hHH := HH.out.kept hM2
          have HR := hide (refFile_any w2 n vm vn vl (one e) (runsAt_of_list hHH.map (by omega) hHH.runs) (hall hn1) ⟨hvn, hvl⟩ hkr hge.size)
          have HN1 := hide hn1
          clear hHH hn1 k1
          go_upto_region 8 with fail
          go_wp2_with (first
            | ((with_reducible refine at_slot 26 ?_); refine wpList_val rfl (ex_load rfl (run_loadRow bn Tryz.underlying34 rfl HIN.out)) ?_; go_frame)
            | ((with_reducible refine at_slot 27 ?_); refine wpList_val rfl (ex_load rfl (run_loadRow be Tryz.underlying49 rfl HIE.out)) ?_; go_frame))
          refine HR.out.mono ?_
          rintro x w3 ⟨v, rfl, hv, hm3⟩
          rw [show fileN n (one e) = fileN n e from rfl] at hv ⊢
          replace bn := bn.mod hm3 id
          replace bo := bo.mod hm3 id
          have hM3 := hM2.trans hm3
          have hvx := ListX.of_own (m := m) (enc := encRun) (fun _ => rfl) hv (by omega)
          obtain ⟨A, c, rfl⟩ := own_slice hv
          have hns := ListX.of_old (m := m) HH.out.names hM3 hem
          have hm4 : Mod (· = m) w3 (w3.setRow m (nodeC (fileN n e) (.slice A (fileN n e).map.length c) vn vl)) := (Mod.refl (· = m) w3).setRow (.inr rfl) _
          have hrel : ∃ vm1 vn1 N1, N1 = (if n.kind = 1 then fileN n e else dirN n e) ∧ errR n e = 0 ∧ vm1.oneCell' = true ∧ vn1.oneCell' = true ∧ Blk (w3.setRow m (nodeC (fileN n e) (.slice A (fileN n e).map.length c) vn vl)) m 34 (nodeC N1 vm1 vn1 vl) ∧ Blk (w3.setRow m (nodeC (fileN n e) (.slice A (fileN n e).map.length c) vn vl)) (m + 2) 34 zeroNode ∧ Mod None_ w (w3.setRow m (nodeC (fileN n e) (.slice A (fileN n e).map.length c) vn vl)) ∧ ListX encRun 3 (w3.setRow m (nodeC (fileN n e) (.slice A (fileN n e).map.length c) vn vl)) m vm1 N1.map ∧ ListX encDent 2 (w3.setRow m (nodeC (fileN n e) (.slice A (fileN n e).map.length c) vn vl)) m vn1 N1.names ∧ Fresh w vm vm1 N1.map.length ∧ Fresh w vn vn1 N1.names.length :=
            ⟨_, vn, fileN n e, by rw [if_pos HN1.out], by rw [HER.out, if_pos HN1.out], rfl, hvn, bn.row _, bo.mod hm4 (by omega), hM3.trans' hm4 (fun g hg e => by omega), hvx.mod hm4 (fun g e => by omega), hns.mod hm4 (fun g e => by omega), (fun _ => .inr fun g hg => by have := (own_blk hv hg).1; omega), (fun _ => .inl rfl)⟩
          have HF := hide hrel
          have HI2 := hide (infoNode (fileN n e) (.slice A (fileN n e).map.length c) vn vl)
          have HO2 := hide (nodeC_one (fileN n e) (.slice A (fileN n e).map.length c) vn vl rfl hvn hvl)
          clear hrel hm4 hns hvx hv hm3 hM3 hM2 HR HIE be
          go_wp2_with ((with_reducible refine at_none 34 2 28 ?_); refine wpList_store_row rfl 34 (.tmp 2) (.tmp 28) rfl m (nodeC (fileN n e) (.slice A (fileN n e).map.length c) vn vl) rfl rfl 34 (nodeC n vm vn vl) bn HI2.out rfl HO2.out ?_; go_frame)
          go_meet
          case rel => exact HF.out
        | false =>
          have hn1 : ¬ n.kind = 1 := by simpa using HK1.out
          have hHH := HH.out.kept hM2
          have HR := hide (refDirectory_any w2 n vm vn vl (one e) hHH.names (by omega) ⟨hvm, hvl⟩)
          have HN1 := hide hn1
          clear hHH hn1 k1
          go_upto_region 9 with fail
          go_wp2_with (first
            | ((with_reducible refine at_slot 30 ?_); refine wpList_val rfl (ex_load rfl (run_loadRow bn Tryz.underlying34 rfl HIN.out)) ?_; go_frame)
            | ((with_reducible refine at_slot 31 ?_); refine wpList_val rfl (ex_load rfl (run_loadRow be Tryz.underlying49 rfl HIE.out)) ?_; go_frame))
          refine HR.out.mono ?_
          rintro x w3 ⟨hm3, hr⟩
          rw [show dirOk n (one e) = dirOk n e from rfl, show dirN n (one e) = dirN n e from rfl, show dirNames n (one e) = dirNames n e from rfl] at hr
          replace bn := bn.mod hm3 id
          replace bo := bo.mod hm3 id
          have hM3 := hM2.trans hm3
          have hms := ListX.of_old (m := m) HH.out.map hM3 hem
          by_cases hdk : dirOk n e = true
          · rw [if_pos hdk] at hr
            obtain ⟨v, rfl, hv⟩ := hr
            have hvx := ListX.of_own (m := m) (enc := encDent) (fun _ => rfl) hv (by omega)
            obtain ⟨A, c, rfl⟩ := own_slice hv
            have hm4 : Mod (· = m) w3 (w3.setRow m (nodeC (dirN n e) vm (.slice A (dirNames n e).length c) vl)) := (Mod.refl (· = m) w3).setRow (.inr rfl) _
            have hrel : ∃ vm1 vn1 N1, N1 = (if n.kind = 1 then fileN n e else dirN n e) ∧ errR n e = 0 ∧ vm1.oneCell' = true ∧ vn1.oneCell' = true ∧ Blk (w3.setRow m (nodeC (dirN n e) vm (.slice A (dirNames n e).length c) vl)) m 34 (nodeC N1 vm1 vn1 vl) ∧ Blk (w3.setRow m (nodeC (dirN n e) vm (.slice A (dirNames n e).length c) vl)) (m + 2) 34 zeroNode ∧ Mod None_ w (w3.setRow m (nodeC (dirN n e) vm (.slice A (dirNames n e).length c) vl)) ∧ ListX encRun 3 (w3.setRow m (nodeC (dirN n e) vm (.slice A (dirNames n e).length c) vl)) m vm1 N1.map ∧ ListX encDent 2 (w3.setRow m (nodeC (dirN n e) vm (.slice A (dirNames n e).length c) vl)) m vn1 N1.names ∧ Fresh w vm vm1 N1.map.length ∧ Fresh w vn vn1 N1.names.length :=
              ⟨vm, _, dirN n e, by rw [if_neg HN1.out], by rw [HER.out, if_neg HN1.out, if_pos hdk], hvm, rfl, bn.row _, bo.mod hm4 (by omega), hM3.trans' hm4 (fun g hg e => by omega), hms.mod hm4 (fun g e => by omega), hvx.mod hm4 (fun g e => by omega), (fun _ => .inl rfl), (fun _ => .inr fun g hg => by have := (own_blk hv hg).1; omega)⟩
            have HF := hide hrel
            have HI2 := hide (infoNode (dirN n e) vm (.slice A (dirNames n e).length c) vl)
            have HO2 := hide (nodeC_one (dirN n e) vm (.slice A (dirNames n e).length c) vl hvm rfl hvl)
            clear hrel hm4 hms hvx hv hm3 hM3 hM2 HR HIE be hdk
            go_wp2_with ((with_reducible refine at_none 34 2 33 ?_); refine wpList_store_row rfl 34 (.tmp 2) (.tmp 33) rfl m (nodeC (dirN n e) vm (.slice A (dirNames n e).length c) vl) rfl rfl 34 (nodeC n vm vn vl) bn HI2.out rfl HO2.out ?_; go_frame)
            go_meet
            case rel => exact HF.out
          · rw [if_neg hdk] at hr
            subst hr
            have hm4 : Mod (· = m) w3 (w3.setRow m (nodeC n vm vn vl)) := (Mod.refl (· = m) w3).setRow (.inr rfl) _
            have hmr : Mod (· = m + 2) (w3.setRow m (nodeC n vm vn vl)) ((w3.setRow m (nodeC n vm vn vl)).setRow (m + 2) zeroNode) := (Mod.refl (· = m + 2) _).setRow (.inr rfl) _
            have HF := hide (StepRPost.bad (n := n) (vm0 := vm) (vn0 := vn) (vl0 := vl) (e := e) (k := 90) (by rw [HER.out, if_neg HN1.out, if_neg hdk]) (by decide) ((hM3.trans' hm4 (fun g hg e => by omega)).trans' hmr (fun g hg e => by omega)))
            replace bo := bo.mod hm4 (by omega)
            have HB := hide (bo.row zeroNode)
            have HO2 := hide (nodeC_one n vm vn vl hvm hvn hvl)
            clear hmr hm4 hM3 hM2 hms hm3 hdk HR HIE be
            go_wp2_with (first
              | ((with_reducible refine at_none 34 2 33 ?_); refine wpList_store_row rfl 34 (.tmp 2) (.tmp 33) rfl m (nodeC n vm vn vl) rfl rfl 34 (nodeC n vm vn vl) bn HIN.out rfl HO2.out ?_; go_frame)
              | ((with_reducible refine at_slot 37 ?_); refine wpList_val rfl (ex_build (ps := []) rfl (run_build31 _)) ?_; go_frame)
              | ((with_reducible refine at_none 34 4 37 ?_); refine wpList_store_row rfl 34 (.tmp 4) (.tmp 37) rfl (m + 2) zeroNode rfl rfl 34 zeroNode bo infoZero rfl oneZero ?_; go_frame))
            have hl := run_loadVar_row (P := Tryz.prog) _ (m + 2) 34 34 _ (0, 0) _ HB.out Tryz.underlying34 rfl infoZero
            exact ⟨rfl, .tuple #[.agg zeroNode, .int .i64 90], by simp [results, Tryz.results30, asAddr, hl], HF.out⟩
      case rest =>
        obtain ⟨vm1, vn1, N1, hN1, herr, hvm1, hvn1, bn, bo, hM3, hLm, hLn, hFm, hFn⟩ := hcut
        have hent : N1.entries = n.entries := by rw [hN1]; split <;> rfl
        have hlog : N1.log = n.log := by rw [hN1]; split <;> rfl
        have hNR : nodeR n e = { N1 with entries := wrap64 (N1.entries + 1) } := by unfold nodeR; rw [if_pos herr, ← hN1, hent]
        have c9 : wc.cell? ⟨m, 9, none⟩ = some (.int .i64 N1.entries) := bn.cell 9
        have f9 : wc.frozen? ⟨m, 9, none⟩ = false := bn.frozen _
        have HNR := hide hNR
        have HERR := hide herr
        have HLOG := hide hlog
        clear hN1 herr hent hlog hNR HIN HIE be k1 HK1 HER
        go_upto_region 13 with fail
        obtain ⟨wo, hwo⟩ : ∃ wo, wo = wc.setCell ⟨m, 9, none⟩ (.int .i64 (wrap64 (N1.entries + 1))) := ⟨_, rfl⟩
        rw [← hwo]
        have hmo : Mod (· = m) wc wo := by rw [hwo]; exact (Mod.refl (· = m) wc).setCell (p := ⟨m, 9, none⟩) (.inr rfl) _
        obtain ⟨N2, hN2⟩ : ∃ N2, N2 = ({ N1 with entries := wrap64 (N1.entries + 1) } : NodeD) := ⟨_, rfl⟩
        rw [← hN2] at HNR
        have bn2 : Blk wo m 34 (nodeC N2 vm1 vn1 vl) := by rw [hwo, hN2]; exact bn.set_ 9 _
        have hmap2 : N2.map = N1.map := by rw [hN2]
        have hnam2 : N2.names = N1.names := by rw [hN2]
        have hlog2 : N2.log = n.log := by rw [hN2]; exact HLOG.out
        rw [← hmap2] at hLm hFm
        rw [← hnam2] at hLn hFn
        replace bo := bo.mod hmo (by omega)
        replace hLm := hLm.mod hmo (fun g e => by omega)
        replace hLn := hLn.mod hmo (fun g e => by omega)
        have hMo := hM3.trans' hmo (fun g hg e => by omega)
        have HL2 := hide hlog2
        have hwos := bo.lt
        clear hwo hmo hN2 hmap2 hnam2 hlog2 HLOG bn hM3 c9 f9
        obtain ⟨Al, cl, rfl, hcl1, hcl2, hcell⟩ := HH.out.log
        have hll : ∀ w, (Builtin.len_ #[32] 3 #[.slice Al n.log.length cl]).run Tryz.prog w = .ok (.int .i64 n.log.length) w := fun w => by simp [Builtin.len_, run_underlying Tryz.underlying32]; rfl
        have HC := hide hcell
        clear hcell
        go_wp2_with fail
        go_loopw [8, 7] (fun s8 s7 wv => ∃ (j : Nat) (v : Value), v = s7 ∧ j ≤ n.log.length ∧ s8 = .int .i64 j ∧ Mod None_ wo wv ∧ wv.ownsRow wo.heap.size 3 1 v (n.log.take j).length (rowOf encInt (n.log.take j))) (fun s8 _ _ => n.log.length - (intOf s8).toNat)
        case atStart => exact ⟨0, _, rfl, Nat.zero_le _, rfl, Mod.refl _ _, ⟨rfl, .inl ⟨rfl, rfl⟩⟩⟩
        obtain ⟨j, v, rfl, hj, rfl, hM, hown⟩ := hrel
        have bnr := bn2.mod hM id
        have c8 : wr.cell? ⟨m, 8, none⟩ = some (.slice Al n.log.length cl) := bnr.cell 8
        by_cases hjl : j < n.log.length
        · have hji : (j : Int) < n.log.length := by omega
          obtain ⟨g, o, rfl, hg, hcell⟩ := HC.out (by omega)
          have x0 : wr.cell? ⟨g, o + j, none⟩ = some (.int .i64 n.log[j]) := (World.cell?_of_block ((hMo.trans hM).block g hg id)).trans (by simpa using hcell j hjl 0 _ rfl)
          have htk : n.log.take (j + 1) = n.log.take j ++ [n.log[j]] := List.take_succ_eq_append_getElem hjl
          obtain ⟨x, hx⟩ : ∃ x, x = n.log[j] := ⟨_, rfl⟩
          rw [← hx] at x0 htk
          have hsl : (n.log.take j).length ≤ 2000 := by rw [List.length_take]; omega
          obtain ⟨L, hL⟩ : ∃ L, L = n.log.take j := ⟨_, rfl⟩
          rw [← hL] at hown hsl htk
          have HTK := hide htk
          have hbs := hM.size
          clear htk hx hL hcell bnr
          go_wp2_with ((with_reducible refine at_slot 56 ?_); refine wpList_append_row encInt 32 3 (.int .i64 0) 1 8 Tryz.underlying32 infoInt rfl (by decide) (fun _ => rfl) oneInt rfl (.tmp 49) (.tmp 55) rfl wr wo.heap.size v L x rfl rfl wr.heap.size rfl rfl hown hbs (by unfold maxLen; omega) (by omega) ?_; intro v8 w8 hown8 hm8 hat8; have hM8 := hM.trans' hm8 (fun k hk e => by have := (own_blk hown e.symm).1; omega); have L18 := hide hown8; have L28 := hide hM8; clear hown8 hm8 hat8 hM8 hown hM; go_frame)
          go_roundw
          case rel => exact ⟨j + 1, _, rfl, by omega, by simp, L28.out, by rw [HTK.out]; exact L18.out⟩
          case measure => simp [intOf]; omega
        · obtain rfl : j = n.log.length := by omega
          have hji : ¬ (n.log.length : Int) < n.log.length := by omega
          rw [List.take_length] at hown
          obtain ⟨A7, c7, rfl⟩ := own_slice hown
          have hob : ∀ g, (Value.slice A7 n.log.length c7).ownBlock = some g → m + 2 < g := fun g hg => by have := (own_blk hown hg).1; omega
          have bor := bo.mod hM id
          have hMr := hMo.trans hM
          have hLm2 := hLm.mod hM (fun g e => e.elim)
          have hLn2 := hLn.mod hM (fun g e => e.elim)
          have f8 : wr.frozen? ⟨m, 8, none⟩ = false := bnr.frozen _
          obtain ⟨w6, hw6⟩ : ∃ w6, w6 = wr.setCell ⟨m, 8, none⟩ (.slice A7 n.log.length c7) := ⟨_, rfl⟩
          have hm6 : Mod (· = m) wr w6 := by rw [hw6]; exact (Mod.refl (· = m) wr).setCell (p := ⟨m, 8, none⟩) (.inr rfl) _
          have bn6 : Blk w6 m 34 (nodeC N2 vm1 vn1 (.slice A7 n.log.length c7)) := by rw [hw6]; exact bnr.set_ 8 _
          replace bor := bor.mod hm6 (by omega)
          have hM6 := hMr.trans' hm6 (fun g hg e => by omega)
          have hown6 := own_mod hown hm6 (fun g hg e => by have := hob g hg; omega)
          have hm7 : Mod (· = m + 2) w6 (w6.setRow (m + 2) (nodeC N2 vm1 vn1 (.slice A7 n.log.length c7))) := (Mod.refl (· = m + 2) w6).setRow (.inr rfl) _
          have hown7 := own_mod hown6 hm7 (fun g hg e => by have := hob g hg; omega)
          have hfin : StepRPost w n vm vn (.slice Al n.log.length cl) e (.returned (.tuple #[.agg (nodeC N2 vm1 vn1 (.slice A7 n.log.length c7)), .int .i64 0])) (w6.setRow (m + 2) (nodeC N2 vm1 vn1 (.slice A7 n.log.length c7))) := by
            unfold StepRPost
            rw [HNR.out, HERR.out]
            refine ⟨vm1, vn1, _, rfl, ((hLm2.mod hm6 (fun g e => by omega)).mod hm7 (fun g e => by omega)).1, ((hLn2.mod hm6 (fun g e => by omega)).mod hm7 (fun g e => by omega)).1, ?_, hM6.trans' hm7 (fun g hg e => by omega), hFm, hFn, (fun _ => .inr fun g hg => by have := hob g hg; omega)⟩
            rw [HL2.out]
            exact list_of_ownRow (enc := encInt) (fun _ => rfl) hown7
          have HF := hide hfin
          have HB := hide (bor.row (nodeC N2 vm1 vn1 (.slice A7 n.log.length c7)))
          have HI2 := hide (infoNode N2 vm1 vn1 (.slice A7 n.log.length c7))
          have HO2 := hide (nodeC_one N2 vm1 vn1 (.slice A7 n.log.length c7) hvm1 hvn1 rfl)
          have HW6 := hide hw6
          clear hfin hown7 hm7 hown6 hM6 hm6 hw6 hLm2 hLn2 hMr hob hown HL2 HNR HERR hLm hLn hM hMo bn2 bo HC HH hall
          go_upto_region 19 with fail
          rw [← HW6.out]
          clear HW6 c8 f8
          go_wp2_with (first
            | ((with_reducible refine at_slot 59 ?_); refine wpList_val rfl (ex_load rfl (run_loadRow bn6 Tryz.underlying34 rfl HI2.out)) ?_; go_frame)
            | ((with_reducible refine at_none 34 4 59 ?_); refine wpList_store_row rfl 34 (.tmp 4) (.tmp 59) rfl (m + 2) (nodeC N2 vm1 vn1 (.slice A7 n.log.length c7)) rfl rfl 34 zeroNode bor HI2.out rfl HO2.out ?_; go_frame))
          have hl := run_loadVar_row (P := Tryz.prog) _ (m + 2) 34 34 _ (0, 0) _ HB.out Tryz.underlying34 rfl HI2.out
          exact ⟨rfl, .tuple #[.agg (nodeC N2 vm1 vn1 (.slice A7 n.log.length c7)), .int .i64 0], by simp [results, Tryz.results30, asAddr, hl], HF.out⟩
    · have herr : errR n e = 90 := by
        unfold errR
        rw [if_neg (by rw [hg]; decide), if_pos (by rw [k1, k2]; exact hb)]
      have d21 : (!b1 == b2) = true := by cases b1 <;> cases b2 <;> first | rfl | exact absurd rfl hb
      have d22 : (b1 != b2) = true := by cases b1 <;> cases b2 <;> first | rfl | exact absurd rfl hb
      have hmr : Mod (· = m + 2) w2 (w2.setRow (m + 2) zeroNode) := (Mod.refl (· = m + 2) w2).setRow (.inr rfl) _
      have HF := hide (StepRPost.bad (n := n) (vm0 := vm) (vn0 := vn) (vl0 := vl) (e := e) (k := 90) herr (by decide) (hM2.trans' hmr (fun g hg e => by omega)))
      have HB := hide (bo.row zeroNode)
      clear hmr hg hM2 bn be hall HH herr hb
      go_wp2_with (first
        | ((with_reducible refine at_slot 22 ?_); refine wpList_val rfl (ex_build (ps := []) rfl (run_build31 _)) ?_; go_frame)
        | ((with_reducible refine at_none 34 4 22 ?_); refine wpList_store_row rfl 34 (.tmp 4) (.tmp 22) rfl (m + 2) zeroNode rfl rfl 34 zeroNode bo infoZero rfl oneZero ?_; go_frame))
      have hl := run_loadVar_row (P := Tryz.prog) _ (m + 2) 34 34 _ (0, 0) _ HB.out Tryz.underlying34 rfl infoZero
      exact ⟨rfl, .tuple #[.agg zeroNode, .int .i64 90], by simp [results, Tryz.results30, asAddr, hl], HF.out⟩
end Go.Proofs.YtabebkffcmajkaaGreatDoor

/-! Reference walk: Apply. -/
namespace Go.Proofs.YtabebkffcmajkaaGreatDoor
open Go.RowKit Go.Maps Go.Shelf
attribute [local go_sem] quietV loudUpon Oper.semAt_some

def errA (n : NodeD) (e : EntD) : Int := if nodeGood n = true then errR n e else if goodEnt (one e) = false then 34 else 90
def nodeA (n : NodeD) (e : EntD) : NodeD := if nodeGood n = true then nodeR n e else zeroN
def ApplyRPost (w : World) (n : NodeD) (e : EntD) : Ending → World → Prop := fun x w' => ∃ vm vn vl, x = .returned (.tuple #[.agg (nodeC (nodeA n e) vm vn vl), .int .i64 (errA n e)]) ∧
  ListAt encRun 3 w' vm (nodeA n e).map ∧ ListAt encDent 2 w' vn (nodeA n e).names ∧ ListAt encInt 1 w' vl (nodeA n e).log ∧ Mod None_ w w'
theorem ApplyRPost.bad {w w' : World} {n : NodeD} {e : EntD} {k : Int} (h : nodeGood n = false) (hk : errA n e = k) (hm : Mod None_ w w') : ApplyRPost w n e (.returned (.tuple #[.agg zeroNode, .int .i64 k])) w' := by
  have h2 : nodeA n e = zeroN := by unfold nodeA; rw [h]; rfl
  unfold ApplyRPost
  rw [h2, hk]
  exact ⟨_, _, _, rfl, nilList _ _ _, nilList _ _ _, nilList _ _ _, hm⟩
theorem old_block {α β : Type} {enc : α → List Value} {enc' : β → List Value} {sz sz' : Nat} {w w' : World} {v : Value} {l : List α} {l' : List β} (h : ListAt enc sz w v l) (h' : ListAt enc' sz' w' v l') (h0 : 0 < l'.length) {g : Nat} (hg : v.ownBlock = some g) : g < w.heap.size := by
  obtain ⟨A, c, rfl, _, _, h4⟩ := h
  obtain ⟨A', c', e, _⟩ := h'
  simp only [Value.slice.injEq] at e
  obtain ⟨g2, o, rfl, hg2, _⟩ := h4 (by omega)
  have e2 : some g2 = some g := hg
  cases e2
  exact hg2
theorem runs_of_good {n : NodeD} (h : nodeGood n = true) (hk : n.kind = 1) : ∀ r ∈ n.map, refRun r = true := by
  unfold nodeGood at h
  rw [if_pos hk, ← refFile_eq] at h
  simp only [refFile, Bool.and_eq_true, List.all_eq_true] at h
  intro r hr
  have := h.1.2 r hr
  simp only [refEnd, Bool.and_eq_true] at this
  exact this.1

set_option maxRecDepth 100000 in
set_option maxHeartbeats 4000000 in
theorem refApply_any (w : World) (n : NodeD) (vm vn vl : Value) (e : EntD) (h : NodeIn w n vm vn vl) (hs : smallB n = true) :
    Calls Tryz.prog 9 #[.agg (nodeC n vm vn vl), .agg (encEntry e).toArray] w (ApplyRPost w n e) := by
  obtain ⟨m, hm⟩ : ∃ m, m = w.heap.size := ⟨_, rfl⟩
  obtain ⟨w0, hw0⟩ : ∃ w0, w0 = ((w.alloc (.cells (nodeC n vm vn vl) 34)).alloc (.cells (encEntry e).toArray 49)).alloc (.cells zeroNode 34) := ⟨_, rfl⟩
  have hM0 : Mod None_ w w0 := by rw [hw0]; exact (((Mod.refl _ w).alloc _).alloc _).alloc _
  have bn : Blk w0 m 34 (nodeC n vm vn vl) := by rw [hw0, hm]; exact ((Blk.new w 34 _).alloc _).alloc _
  have be : Blk w0 (m + 1) 49 (encEntry e).toArray := by
    have := (Blk.new (w.alloc (.cells (nodeC n vm vn vl) 34)) 49 (encEntry e).toArray).alloc (.cells zeroNode 34)
    rw [← hw0, alloc_size, ← hm] at this
    exact this
  have bo : Blk w0 (m + 2) 34 zeroNode := by
    have := Blk.new ((w.alloc (.cells (nodeC n vm vn vl) 34)).alloc (.cells (encEntry e).toArray 49)) 34 zeroNode
    rw [← hw0, alloc_size, alloc_size, ← hm] at this
    exact this
  have hem : w.heap.size ≤ m := by omega
  have hN0 := h.kept hM0
  have HG := hide (refGood_any w0 n vm vn vl (hN0.at_ hs))
  have HIE := hide (infoEnt e)
  have HIN := hide (infoNode n vm vn vl)
  have HW0 := hide hw0
  have HMM := hide hm
  have HH := hide h
  clear hw0 hm h hN0
  have hwm := bo.lt
  go_enter Tryz.func9, Tryz.ntmps9
  go_upto_region 1 with ((with_reducible refine at_slot 4 ?_); refine wpList_alloc rfl 34 rfl (.agg zeroNode) zeroNodeV ?_; go_frame)
  simp only [alloc_size]
  rw [← HMM.out, show (Value.agg zeroNode).cells = zeroNode from rfl, show m + 1 + 1 = m + 2 from rfl, ← HW0.out]
  clear HMM HW0
  go_wp2_with ((with_reducible refine at_slot 8 ?_); refine wpList_val rfl (ex_load rfl (run_loadRow bn Tryz.underlying34 rfl HIN.out)) ?_; go_frame)
  refine HG.out.mono ?_
  rintro x w1 ⟨rfl, hm1⟩
  replace be := be.mod hm1 id
  replace bn := bn.mod hm1 id
  replace bo := bo.mod hm1 id
  have hM1 := hM0.trans hm1
  have hw01 := hm1.size
  clear hm1 hM0 HG
  cases hgn : nodeGood n with
  | false =>
    have c1 : w1.cell? ⟨m + 1, 1, none⟩ = some (.int .u64 e.seq) := be.cell 1
    have f1 : w1.frozen? ⟨m + 1, 1, none⟩ = false := be.frozen _
    clear bn HH
    go_upto_region 4 with fail
    obtain ⟨w2, hw2⟩ : ∃ w2, w2 = w1.setCell ⟨m + 1, 1, none⟩ (.int .u64 1) := ⟨_, rfl⟩
    rw [← hw2]
    have hm2 : Mod (· = m + 1) w1 w2 := by rw [hw2]; exact (Mod.refl (· = m + 1) w1).setCell (p := ⟨m + 1, 1, none⟩) (.inr rfl) _
    replace be : Blk w2 (m + 1) 49 (encEntry (one e)).toArray := by rw [hw2]; exact be.set_ 1 (.int .u64 1)
    replace bo := bo.mod hm2 (by omega)
    have hM2 : Mod None_ w w2 := hM1.trans' hm2 (fun g hg e => by omega)
    clear hw2 hm2 hM1 c1 f1 HIE
    have HIE := hide (infoEnt (one e))
    go_wp2_with ((with_reducible refine at_slot 13 ?_); refine wpList_val rfl (ex_load rfl (run_loadRow be Tryz.underlying49 rfl HIE.out)) ?_; go_frame)
    refine (refGoodEntry_any w2 (one e) (by show (0 : Int) ≤ 1; omega)).mono ?_
    rintro x w3 ⟨rfl, hm3⟩
    replace bo := bo.mod hm3 id
    have hM3 := hM2.trans hm3
    have hmr : Mod (· = m + 2) w3 (w3.setRow (m + 2) zeroNode) := (Mod.refl (· = m + 2) w3).setRow (.inr rfl) _
    have hMr := hM3.trans' hmr (fun g hg e => by omega)
    have HB := hide (bo.row zeroNode)
    clear hm3 hM3 hM2 hmr be HIE
    cases hg : goodEnt (one e) with
    | false =>
      have HF := hide (ApplyRPost.bad (n := n) (e := e) (k := 34) hgn (by unfold errA; rw [hgn, if_neg (by decide), if_pos hg]) hMr)
      clear hgn hg hMr
      go_wp2_with (first
        | ((with_reducible refine at_slot 17 ?_); refine wpList_val rfl (ex_build (ps := []) rfl (run_build31 _)) ?_; go_frame)
        | ((with_reducible refine at_none 34 4 17 ?_); refine wpList_store_row rfl 34 (.tmp 4) (.tmp 17) rfl (m + 2) zeroNode rfl rfl 34 zeroNode bo infoZero rfl oneZero ?_; go_frame))
      have hl := run_loadVar_row (P := Tryz.prog) _ (m + 2) 34 34 _ (0, 0) _ HB.out Tryz.underlying34 rfl infoZero
      exact ⟨rfl, .tuple #[.agg zeroNode, .int .i64 34], by simp [results, Tryz.results9, asAddr, hl], HF.out⟩
    | true =>
      have HF := hide (ApplyRPost.bad (n := n) (e := e) (k := 90) hgn (by unfold errA; rw [hgn, if_neg (by decide), if_neg (by rw [hg]; decide)]) hMr)
      clear hgn hg hMr
      go_wp2_with (first
        | ((with_reducible refine at_slot 18 ?_); refine wpList_val rfl (ex_build (ps := []) rfl (run_build31 _)) ?_; go_frame)
        | ((with_reducible refine at_none 34 4 18 ?_); refine wpList_store_row rfl 34 (.tmp 4) (.tmp 18) rfl (m + 2) zeroNode rfl rfl 34 zeroNode bo infoZero rfl oneZero ?_; go_frame))
      have hl := run_loadVar_row (P := Tryz.prog) _ (m + 2) 34 34 _ (0, 0) _ HB.out Tryz.underlying34 rfl infoZero
      exact ⟨rfl, .tuple #[.agg zeroNode, .int .i64 90], by simp [results, Tryz.results9, asAddr, hl], HF.out⟩
  | true =>
    have HP := hide (refStep_any w1 n vm vn vl e (HH.out.kept hM1) hs (runs_of_good hgn))
    have hna : nodeA n e = nodeR n e := by unfold nodeA; rw [if_pos hgn]
    have hea : errA n e = errR n e := by unfold errA; rw [if_pos hgn]
    have HNA := hide hna
    have HEA := hide hea
    clear hgn hna hea
    go_wp2_with (first
      | ((with_reducible refine at_slot 19 ?_); refine wpList_val rfl (ex_load rfl (run_loadRow bn Tryz.underlying34 rfl HIN.out)) ?_; go_frame)
      | ((with_reducible refine at_slot 20 ?_); refine wpList_val rfl (ex_load rfl (run_loadRow be Tryz.underlying49 rfl HIE.out)) ?_; go_frame))
    refine HP.out.mono ?_
    rintro x w2 ⟨vm1, vn1, vl1, rfl, hLm, hLn, hLl, hm2, hFm, hFn, hFl⟩
    replace bo := bo.mod hm2 id
    have hM2 := hM1.trans hm2
    have hvm1 : vm1.oneCell' = true := by obtain ⟨A, c, rfl, _⟩ := hLm; rfl
    have hvn1 : vn1.oneCell' = true := by obtain ⟨A, c, rfl, _⟩ := hLn; rfl
    have hvl1 : vl1.oneCell' = true := by obtain ⟨A, c, rfl, _⟩ := hLl; rfl
    obtain ⟨N, hN⟩ : ∃ N, N = nodeR n e := ⟨_, rfl⟩
    obtain ⟨k, hk⟩ : ∃ k, k = errR n e := ⟨_, rfl⟩
    rw [← hN] at hLm hLn hLl hFm hFn hFl HNA ⊢
    rw [← hk] at HEA ⊢
    have hmr : Mod (· = m + 2) w2 (w2.setRow (m + 2) (nodeC N vm1 vn1 vl1)) := (Mod.refl (· = m + 2) w2).setRow (.inr rfl) _
    have hm2s := bo.lt
    have hfin : ApplyRPost w n e (.returned (.tuple #[.agg (nodeC N vm1 vn1 vl1), .int .i64 k])) (w2.setRow (m + 2) (nodeC N vm1 vn1 vl1)) := by
      unfold ApplyRPost
      rw [HNA.out, HEA.out]
      refine ⟨vm1, vn1, vl1, rfl, hLm.modX hmr ?_, hLn.modX hmr ?_, hLl.modX hmr ?_, hM2.trans' hmr (fun g hg e => by omega)⟩
      · intro h0 g hg e
        rcases hFm h0 with h | h
        · subst h; have := old_block HH.out.map hLm h0 hg; omega
        · have := h g hg; omega
      · intro h0 g hg e
        rcases hFn h0 with h | h
        · subst h; have := old_block HH.out.names hLn h0 hg; omega
        · have := h g hg; omega
      · intro h0 g hg e
        rcases hFl h0 with h | h
        · subst h; have := old_block HH.out.log hLl h0 hg; omega
        · have := h g hg; omega
    have HF := hide hfin
    have HB := hide (bo.row (nodeC N vm1 vn1 vl1))
    have HI2 := hide (infoNode N vm1 vn1 vl1)
    have HO2 := hide (nodeC_one N vm1 vn1 vl1 hvm1 hvn1 hvl1)
    clear hfin hmr hN hk hLm hLn hLl hFm hFn hFl HNA HEA HP HH hm2 hM2 hM1 be bn HIE
    go_wp2_with ((with_reducible refine at_none 34 4 22 ?_); refine wpList_store_row rfl 34 (.tmp 4) (.tmp 22) rfl (m + 2) (nodeC N vm1 vn1 vl1) rfl rfl 34 zeroNode bo HI2.out rfl HO2.out ?_; go_frame)
    have hl := run_loadVar_row (P := Tryz.prog) _ (m + 2) 34 34 _ (0, 0) _ HB.out Tryz.underlying34 rfl HI2.out
    exact ⟨rfl, .tuple #[.agg (nodeC N vm1 vn1 vl1), .int .i64 k], by simp [results, Tryz.results9, asAddr, hl], HF.out⟩
end Go.Proofs.YtabebkffcmajkaaGreatDoor

/-! Plain law: Apply of the code is the reference's. -/
namespace Go.Proofs.YtabebkffcmajkaaGreatDoor
open Go.RowKit Go.Maps Go.Shelf

/-! ### a name put into a list -/
def insRec (p : ByteArray × Int) : List (ByteArray × Int) → List (ByteArray × Int)
  | [] => [p]
  | x :: l => if strLt p.1 x.1 = true then p :: x :: l else x :: insRec p l
theorem insFold_true (p : ByteArray × Int) : ∀ (l acc : List (ByteArray × Int)), l.foldl (insStep p) (acc, true) = (acc ++ l, true)
  | [], acc => by simp
  | x :: l, acc => by
    rw [List.foldl_cons, show insStep p (acc, true) x = (acc ++ [x], true) from by unfold insStep; rw [if_neg (by simp)], insFold_true p l]
    simp
theorem insFold (p : ByteArray × Int) : ∀ (l acc : List (ByteArray × Int)), (if (l.foldl (insStep p) (acc, false)).2 = true then (l.foldl (insStep p) (acc, false)).1 else (l.foldl (insStep p) (acc, false)).1 ++ [p]) = acc ++ insRec p l
  | [], acc => by simp [insRec]
  | x :: l, acc => by
    rw [List.foldl_cons]
    by_cases h : strLt p.1 x.1 = true
    · rw [show insStep p (acc, false) x = (acc ++ [p] ++ [x], true) from by unfold insStep; rw [if_pos ⟨rfl, h⟩], insFold_true]
      simp [insRec, h]
    · rw [show insStep p (acc, false) x = (acc ++ [x], false) from by unfold insStep; rw [if_neg (fun e => h e.2)], insFold p l]
      simp [insRec, h]
theorem insL_eq (p : ByteArray × Int) (l : List (ByteArray × Int)) : insL p l = insRec p l := by
  have := insFold p l []
  rw [List.nil_append] at this
  exact this
theorem insRec_perm (p : ByteArray × Int) : ∀ l : List (ByteArray × Int), (insRec p l).Perm (p :: l)
  | [] => .refl _
  | x :: l => by
    unfold insRec
    split
    · exact .refl _
    · exact ((insRec_perm p l).cons x).trans (List.Perm.swap _ _ _)
theorem insRec_rises {p : ByteArray × Int} : ∀ {l : List (ByteArray × Int)}, Rises l → (∀ x ∈ l, x.1 ≠ p.1) → Rises (insRec p l)
  | [], _, _ => by simp [insRec, Rises]
  | x :: l, h, hn => by
    unfold Rises at h ⊢
    rw [List.pairwise_cons] at h
    unfold insRec
    split
    · rename_i hp
      rw [List.pairwise_cons, List.pairwise_cons]
      refine ⟨fun y hy => ?_, h⟩
      rcases List.mem_cons.1 hy with rfl | hy
      · exact hp
      · exact strLt_trans hp (h.1 y hy)
    · rename_i hp
      rw [List.pairwise_cons]
      refine ⟨fun y hy => ?_, insRec_rises h.2 fun z hz => hn z (by simp [hz])⟩
      rcases List.mem_cons.1 ((insRec_perm p l).mem_iff.1 hy) with rfl | hy
      · cases h3 : strLt x.1 y.1
        · exact absurd (strLt_tri h3 (by simpa using hp)) (hn x (by simp))
        · rfl
      · exact h.1 y hy
theorem findIno_perm {R R' : List Row} (hp : R.Perm R') (hn : (R.map (fun r => (r.dir, r.name))).Nodup) (d : Int) (s : ByteArray) : findIno R d s = findIno R' d s := by
  have hn' : (R'.map (fun r => (r.dir, r.name))).Nodup := (hp.map _).nodup_iff.1 hn
  by_cases h : ∃ r ∈ R, r.dir = d ∧ r.name = s
  · obtain ⟨r, hr, rfl, rfl⟩ := h
    rw [findIno_mem hn hr, findIno_mem hn' (hp.mem_iff.1 hr)]
  · have e1 : R.find? (fun r => decide (r.dir = d ∧ r.name = s)) = none := List.find?_eq_none.2 fun r hr => by simpa using fun e1 e2 => h ⟨r, hr, e1, e2⟩
    have e2 : R'.find? (fun r => decide (r.dir = d ∧ r.name = s)) = none := List.find?_eq_none.2 fun r hr => by simpa using fun e1 e2 => h ⟨r, hp.mem_iff.2 hr, e1, e2⟩
    unfold findIno; rw [e1, e2]
theorem namesOf_perm {R R' : List Row} (hp : R.Perm R') (hn : (R.map (fun r => (r.dir, r.name))).Nodup) : namesOf R = namesOf R' := by
  unfold namesOf
  rw [show listNames R 1 = listNames R' 1 from sortNames_perm (namesIn_perm hp 1)]
  unfold pairsOf
  exact List.map_congr_left fun s _ => by rw [findIno_perm hp hn]
/-- rows that say a list of names -/
structure DirIs (R : List Row) (l : List (ByteArray × Int)) : Prop where
  perm : R.Perm (dirList l)
  good : ∀ x ∈ l, goodDent x = true
  rises : Rises l
theorem DirIs.nodup {R : List Row} {l : List (ByteArray × Int)} (h : DirIs R l) : (R.map (fun r => (r.dir, r.name))).Nodup := (h.perm.map _).nodup_iff.2 (dirList_nodup (rises_nodup h.rises))
theorem DirIs.names {R : List Row} {l : List (ByteArray × Int)} (h : DirIs R l) : namesOf R = l := by
  rw [namesOf_perm h.perm h.nodup]
  exact (namesOf_dir (rises_nodup h.rises)).2 h.rises
theorem DirIs.find {R : List Row} {l : List (ByteArray × Int)} (h : DirIs R l) (s : ByteArray) : findIno R 1 s ≠ 0 ↔ hadL l s = true := by
  rw [findIno_perm h.perm h.nodup]
  have hok : ∀ r ∈ dirList l, r.Ok := fun r hr => by
    obtain ⟨x, hx, rfl⟩ := List.mem_map.1 (List.mem_reverse.1 hr)
    exact rowIn1_ok (h.good x hx)
  unfold hadL
  rw [List.any_eq_true]
  constructor
  · intro h1
    obtain ⟨r, hr, _, h2, _⟩ := findIno_ne hok h1
    obtain ⟨x, hx, rfl⟩ := List.mem_map.1 (List.mem_reverse.1 hr)
    exact ⟨x, hx, decide_eq_true h2⟩
  · rintro ⟨x, hx, h1⟩
    have h2 : x.1 = s := by simpa using h1
    have hm : rowIn1 x ∈ dirList l := List.mem_reverse.2 (List.mem_map_of_mem hx)
    have h3 := findIno_mem (dirList_nodup (rises_nodup h.rises)) hm
    rw [show (rowIn1 x).dir = 1 from rfl, show (rowIn1 x).name = s from h2] at h3
    rw [h3]
    have := (hok _ hm).2.1
    omega
theorem DirIs.put {R : List Row} {l : List (ByteArray × Int)} (h : DirIs R l) {s : ByteArray} {i : Int} (hg : goodDent (s, i) = true) (hn : hadL l s = false) : DirIs (⟨1, s, i⟩ :: R) (insRec (s, i) l) := by
  refine ⟨?_, fun x hx => ?_, insRec_rises h.rises fun x hx e => ?_⟩
  · refine (h.perm.cons _).trans ?_
    unfold dirList
    refine ((List.reverse_perm _).cons _).trans ?_
    refine List.Perm.trans ?_ (List.reverse_perm _).symm
    exact ((insRec_perm (s, i) l).map rowIn1).symm
  · rcases List.mem_cons.1 ((insRec_perm (s, i) l).mem_iff.1 hx) with rfl | hx
    · exact hg
    · exact h.good x hx
  · have : hadL l s = true := by unfold hadL; rw [List.any_eq_true]; exact ⟨x, hx, by simpa using e⟩
    rw [hn] at this; cases this
theorem DirIs.drop {R : List Row} {l : List (ByteArray × Int)} (h : DirIs R l) (s : ByteArray) : DirIs (dropRows R 1 s) (dropL l s) := by
  refine ⟨?_, fun x hx => h.good x (List.mem_filter.1 hx).1, h.rises.filter _⟩
  refine (h.perm.filter _).trans ?_
  unfold dirList dropL
  rw [List.filter_reverse, List.filter_map]
  have : (fun r : Row => !decide (r.dir = 1 ∧ r.name = s)) ∘ rowIn1 = fun x : ByteArray × Int => !decide (x.1 = s) := by
    funext x
    show (!decide ((1 : Int) = 1 ∧ x.1 = s)) = !decide (x.1 = s)
    by_cases h : x.1 = s
    · rw [decide_eq_true h, decide_eq_true ⟨rfl, h⟩]
    · rw [decide_eq_false h, decide_eq_false (fun e => h e.2)]
  rw [this]
theorem dropL_no {l : List (ByteArray × Int)} {s : ByteArray} (h : hadL l s = false) : dropL l s = l := by
  unfold dropL
  rw [List.filter_eq_self]
  intro x hx
  unfold hadL at h
  rw [List.any_eq_false] at h
  have := h x hx
  simp only [decide_eq_true_eq] at this
  rw [decide_eq_false this]; rfl

/-! ### Apply -/
theorem dir_of_good {n : NodeD} (h : nodeGood n = true) (hk : ¬ n.kind = 1) : n.kind = 2 ∧ n.size = 0 ∧ n.map = [] ∧ ∃ rows, senseD n = .dir rows ∧ DirIs rows n.names := by
  unfold nodeGood at h
  rw [if_neg hk] at h
  by_cases h2 : n.kind = 2
  · rw [if_pos h2, ← refDir_eq] at h
    simp only [refDir, Bool.and_eq_true, decide_eq_true_eq, List.all_eq_true] at h
    obtain ⟨⟨hz, hm⟩, hg, hr⟩ := h
    have hn := rises_nodup hr
    refine ⟨h2, hz, List.length_eq_zero_iff.1 hm, dirList n.names, ?_, .refl _, hg, hr⟩
    unfold senseD
    rw [if_neg hk, dirRows_ok hg hn]; rfl
  · rw [if_neg h2] at h; cases h
theorem good_kinds {e : EntD} (h : goodEnt (one e) = true) : e.kind = 1 ∨ e.kind = 2 ∨ e.kind = 3 ∨ e.kind = 4 := (goodE_of h).kind
theorem good_add {e : EntD} (h : goodEnt (one e) = true) (hk : e.kind = 3) : goodDent (e.name, e.ino) = true := by
  unfold goodEnt at h
  rw [Bool.and_eq_true] at h
  replace h := h.2
  rw [if_neg (show ¬ (one e).kind = 1 from by show ¬ e.kind = 1; omega), if_neg (show ¬ (one e).kind = 2 from by show ¬ e.kind = 2; omega), if_pos (show (one e).kind = 3 from hk)] at h
  simp only [Bool.and_eq_true, wi_iff] at h
  rw [goodDent_iff]
  exact ⟨h.2.2.2, h.2.2.1.1, h.2.2.1.2⟩
theorem put_zero {R : List Row} {l : List (ByteArray × Int)} (h : DirIs R l) {s : ByteArray} {i : Int} (hg : goodDent (s, i) = true) : putErr R 1 s i = 0 ↔ hadL l s = false := by
  rw [goodDent_iff] at hg
  have h1 : isInodeB 1 = true := by decide
  have h2 : isInodeB i = true := by
    have : 2 ≤ i ∧ i ≤ 256 := hg.2
    simp [isInodeB]; omega
  unfold putErr
  rw [if_neg (by rw [h1, h2]; simp), if_neg (by rw [show goodName s = true from hg.1]; simp)]
  have hf := h.find s
  by_cases h0 : findIno R 1 s = 0
  · rw [if_neg (fun e => e h0)]
    refine ⟨fun _ => ?_, fun _ => rfl⟩
    cases hh : hadL l s
    · rfl
    · exact absurd h0 (hf.2 hh)
  · rw [if_pos h0]
    refine ⟨fun e => by omega, fun e => ?_⟩
    rw [hf.1 h0] at e; cases e
end Go.Proofs.YtabebkffcmajkaaGreatDoor

/-! Plain law: Apply of the code is the reference's. -/
namespace Go.Proofs.YtabebkffcmajkaaGreatDoor
open Go.RowKit Go.Maps Go.Shelf

theorem le_two {e : EntD} (h : goodEnt (one e) = true) : decide (e.kind ≤ 2) = decide (e.kind = 1 ∨ e.kind = 2) := by
  have := good_kinds h
  by_cases h2 : e.kind ≤ 2
  · rw [decide_eq_true h2, decide_eq_true (by omega)]
  · rw [decide_eq_false h2, decide_eq_false (by omega)]
/-- a directory's step: taken alike -/
theorem dir_ok_eq {n : NodeD} {R : List Row} {e : EntD} (h : DirIs R n.names) (hg : goodEnt (one e) = true) : onOk e (.dir R) = (!decide (e.kind ≤ 2) && dirOk n e) := by
  have hk := good_kinds hg
  simp only [onOk]
  unfold dirOk
  by_cases h3 : e.kind = 3
  · rw [if_pos h3, decide_eq_false (show ¬ e.kind ≤ 2 by omega), decide_eq_false (show ¬ e.kind = 4 by omega)]
    have := put_zero h (s := e.name) (i := e.ino) (good_add hg h3)
    cases hh : hadL n.names e.name
    · rw [decide_eq_true (this.2 hh)]; rfl
    · rw [decide_eq_false (fun e => by rw [this.1 e] at hh; cases hh)]; rfl
  · rw [if_neg h3]
    by_cases h4 : e.kind = 4
    · rw [if_pos h4, decide_eq_false (show ¬ e.kind ≤ 2 by omega), decide_eq_true h4]
      have hf := h.find e.name
      unfold dropErr
      cases hh : hadL n.names e.name
      · rw [if_pos (by by_cases h0 : findIno R 1 e.name = 0
                       · exact h0
                       · rw [hf.1 h0] at hh; cases hh)]; rfl
      · rw [if_neg (hf.2 hh)]; rfl
    · rw [if_neg h4, decide_eq_true (show e.kind ≤ 2 by omega)]; rfl
/-- .. and to the same names -/
theorem dir_next {n : NodeD} {R : List Row} {e : EntD} (h : DirIs R n.names) (hg : goodEnt (one e) = true) (hok : onOk e (.dir R) = true) : ∃ R', onD e (.dir R) = .dir R' ∧ DirIs R' (dirNames n e) := by
  have hk := good_kinds hg
  simp only [onOk] at hok
  simp only [onD]
  unfold dirNames
  by_cases h3 : e.kind = 3
  · rw [if_pos h3] at hok ⊢
    rw [if_pos h3]
    have hp : putErr R 1 e.name e.ino = 0 := of_decide_eq_true hok
    have hh := (put_zero h (good_add hg h3)).1 hp
    refine ⟨_, rfl, ?_⟩
    unfold putRows
    rw [if_pos hp, dropL_no hh, insL_eq]
    exact h.put (good_add hg h3) hh
  · rw [if_neg h3] at hok ⊢
    rw [if_neg h3]
    by_cases h4 : e.kind = 4
    · exact ⟨_, rfl, h.drop e.name⟩
    · rw [if_neg h4] at hok; cases hok
theorem apply_err (n : NodeD) (e : EntD) : applyErr n e = errA n e := by
  unfold applyErr errA
  cases hg : goodEnt (one e)
  · rw [if_pos rfl]
    by_cases hn : nodeGood n = true
    · rw [if_pos hn]; unfold errR; rw [if_pos hg]
    · rw [if_neg hn, if_pos rfl]
  · rw [if_neg (by decide)]
    by_cases hn : nodeGood n = true
    · rw [if_neg (by rw [hn]; decide), if_pos hn]
      rw [show errR n e = if (n.kind == 1) ≠ decide (e.kind ≤ 2) then 90 else if n.kind = 1 then 0 else if dirOk n e = true then 0 else 90 from by unfold errR; rw [if_neg (by rw [hg]; decide)]]
      by_cases h1 : n.kind = 1
      · rw [show senseD n = .file n.size (tableOf n.map) from by unfold senseD; rw [if_pos h1], show (n.kind == 1) = true from by simp [h1], le_two hg]
        by_cases hb : e.kind = 1 ∨ e.kind = 2
        · rw [if_neg (show ¬ onOk e (.file n.size (tableOf n.map)) = false from by rw [show onOk e (.file n.size (tableOf n.map)) = decide (e.kind = 1 ∨ e.kind = 2) from rfl, decide_eq_true hb]; decide), if_neg (by rw [decide_eq_true hb]; simp), if_pos h1]
        · rw [if_pos (show onOk e (.file n.size (tableOf n.map)) = false from decide_eq_false hb), if_pos (by rw [decide_eq_false hb]; simp)]
      · obtain ⟨_, _, _, R, hs, hd⟩ := dir_of_good hn h1
        rw [hs, dir_ok_eq hd hg, show (n.kind == 1) = false from by simp [h1]]
        by_cases hb : e.kind ≤ 2
        · rw [if_pos (by rw [decide_eq_true hb]; rfl), if_pos (by rw [decide_eq_true hb]; simp)]
        · rw [if_neg (show ¬ (false ≠ decide (e.kind ≤ 2)) from by rw [decide_eq_false hb]; simp), if_neg h1]
          cases hdk : dirOk n e
          · rw [if_pos (by rw [decide_eq_false hb]; rfl), if_neg (by decide)]
          · rw [if_neg (by rw [decide_eq_false hb]; decide), if_pos rfl]
    · rw [if_pos (by simpa using hn), if_neg hn, if_neg (by decide)]
theorem apply_node (n : NodeD) (e : EntD) : applyN n e = nodeA n e := by
  have herr := apply_err n e
  unfold applyN nodeA
  by_cases hz : applyErr n e = 0
  · rw [if_pos hz]
    have hn : nodeGood n = true := by
      by_cases hn : nodeGood n = true
      · exact hn
      · unfold applyErr at hz
        split at hz
        · omega
        · rw [if_pos (by simpa using hn)] at hz; omega
    have hg : goodEnt (one e) = true := by
      by_cases hg : goodEnt (one e) = true
      · exact hg
      · unfold applyErr at hz; rw [if_pos (by simpa using hg)] at hz; omega
    have hok : onOk e (senseD n) = true := by
      by_cases hok : onOk e (senseD n) = true
      · exact hok
      · unfold applyErr at hz; rw [if_neg (by rw [hg]; decide), if_neg (by rw [hn]; decide), if_pos (by simpa using hok)] at hz; omega
    rw [if_pos hn]
    unfold nodeR
    have he2 : errR n e = 0 := by unfold errA at herr; rw [if_pos hn] at herr; rw [← herr]; exact hz
    rw [if_pos he2]
    by_cases h1 : n.kind = 1
    · rw [if_pos h1, show senseD n = .file n.size (tableOf n.map) from by unfold senseD; rw [if_pos h1]]
      have hnm : n.names = [] := by
        unfold nodeGood at hn
        rw [if_pos h1] at hn
        simp only [fileGood, Bool.and_eq_true, decide_eq_true_eq] at hn
        exact List.length_eq_zero_iff.1 hn.1.1.1.1.2
      obtain ⟨i, k, li, z, mp, nm, hd, tl, lg, en⟩ := n
      simp only at h1 hnm
      subst h1 hnm
      rfl
    · obtain ⟨hk2, hz0, hm0, R, hs, hd⟩ := dir_of_good hn h1
      rw [if_neg h1, hs]
      rw [hs] at hok
      obtain ⟨R', hR, hd'⟩ := dir_next hd hg hok
      rw [hR]
      have hnn := hd'.names
      unfold intoN dirN
      simp only [dKind, dSize, dMap, dNames]
      rw [hnn]
      obtain ⟨i, k, li, z, mp, nm, hd, tl, lg, en⟩ := n
      simp only at hk2 hz0 hm0
      subst hk2 hz0 hm0
      rfl
  · rw [if_neg hz]
    by_cases hn : nodeGood n = true
    · rw [if_pos hn]
      unfold nodeR
      rw [if_neg]
      intro he
      apply hz
      rw [herr]
      unfold errA
      rw [if_pos hn]
      exact he
    · rw [if_neg hn]
end Go.Proofs.YtabebkffcmajkaaGreatDoor

/-! Plain law: the table of a table's runs is the table; Replay's steps. -/
namespace Go.Proofs.YtabebkffcmajkaaGreatDoor
open Go.RowKit Go.Maps Go.Shelf

def putItem (f : Nat → Int) (x : Int × Int) : Nat → Int := setAt f x.1.toNat x.2
theorem setN_items (f : Nat → Int) (o p : Int) (ho : 0 ≤ o) (hp : 0 ≤ p) (hp2 : p ≤ 1000000) : ∀ n : Nat, n ≤ 1000000 → setN f o.toNat p n = ((List.range n).map fun i : Nat => (o + (i : Int), p + (i : Int))).foldl putItem f
  | 0, _ => rfl
  | n + 1, hn => by
    rw [List.range_succ, List.map_append, List.foldl_append, ← setN_items f o p ho hp hp2 n (by omega)]
    show setAt (setN f o.toNat p n) (o.toNat + n) (wrap64 (p + n)) = setAt (setN f o.toNat p n) (o + (n : Int)).toNat (p + n)
    rw [wrap_small (by omega) (by omega), show (o + (n : Int)).toNat = o.toNat + n by omega]
theorem table_items : ∀ (l : List RunD) (f : Nat → Int), (∀ r ∈ l, 0 ≤ r.off ∧ r.off ≤ 100000 ∧ 0 ≤ r.page ∧ r.page ≤ 100000 ∧ 0 ≤ r.count ∧ r.count ≤ 100000) → l.foldl (fun f r => setN f r.off.toNat r.page r.count.toNat) f = (l.flatMap runItems).foldl putItem f
  | [], _, _ => rfl
  | r :: l, f, h => by
    have hr := h r (by simp)
    rw [List.foldl_cons, List.flatMap_cons, List.foldl_append, table_items l _ (fun x hx => h x (by simp [hx])), setN_items f r.off r.page (by omega) (by omega) (by omega) _ (by omega)]
    rfl
theorem items_put (f : Nat → Int) : ∀ (k x : Nat), (itemsTo f k).foldl putItem (fun _ => 0) x = if x < k then f x else 0
  | 0, x => by rw [if_neg (by omega)]; rfl
  | k + 1, x => by
    by_cases h0 : f k = 0
    · rw [itemsTo_zero h0, items_put f k x]
      by_cases h : x < k
      · rw [if_pos h, if_pos (by omega)]
      · rw [if_neg h]
        by_cases h2 : x < k + 1
        · rw [if_pos h2, show x = k by omega, h0]
        · rw [if_neg h2]
    · rw [itemsTo_some h0, List.foldl_append]
      show setAt ((itemsTo f k).foldl putItem (fun _ => 0)) (k : Int).toNat (f k) x = _
      rw [show (k : Int).toNat = k by omega]
      by_cases h : x = k
      · subst h; rw [setAt_same, if_pos (by omega)]
      · rw [setAt_ne _ _ h, items_put f k x]
        by_cases h2 : x < k
        · rw [if_pos h2, if_pos (by omega)]
        · rw [if_neg h2, if_neg (by omega)]
theorem table_runs {f : Nat → Int} (hin : InR f) (x : Nat) (hx : x < 512) : tableOf (runsT f) x = f x := by
  have h := runs_items hin 512 (Nat.le_refl _)
  have e := table_items (runsTo f 512) (fun _ => 0) (fun r hr => by have := h.2 r hr; omega)
  rw [h.1] at e
  have := congrFun e x
  rw [items_put f 512 x, if_pos hx] at this
  unfold tableOf
  rw [show runsT f = runsTo f 512 from rfl]
  exact this
set_option maxRecDepth 100000 in
theorem runsT_congr {f g : Nat → Int} (h : ∀ i, i < 512 → f i = g i) : runsT f = runsT g := by
  unfold runsT itemsOf
  congr 1
  have e : (List.range 512).filter (fun i => decide (f i ≠ 0 ∧ (0 : Int) ≤ 0 + (i : Int))) = (List.range 512).filter (fun i => decide (g i ≠ 0 ∧ (0 : Int) ≤ 0 + (i : Int))) :=
    List.filter_congr fun i hi => by rw [h i (List.mem_range.1 hi)]
  rw [e]
  exact List.map_congr_left fun i hi => by rw [h i (List.mem_range.1 (List.mem_filter.1 hi).1)]
theorem setN_congr {f g : Nat → Int} (o : Nat) (p : Int) {x : Nat} (h : f x = g x) : ∀ n : Nat, setN f o p n x = setN g o p n x
  | 0 => h
  | n + 1 => by
    show setAt (setN f o p n) (o + n) _ x = setAt (setN g o p n) (o + n) _ x
    by_cases e : x = o + n
    · subst e; rw [setAt_same, setAt_same]
    · rw [setAt_ne _ _ e, setAt_ne _ _ e, setN_congr o p h n]
theorem nextF_congr {f g : Nat → Int} (e : EntD) {x : Nat} (h : f x = g x) : nextF e f x = nextF e g x := by
  unfold nextF cutF
  split
  · rfl
  · split
    · exact setN_congr _ _ h _
    · exact h
end Go.Proofs.YtabebkffcmajkaaGreatDoor

/-! Plain law: a step of Replay. -/
namespace Go.Proofs.YtabebkffcmajkaaGreatDoor
open Go.RowKit Go.Maps Go.Shelf

def nodeOf (D : SenseD) (j : Nat) : NodeD := { intoN D zeroN with entries := j }
def PageF (f : Nat → Int) : Prop := ∀ i, f i = 0 ∨ (5 ≤ f i ∧ f i ≤ 1023 ∧ i < 512)
theorem PageF.inr {f : Nat → Int} (h : PageF f) : InR f := fun i => (h i).imp id fun ⟨a, b, _⟩ => ⟨by omega, by omega⟩
def WfD : SenseD → Prop
  | .file z f => (0 ≤ z ∧ z ≤ 262144) ∧ PageF f
  | .dir R => ∃ l, DirIs R l
theorem wf_zero (k : Int) : WfD (zeroD k) := by
  unfold zeroD
  split
  · exact ⟨by omega, fun _ => .inl rfl⟩
  · exact ⟨[], .refl _, (fun _ h => by cases h), List.Pairwise.nil⟩
theorem next_page {e : EntD} {f : Nat → Int} (hg : goodEnt (one e) = true) (h : PageF f) : PageF (nextF e f) := by
  intro x
  unfold nextF cutF
  split
  · exact .inl rfl
  · split
    · rename_i hk
      have hr := run_of_good hg hk
      have hs := setRun_at f hr x
      rw [refRun_iff] at hr
      obtain ⟨h1, h2, h3, h4, h5, h6, h7⟩ := hr
      simp only at h1 h2 h3 h4 h5 h6 h7
      unfold setRun at hs
      simp only at hs
      rw [hs]
      split
      · rename_i hx
        right
        omega
      · exact h x
    · exact h x
theorem onD_file (e : EntD) (z : Int) (f : Nat → Int) : onD e (.file z f) = .file e.size (nextF e f) := rfl
theorem step_ok {D : SenseD} {e : EntD} (h : stepErr D e = 0) : goodEnt (one e) = true ∧ onOk e D = true := by
  unfold stepErr at h
  by_cases hg : goodEnt (one e) = true
  · by_cases ho : onOk e D = true
    · exact ⟨hg, ho⟩
    · rw [if_neg (by rw [hg]; decide), if_pos (by simpa using ho)] at h; omega
  · rw [if_pos (by simpa using hg)] at h; omega
theorem step_wf {D : SenseD} {e : EntD} (h : WfD D) (he : stepErr D e = 0) : WfD (onD e D) := by
  obtain ⟨hg, ho⟩ := step_ok he
  cases D with
  | file z f => exact ⟨(goodE_of hg).size, next_page hg h.2⟩
  | dir R =>
    obtain ⟨l, hl⟩ := h
    obtain ⟨R', h1, h2⟩ := dir_next (n := { zeroN with names := l }) hl hg ho
    rw [h1]
    exact ⟨_, h2⟩
theorem step_err {D : SenseD} (e : EntD) (j : Nat) (h : WfD D) : errR (nodeOf D j) e = stepErr D e := by
  unfold errR stepErr
  cases hg : goodEnt (one e)
  · rw [if_pos rfl, if_pos rfl]
  · rw [if_neg (show ¬ (true = false) by decide), if_neg (show ¬ (true = false) by decide)]
    cases D with
    | file z f =>
      rw [show ((nodeOf (.file z f) j).kind == 1) = true from rfl, le_two hg, if_pos (show (nodeOf (.file z f) j).kind = 1 from rfl)]
      by_cases hb : e.kind = 1 ∨ e.kind = 2
      · rw [if_neg (by rw [decide_eq_true hb]; simp), if_neg (show ¬ onOk e (.file z f) = false from by rw [show onOk e (.file z f) = decide (e.kind = 1 ∨ e.kind = 2) from rfl, decide_eq_true hb]; decide)]
      · rw [if_pos (by rw [decide_eq_false hb]; simp), if_pos (show onOk e (.file z f) = false from decide_eq_false hb)]
    | dir R =>
      obtain ⟨l, hl⟩ := h
      have hnm : (nodeOf (.dir R) j).names = l := hl.names
      rw [dir_ok_eq (n := nodeOf (.dir R) j) (by rw [hnm]; exact hl) hg]
      rw [show ((nodeOf (.dir R) j).kind == 1) = false from rfl, if_neg (show ¬ (nodeOf (.dir R) j).kind = 1 from by show ¬ (2 : Int) = 1; decide)]
      by_cases hb : e.kind ≤ 2
      · rw [if_pos (by rw [decide_eq_true hb]; simp), if_pos (by rw [decide_eq_true hb]; rfl)]
      · rw [if_neg (by rw [decide_eq_false hb]; simp)]
        cases hdk : dirOk (nodeOf (.dir R) j) e
        · rw [if_neg (by decide), if_pos (by rw [decide_eq_false hb]; rfl)]
        · rw [if_pos rfl, if_neg (by rw [decide_eq_false hb]; decide)]
theorem step_node {D : SenseD} {e : EntD} {j : Nat} (h : WfD D) (he : stepErr D e = 0) (hj : j ≤ 1000000) : nodeR (nodeOf D j) e = nodeOf (onD e D) (j + 1) := by
  have hw : wrap64 ((j : Int) + 1) = ((j + 1 : Nat) : Int) := by unfold wrap64; omega
  obtain ⟨hg, ho⟩ := step_ok he
  unfold nodeR
  rw [if_pos (by rw [step_err e j h]; exact he)]
  cases D with
  | file z f =>
    rw [if_pos (show (nodeOf (.file z f) j).kind = 1 from rfl), onD_file]
    have e1 : runsT (nextF e (tableOf (runsT f))) = runsT (nextF e f) := runsT_congr fun i hi => nextF_congr e (table_runs h.2.inr i hi)
    show ({ fileN (nodeOf (.file z f) j) e with entries := wrap64 ((j : Int) + 1) } : NodeD) = _
    rw [hw]
    unfold fileN nodeOf intoN
    simp only [dKind, dSize, dMap, dNames]
    rw [show runsOf (itemsOf f 0 512 0) = runsT f from rfl, e1]
    rfl
  | dir R =>
    obtain ⟨l, hl⟩ := h
    have hnm : (nodeOf (.dir R) j).names = l := hl.names
    obtain ⟨R', h1, h2⟩ := dir_next (n := nodeOf (.dir R) j) (by rw [hnm]; exact hl) hg ho
    rw [if_neg (show ¬ (nodeOf (.dir R) j).kind = 1 from by show ¬ (2 : Int) = 1; decide), h1]
    have hn2 := h2.names
    show ({ dirN (nodeOf (.dir R) j) e with entries := wrap64 ((j : Int) + 1) } : NodeD) = _
    rw [hw]
    unfold dirN
    rw [← hn2]
    rfl
end Go.Proofs.YtabebkffcmajkaaGreatDoor

/-! Plain law: the runs of a good table are good. -/
namespace Go.Proofs.YtabebkffcmajkaaGreatDoor
open Go.RowKit Go.Maps Go.Shelf

theorem add_pos {L : List RunD} {x : Int × Int} (h : ∀ r ∈ L, 1 ≤ r.count ∧ r.count ≤ 100000) : ∀ r ∈ addRun L x, 1 ≤ r.count := by
  rcases List.eq_nil_or_concat L with rfl | ⟨L', r0, rfl⟩
  · rw [addRun_nil]
    intro r hr
    simp only [List.mem_singleton] at hr
    subst hr
    show (1 : Int) ≤ 1
    omega
  · rw [List.concat_eq_append] at *
    have h0 := h r0 (by simp)
    by_cases hc : wrap64 (r0.off + r0.count) = x.1 ∧ wrap64 (r0.page + r0.count) = x.2
    · rw [addRun_yes hc.1 hc.2]
      intro r hr
      rcases List.mem_append.1 hr with hr | hr
      · exact (h r (by simp [hr])).1
      · simp only [List.mem_singleton] at hr
        subst hr
        show 1 ≤ wrap64 (r0.count + 1)
        rw [wrap_small (by omega) (by omega)]
        omega
    · rw [addRun_no hc]
      intro r hr
      rcases List.mem_append.1 hr with hr | hr
      · exact (h r hr).1
      · simp only [List.mem_singleton] at hr
        subst hr
        show (1 : Int) ≤ 1
        omega
theorem runs_pos {f : Nat → Int} (hin : InR f) : ∀ k : Nat, k ≤ 512 → ∀ r ∈ runsTo f k, 1 ≤ r.count
  | 0, _ => fun r hr => by cases hr
  | k + 1, hk => by
    have ih := runs_pos hin k (by omega)
    have hb := (runs_items hin k (by omega)).2
    by_cases h0 : f k = 0
    · unfold runsTo at *
      rw [itemsTo_zero h0]
      exact ih
    · unfold runsTo at *
      rw [itemsTo_some h0, runsOf_snoc]
      exact add_pos fun r hr => ⟨ih r hr, by have := hb r hr; omega⟩
theorem items_mem {f : Nat → Int} {k : Nat} {x : Int × Int} (h : x ∈ itemsTo f k) : ∃ y : Nat, y < k ∧ x = ((y : Int), f y) ∧ f y ≠ 0 := by
  unfold itemsTo itemsOf at h
  obtain ⟨y, hy, rfl⟩ := List.mem_map.1 h
  have h2 := List.mem_filter.1 hy
  simp only [decide_eq_true_eq] at h2
  exact ⟨y, List.mem_range.1 h2.1, by simp, h2.2.1⟩
theorem runs_good {f : Nat → Int} (hp : PageF f) : ∀ r ∈ runsT f, refRun r = true := by
  intro r hr
  have hr : r ∈ runsTo f 512 := hr
  have h1 := runs_pos hp.inr 512 (Nat.le_refl _) r hr
  obtain ⟨hi, hb⟩ := runs_items hp.inr 512 (Nat.le_refl _)
  have h2 := hb r hr
  have hmem : ∀ i : Nat, (i : Int) < r.count → (r.off + (i : Int), r.page + (i : Int)) ∈ itemsTo f 512 := fun i hi' => by
    rw [← hi]
    refine List.mem_flatMap.2 ⟨r, hr, ?_⟩
    unfold runItems
    exact List.mem_map.2 ⟨i, List.mem_range.2 (by omega), rfl⟩
  obtain ⟨y, hy, e, hy0⟩ := items_mem (hmem 0 (by omega))
  obtain ⟨y2, hy2, e2, hy20⟩ := items_mem (hmem (r.count.toNat - 1) (by omega))
  simp only [Prod.mk.injEq] at e e2
  have p1 := hp y
  have p2 := hp y2
  rw [refRun_iff]
  have hc : ((r.count.toNat - 1 : Nat) : Int) = r.count - 1 := by omega
  rw [hc] at e2
  refine ⟨?_, ?_, ?_, ?_, ?_, ?_, ?_⟩ <;> omega
theorem runs_len (f : Nat → Int) : (runsT f).length ≤ 512 := Nat.le_trans (runsOf_length _) (itemsOf_length f 0 512 0)
end Go.Proofs.YtabebkffcmajkaaGreatDoor

/-! Plain law: the nodes that Replay goes through. -/
namespace Go.Proofs.YtabebkffcmajkaaGreatDoor
open Go.RowKit Go.Maps Go.Shelf

theorem nodeOf_map (z : Int) (f : Nat → Int) (j : Nat) : (nodeOf (.file z f) j).map = runsT f := by
  unfold nodeOf intoN
  simp only [dMap]
  unfold runsT
  exact rfl
theorem node_runs {D : SenseD} {j : Nat} (hD : WfD D) : (nodeOf D j).kind = 1 → ∀ r ∈ (nodeOf D j).map, refRun r = true := by
  intro hk
  cases D with
  | file z f => rw [nodeOf_map]; exact runs_good hD.2
  | dir R => intro r hr; cases hr
theorem node_ok {D : SenseD} {j : Nat} (hD : WfD D) : ∀ r ∈ (nodeOf D j).map, r.Ok := by
  cases D with
  | file z f =>
    rw [nodeOf_map]
    intro r hr
    have h := runs_good hD.2 r hr
    rw [refRun_iff] at h
    obtain ⟨h1, h2, h3, h4, h5, h6, h7⟩ := h
    exact ⟨⟨by omega, by omega⟩, ⟨by omega, by omega⟩, ⟨by omega, by omega⟩⟩
  | dir R => intro r hr; cases hr
theorem names_len (R : List Row) : (namesOf R).length ≤ R.length := by
  unfold namesOf
  rw [pairsOf_length]
  unfold listNames sortNames
  rw [List.length_mergeSort]
  unfold namesIn
  rw [List.length_map]
  exact List.length_filter_le _ _
theorem node_small {D : SenseD} {j : Nat} (hl : lenD D ≤ 2000) : smallB (nodeOf D j) = true := by
  simp only [smallB, Bool.and_eq_true, decide_eq_true_eq]
  cases D with
  | file z f =>
    refine ⟨?_, Nat.zero_le _, Nat.zero_le _⟩
    rw [nodeOf_map]
    exact Nat.le_trans (runs_len f) (by omega)
  | dir R =>
    refine ⟨Nat.zero_le _, ?_, Nat.zero_le _⟩
    exact Nat.le_trans (names_len R) hl
theorem node_i64 {D : SenseD} {j : Nat} (hD : WfD D) : I64 (nodeOf D j).kind ∧ I64 (nodeOf D j).size := by
  cases D with
  | file z f =>
    have := hD.1
    exact ⟨⟨by show -9223372036854775808 ≤ (1 : Int); omega, by show (1 : Int) ≤ 9223372036854775807; omega⟩, ⟨by show -9223372036854775808 ≤ z; omega, by show z ≤ 9223372036854775807; omega⟩⟩
  | dir R => exact ⟨⟨by show -9223372036854775808 ≤ (2 : Int); omega, by show (2 : Int) ≤ 9223372036854775807; omega⟩, ⟨by show -9223372036854775808 ≤ (0 : Int); omega, by show (0 : Int) ≤ 9223372036854775807; omega⟩⟩
end Go.Proofs.YtabebkffcmajkaaGreatDoor
