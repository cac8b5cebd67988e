import Derived.Test.YtabebkffcmajkaaGreatDoorG9
import Derived.Test.YtabebkffcmajkaaGreatDoorG6
import Derived.Test.YtabebkffcmajkaaGreatDoorG5
set_option linter.unusedVariables false
set_option linter.unusedSimpArgs false
/-! Reference walk: Replay. -/
namespace Go.Proofs.YtabebkffcmajkaaGreatDoor
open Go.RowKit Go.Maps Go.Shelf
attribute [local go_sem] quietV loudUpon Oper.semAt_some

section
variable {P : Program} {D : List Nat} {I : World → Prop} {R : Nat → World → Prop} {Q : Act → World → Prop} {k : Nat} {o : Oper} {os : List Oper} {l : List (Bool × Nat)} {done : List Nat} {a : Act} {w : World}
theorem jxw_qv {v : Value} (ho : os[k]? = some o) (hk : D.contains k = false) (ds : List Nat) (hds : ds.all (fun d => D.contains d && waits .any os.toArray k os.toArray.size d) = true) (hg : o.guard = none) (hr : ∀ w', I w' → (∀ d ∈ ds, R d w') → (execOp a.eval o).run P w' = .ok (.value v) w')
    (hn : JxW P os.toArray D I R Q l done (a.put o.dst v) w) : JxW P os.toArray D I R Q ((true, k) :: l) done a w :=
  jxw_quiet ho hk ds hds (fun w' hI hR K hK => by rw [if_pos (by simp [Region.wanted, hg]), hr w' hI hR]; exact ⟨rfl, hK⟩) hn
theorem jxw_storeRow (ho : os[k]? = some o) (hgd : o.guard = none) (ty : TypeId) (x y : Operand) (hop : o.op = .store ty x y) (g : Nat) (cells : Array Value) (hx : a.eval x = .pointer (some ⟨g, 0, none⟩)) (hy : a.eval y = .agg cells)
    (t : TypeId) (old : Array Value) (hg : w.heap[g]? = some (.cells old t (0, 0))) (hi : (P.info? ty).map (·.size) = some cells.size) (hold : old.size = cells.size) (h1 : cells.all (·.oneCell') = true)
    (hI : JD D I R (k :: done) (w.setRow g cells)) (hn : JxW P os.toArray D I R Q l (k :: done) (a.put o.dst undef) (w.setRow g cells)) : JxW P os.toArray D I R Q ((false, k) :: l) done a w :=
  jxw_loud ho fun K hK => by
    have hrun : (execOp a.eval o).run P w = .ok .skip (w.setRow g cells) := by
      refine ex_store hop ?_
      rw [hx, hy]
      simp only [Instr.storeAt, Instr.sureAddr, Sem.run_bind, Sem.run_pure, Result.andThen_ok, run_storeVar_row w g t ty old cells hg hi hold h1]
    rw [if_pos (by simp [Region.wanted, hgd]), hrun]
    exact ⟨hI, hK _ _ hn⟩
end
/-- a list whose block lies from b on -/
def ListY {α : Type} (enc : α → List Value) (sz : Nat) (w : World) (b : Nat) (v : Value) (l : List α) : Prop := ListAt enc sz w v l ∧ (0 < l.length → ∀ g, v.ownBlock = some g → b ≤ g)
theorem ListY.mod {α : Type} {enc : α → List Value} {sz : Nat} {S : Nat → Prop} {w w' : World} {b : Nat} {v : Value} {l : List α} (h : ListY enc sz w b v l) (hm : Mod S w w') (hs : ∀ g, S g → g < b) : ListY enc sz w' b v l :=
  ⟨h.1.modX hm fun h0 g hg e => by have := h.2 h0 g hg; have := hs g e; omega, h.2⟩
theorem listY_fresh {α : Type} {enc : α → List Value} {sz : Nat} {w w' w3 : World} {b : Nat} {v0 v : Value} {l0 l : List α} (h0 : ListY enc sz w b v0 l0) (h : ListAt enc sz w' v l) (hF : Fresh w3 v0 v l.length) (hb : b ≤ w3.heap.size) : ListY enc sz w' b v l :=
  ⟨h, fun hl g hg => (hF hl).elim (fun e => by
      subst e
      obtain ⟨A, c, rfl, _⟩ := h0.1
      obtain ⟨A', c', e2, _⟩ := h
      simp only [Value.slice.injEq] at e2
      exact h0.2 (by omega) g hg) (fun e => Nat.le_trans hb (e g hg))⟩
/-- what the reference's Replay leaves -/
def ReplayRPost (w : World) (k : Int) (l : List EntD) : Ending → World → Prop := fun x w' => ∃ vm vn vl, x = .returned (.tuple #[.agg (nodeC (replayN k l) vm vn vl), .int .i64 (replayErr k l)]) ∧
  ListAt encRun 3 w' vm (replayN k l).map ∧ ListAt encDent 2 w' vn (replayN k l).names ∧ ListAt encInt 1 w' vl (replayN k l).log ∧ Mod None_ w w'
theorem ReplayRPost.bad {w w' : World} {k : Int} {l : List EntD} {c : Int} (h : replayErr k l = c) (hc : c ≠ 0) (hm : Mod None_ w w') : ReplayRPost w k l (.returned (.tuple #[.agg zeroNode, .int .i64 c])) w' := by
  have h2 : replayN k l = zeroN := by unfold replayN; rw [if_neg (by rw [h]; exact hc)]
  unfold ReplayRPost
  rw [h2, h]
  exact ⟨_, _, _, rfl, nilList _ _ _, nilList _ _ _, nilList _ _ _, hm⟩
/-- what holds in its loop: the node at block q says what the entries so far mean -/
def RefI (w : World) (m : Nat) (k : Int) (l : List EntD) (j : Nat) (wr : World) : Prop :=
  ∃ D vm vn vl, playD (zeroD k) (l.take j) = (0, D) ∧ WfD D ∧ lenD D ≤ j ∧ Blk wr m 34 zeroNode ∧ Blk wr (m + 1) 34 (nodeC (nodeOf D j) vm vn vl) ∧
    ListY encRun 3 wr (m + 2) vm (nodeOf D j).map ∧ ListY encDent 2 wr (m + 2) vn (nodeOf D j).names ∧ ListY encInt 1 wr (m + 2) vl (nodeOf D j).log ∧ Mod None_ w wr
set_option maxRecDepth 100000 in
theorem runsT_zero : runsT (fun _ => 0) = [] := by
  unfold runsT
  rw [itemsOf_none (fun x _ => .inl rfl)]
  rfl
set_option maxRecDepth 100000 in
theorem refI_zero {w wr : World} {m : Nat} {k : Int} {l : List EntD} (hk : k = 1 ∨ k = 2) (bo : Blk wr m 34 zeroNode) (bq : Blk wr (m + 1) 34 #[.int .i64 0, .int .i64 k, .int .i64 0, .int .i64 0, .slice none 0 0, .slice none 0 0, .int .i64 0, .int .i64 0, .slice none 0 0, .int .i64 0]) (hM : Mod None_ w wr) : RefI w m k l 0 wr := by
  have hmap : (nodeOf (zeroD k) 0).map = [] := by
    rcases hk with rfl | rfl
    · rw [show zeroD 1 = .file 0 (fun _ => 0) from by simp [zeroD]]
      exact runsT_zero
    · rfl
  have hnam : (nodeOf (zeroD k) 0).names = [] := by
    rcases hk with rfl | rfl
    · rfl
    · exact DirIs.names (R := []) ⟨.refl _, (fun _ h => by cases h), List.Pairwise.nil⟩
  refine ⟨zeroD k, .slice none 0 0, .slice none 0 0, .slice none 0 0, rfl, wf_zero k, by unfold zeroD; split <;> exact Nat.le_refl _, bo, ?_, ?_, ?_, ?_, hM⟩
  · rcases hk with rfl | rfl <;> exact bq
  · rw [hmap]; exact ⟨nilList _ _ _, fun h => by cases h⟩
  · rw [hnam]; exact ⟨nilList _ _ _, fun h => by cases h⟩
  · exact ⟨nilList _ _ _, fun h => by cases h⟩

set_option maxRecDepth 100000 in
set_option maxHeartbeats 4000000 in
theorem refReplay_any (w : World) (k : Int) (v : Value) (l : List EntD) (h : ListAt encEntry 8 w v l) (hl : l.length ≤ 2000) :
    Calls Tryz.prog 13 #[.int .i64 k, v] w (ReplayRPost w k l) := by
  obtain ⟨A, c, rfl, hc1, hc2, hA⟩ := h
  have HA := hide hA
  clear hA
  have hln : ∀ w, (Builtin.len_ #[37] 3 #[.slice A l.length c]).run Tryz.prog w = .ok (.int .i64 l.length) w := fun w => by simp [Builtin.len_, run_underlying Tryz.underlying37]; rfl
  obtain ⟨m, hm⟩ : ∃ m, m = w.heap.size := ⟨_, rfl⟩
  obtain ⟨w0, hw0⟩ : ∃ w0, w0 = w.alloc (.cells zeroNode 34) := ⟨_, rfl⟩
  have hM0 : Mod None_ w w0 := by rw [hw0]; exact (Mod.refl _ w).alloc _
  have bo : Blk w0 m 34 zeroNode := by rw [hw0, hm]; exact Blk.new w 34 _
  have hsz0 : w0.heap.size = m + 1 := by rw [hw0, hm]; simp
  have hem : w.heap.size ≤ m := by omega
  have hem2 : m ≤ w.heap.size := by omega
  have HW0 := hide hw0
  have HMM := hide hm
  have HSZ := hide hsz0
  clear hw0 hm hsz0
  go_enter Tryz.func13, Tryz.ntmps13
  go_upto_region 1 with ((with_reducible refine at_slot 4 ?_); refine wpList_alloc rfl 34 rfl (.agg zeroNode) zeroNodeV ?_; go_frame)
  rw [← HMM.out, show (Value.agg zeroNode).cells = zeroNode from rfl, ← HW0.out]
  clear HMM HW0
  by_cases hk : k = 1 ∨ k = 2
  · have hk2 : (k != 1 && k != 2) = false := by rcases hk with rfl | rfl <;> rfl
    have HK := hide hk
    obtain ⟨w1, hw1⟩ : ∃ w1, w1 = w0.alloc (.cells #[.int .i64 0, .int .i64 k, .int .i64 0, .int .i64 0, .slice none 0 0, .slice none 0 0, .int .i64 0, .int .i64 0, .slice none 0 0, .int .i64 0] 34) := ⟨_, rfl⟩
    have hm1 : Mod None_ w0 w1 := by rw [hw1]; exact (Mod.refl _ w0).alloc _
    have bq : Blk w1 (m + 1) 34 #[.int .i64 0, .int .i64 k, .int .i64 0, .int .i64 0, .slice none 0 0, .slice none 0 0, .int .i64 0, .int .i64 0, .slice none 0 0, .int .i64 0] := by rw [hw1, ← HSZ.out]; exact Blk.new w0 _ _
    have h0 := refI_zero (l := l) hk (bo.mod hm1 id) bq (hM0.trans hm1)
    have HW1 := hide hw1
    clear hw1 hm1 bq bo hM0
    rcases hk with rfl | rfl
    all_goals (
      go_upto_region 4 with fail
      rw [← HW1.out, HSZ.out]
      clear HW1
      go_wp2_with fail
      go_loopw [8, 7] (fun s8 s7 wr => ∃ j : Nat, j ≤ l.length ∧ s8 = .int .i64 j ∧ s7 = .int .i64 0 ∧ RefI w m _ l j wr) (fun s8 _ _ => l.length - (intOf s8).toNat)
      case atStart => exact ⟨0, Nat.zero_le _, rfl, rfl, h0⟩
      obtain ⟨j, hj, rfl, rfl, hR⟩ := hrel
      clear h0
      by_cases hlt : j < l.length
      · have hji : (j : Int) < l.length := by omega
        obtain ⟨D, vm, vn, vl, hpl, hwf, hld, bo, bq, hLm, hLn, hLl, hM⟩ := hR
        obtain ⟨g, o, rfl, hg, hcell⟩ := HA.out (by omega)
        have hc := hcell j hlt
        have htk : l.take (j + 1) = l.take j ++ [l[j]] := List.take_succ_eq_append_getElem hlt
        have hdr : l = l.take (j + 1) ++ l.drop (j + 1) := (List.take_append_drop (j + 1) l).symm
        obtain ⟨x, hx⟩ : ∃ x, x = l[j] := ⟨_, rfl⟩
        rw [← hx] at hc htk
        have hsn := playD_snoc (l.take j) _ D x hpl
        rw [← htk] at hsn
        have HSN := hide hsn
        have HDR := hide hdr
        have HWF := hide hwf
        have hrg : wr.rangeAt g (o + j * 8) (encEntry x) := fun i u h => (World.cell?_of_block (hM.block g hg id)).trans (hc i u h)
        clear hpl hc htk hdr hsn hx hcell hwf
        go_upto_region 8 with fail
        refine region_jxw [(true, 0), (true, 1), (true, 2), (true, 3), (true, 4), (false, 5), (true, 6), (true, 7), (true, 8), (false, 9), (true, 10)] [9] (fun w' => w'.rangeAt g (o + j * 8) (encEntry x)) (fun _ w' => Blk w' (m + 1) 34 (nodeC (nodeOf D j) vm vn vl)) (by kernel_rfl) (by kernel_rfl) ?_
        rintro w3 hw3
        have hm3 : Mod None_ wr w3 := by rw [hw3]; exact (Mod.refl _ wr).drew
        replace bo := bo.mod hm3 id
        replace bq := bq.mod hm3 id
        replace hLm := hLm.mod hm3 (fun g e => e.elim)
        replace hLn := hLn.mod hm3 (fun g e => e.elim)
        replace hLl := hLl.mod hm3 (fun g e => e.elim)
        have hM3 := hM.trans hm3
        have hrg3 : w3.rangeAt g (o + j * 8) (encEntry x) := fun i u h => (World.cell?_of_block (hm3.block g (Nat.lt_of_lt_of_le hg hM.size) id)).trans (hrg i u h)
        clear hw3 hm3 hM hrg
        refine ⟨hrg3, fun _ _ => bq, ?_⟩
        have HIN := hide (infoNode (nodeOf D j) vm vn vl)
        refine jxw_qv rfl rfl [9] (by kernel_rfl) rfl (fun w' hI hR => ex_load rfl (run_loadRow (hR 9 (by simp)) Tryz.underlying34 rfl HIN.out)) ?_
        try go_frame
        iterate 3 (refine jxw_quiet rfl rfl [] (by kernel_rfl) (fun w' i1 i2 K hK => by go_simp; exact hK) ?_; go_frame)
        refine jxw_qv rfl rfl [] (by kernel_rfl) rfl (fun w' hI hR => ex_load rfl (run_loadAt_mid w' g (o + j * 8) 49 (encEntry x) _ hI Tryz.underlying49 rfl (by kernel_rfl))) ?_
        try go_frame
        have HP := hide (refStep_any w3 (nodeOf D j) vm vn vl x ⟨hLm.1, hLn.1, hLl.1, node_ok HWF.out, (node_i64 HWF.out).1, (node_i64 HWF.out).2⟩ (node_small (by omega)) (node_runs HWF.out))
        have bq3 := bq
        refine jxw_loud rfl (fun K hK => ?_)
        go_simp
        refine Calls.mono HP.out ?_
        rintro y w4 ⟨vm1, vn1, vl1, rfl, h1, h2, h3, hm4, hF1, hF2, hF3⟩
        rw [step_err x j HWF.out]
        replace bo := bo.mod hm4 id
        replace bq := bq.mod hm4 id
        have hM4 := hM3.trans hm4
        have hrg4 : w4.rangeAt g (o + j * 8) (encEntry x) := fun i u h => (World.cell?_of_block (hm4.block g (Nat.lt_of_lt_of_le hg hM3.size) id)).trans (hrg3 i u h)
        have hw3s : m + 2 ≤ w3.heap.size := bq3.lt
        have hv1 : vm1.oneCell' = true := by obtain ⟨A, c, rfl, _⟩ := h1; rfl
        have hv2 : vn1.oneCell' = true := by obtain ⟨A, c, rfl, _⟩ := h2; rfl
        have hv3 : vl1.oneCell' = true := by obtain ⟨A, c, rfl, _⟩ := h3; rfl
        obtain ⟨NR, hNR⟩ : ∃ NR, NR = nodeR (nodeOf D j) x := ⟨_, rfl⟩
        rw [← hNR] at h1 h2 h3 hF1 hF2 hF3 ⊢
        obtain ⟨er, her⟩ : ∃ er, er = stepErr D x := ⟨_, rfl⟩
        rw [← her]
        have HNR := hide hNR
        have HER := hide her
        clear hNR her
        refine ⟨_, rfl, ⟨hrg4, fun _ _ _ => bq⟩, hK _ _ ?_⟩
        clear hK K HP
        try go_frame
        iterate 3 (refine jxw_quiet rfl rfl [] (by kernel_rfl) (fun w' i1 i2 K hK => by go_simp; exact hK) ?_; go_frame)
        have HI2 := hide (infoNode NR vm1 vn1 vl1)
        have HO2 := hide (nodeC_one NR vm1 vn1 vl1 hv1 hv2 hv3)
        have hms : Mod (· = m + 1) w4 (w4.setRow (m + 1) (nodeC NR vm1 vn1 vl1)) := (Mod.refl (· = m + 1) w4).setRow (.inr rfl) _
        refine jxw_storeRow rfl rfl 34 (.tmp 6) (.tmp 31) rfl (m + 1) (nodeC NR vm1 vn1 vl1) rfl rfl 34 (nodeC (nodeOf D j) vm vn vl) bq HI2.out rfl HO2.out ⟨fun i u h => (World.cell?_of_block (hms.block g (Nat.lt_of_lt_of_le hg hM4.size) (by omega))).trans (hrg4 i u h), fun d hd hn => absurd (by simp at hd; simp [hd]) hn⟩ ?_
        try go_frame
        refine jxw_quiet rfl rfl [] (by kernel_rfl) (fun w' i1 i2 K hK => by go_simp; exact hK) ?_
        go_frame
        refine jxw_nil ?_
        obtain ⟨w5, hw5⟩ : ∃ w5, w5 = w4.setRow (m + 1) (nodeC NR vm1 vn1 vl1) := ⟨_, rfl⟩
        rw [← hw5] at hms ⊢
        have bq5 : Blk w5 (m + 1) 34 (nodeC NR vm1 vn1 vl1) := by rw [hw5]; exact bq.row _
        have bo5 := bo.mod hms (by omega)
        have hM5 := hM4.trans' hms (fun g hg e => by omega)
        have y1 := (listY_fresh hLm h1 hF1 hw3s).mod hms (fun g e => by omega)
        have y2 := (listY_fresh hLn h2 hF2 hw3s).mod hms (fun g e => by omega)
        have y3 := (listY_fresh hLl h3 hF3 hw3s).mod hms (fun g e => by omega)
        clear hw5 hms bq bo hM4 hM3 hrg3 hrg4 h1 h2 h3 hF1 hF2 hF3 hLm hLn hLl hm4 HI2 HO2 HIN
        by_cases hz : er = 0
        · have hse : stepErr D x = 0 := by rw [← HER.out]; exact hz
          have hnr : NR = nodeOf (onD x D) (j + 1) := by rw [HNR.out]; exact step_node HWF.out hse (by omega)
          have hld2 := lenD_on x D
          rw [hnr] at bq5 y1 y2 y3
          have hnx : RefI w m _ l (j + 1) w5 := ⟨onD x D, vm1, vn1, vl1, by rw [HSN.out, if_pos hse], step_wf HWF.out hse, by omega, bo5, bq5, y1, y2, y3, hM5⟩
          have HNX := hide hnx
          have d6 : (er != 0) = false := by rw [hz]; rfl
          have HZ := hide hz
          clear hnx hse hnr bq5 y1 y2 y3 hM5 bo5 HDR HSN hz
          go_wp2_with fail
          go_roundw
          case rel => exact ⟨j + 1, by omega, by simp, by rw [HZ.out], HNX.out⟩
          case measure => simp [intOf]; omega
        · have hse : stepErr D x = er := HER.out.symm
          have herr : ∀ k, playD (zeroD k) (l.take (j + 1)) = (if stepErr D x = 0 then (0, onD x D) else (stepErr D x, D)) → k = 1 ∨ k = 2 → replayErr k l = er := fun k h hk => by
            unfold replayErr
            rw [if_pos hk, HDR.out]
            have h3 : (playD (zeroD k) (l.take (j + 1))).1 = er := by rw [h, if_neg (by rw [hse]; exact hz)]; exact hse
            rw [playD_stop _ _ _ (by rw [h3]; exact hz)]
            exact h3
          have hmr : Mod (· = m) w5 (w5.setRow m zeroNode) := (Mod.refl (· = m) w5).setRow (.inr rfl) _
          have HF := hide (ReplayRPost.bad (herr _ HSN.out (by first | exact Or.inl rfl | exact Or.inr rfl)) hz (hM5.trans' hmr (fun g hg e => by omega)))
          have HB := hide (bo5.row zeroNode)
          have d6 : (er != 0) = true := by simpa using hz
          clear hmr herr hse bq5 y1 y2 y3 hM5 HDR HSN hz HA
          go_wp2_with (first
            | ((with_reducible refine at_slot 35 ?_); refine wpList_val rfl (ex_build (ps := []) rfl (run_build31 _)) ?_; go_frame)
            | ((with_reducible refine at_none 34 4 35 ?_); refine wpList_store_row rfl 34 (.tmp 4) (.tmp 35) rfl m zeroNode rfl rfl 34 zeroNode bo5 infoZero rfl oneZero ?_; go_frame))
          have hl := run_loadVar_row (P := Tryz.prog) _ m 34 34 _ (0, 0) _ HB.out Tryz.underlying34 rfl infoZero
          exact ⟨rfl, .tuple #[.agg zeroNode, .int .i64 er], by simp [results, Tryz.results13, asAddr, hl], HF.out⟩
      · obtain rfl : j = l.length := by omega
        have hji : ¬ (l.length : Int) < l.length := by omega
        obtain ⟨D, vm, vn, vl, hpl, hwf, hld, bo, bq, hLm, hLn, hLl, hM⟩ := hR
        rw [List.take_length] at hpl
        have hfin0 : ∀ k, playD (zeroD k) l = (0, D) → k = 1 ∨ k = 2 → replayErr k l = 0 ∧ replayN k l = nodeOf D l.length := fun k h hk => by
          have h1 : replayErr k l = 0 := by unfold replayErr; rw [if_pos hk, h]
          refine ⟨h1, ?_⟩
          unfold replayN
          rw [if_pos h1, h]
          rfl
        obtain ⟨e1, e2⟩ := hfin0 _ hpl (by first | exact Or.inl rfl | exact Or.inr rfl)
        have hv1 : vm.oneCell' = true := by obtain ⟨A, c, rfl, _⟩ := hLm.1; rfl
        have hv2 : vn.oneCell' = true := by obtain ⟨A, c, rfl, _⟩ := hLn.1; rfl
        have hv3 : vl.oneCell' = true := by obtain ⟨A, c, rfl, _⟩ := hLl.1; rfl
        obtain ⟨N, hN⟩ : ∃ N, N = nodeOf D l.length := ⟨_, rfl⟩
        rw [← hN] at e2 bq hLm hLn hLl
        have hmr : Mod (· = m) wr (wr.setRow m (nodeC N vm vn vl)) := (Mod.refl (· = m) wr).setRow (.inr rfl) _
        have hfin : ∀ k, replayErr k l = 0 → replayN k l = N → ReplayRPost w k l (.returned (.tuple #[.agg (nodeC N vm vn vl), .int .i64 0])) (wr.setRow m (nodeC N vm vn vl)) := fun k e1 e2 => by
          refine ⟨vm, vn, vl, by rw [e1, e2], by rw [e2]; exact (hLm.mod hmr (fun g e => by omega)).1, by rw [e2]; exact (hLn.mod hmr (fun g e => by omega)).1, by rw [e2]; exact (hLl.mod hmr (fun g e => by omega)).1, hM.trans' hmr (fun g hg e => by omega)⟩
        have HF := hide (hfin _ e1 e2)
        have HB := hide (bo.row (nodeC N vm vn vl))
        have HI2 := hide (infoNode N vm vn vl)
        have HO2 := hide (nodeC_one N vm vn vl hv1 hv2 hv3)
        clear hfin hmr hN e1 e2 hLm hLn hLl hM hpl hwf hfin0 HA
        go_wp2_with (first
          | ((with_reducible refine at_slot 37 ?_); refine wpList_val rfl (ex_load rfl (run_loadRow bq Tryz.underlying34 rfl HI2.out)) ?_; go_frame)
          | ((with_reducible refine at_none 34 4 37 ?_); refine wpList_store_row rfl 34 (.tmp 4) (.tmp 37) rfl m (nodeC N vm vn vl) rfl rfl 34 zeroNode bo HI2.out rfl HO2.out ?_; go_frame))
        have hl := run_loadVar_row (P := Tryz.prog) _ m 34 34 _ (0, 0) _ HB.out Tryz.underlying34 rfl HI2.out
        exact ⟨rfl, .tuple #[.agg (nodeC N vm vn vl), .int .i64 0], by simp [results, Tryz.results13, asAddr, hl], HF.out⟩)
  · have hk1 : ¬ k = 1 := fun e => hk (.inl e)
    have hk2 : ¬ k = 2 := fun e => hk (.inr e)
    have k1 : (k != 1) = true := by simpa using hk1
    have k2 : (k != 2) = true := by simpa using hk2
    have k3 : (k == 1) = false := by simpa using hk1
    have k4 : (k == 2) = false := by simpa using hk2
    have hmr : Mod (· = m) w0 (w0.setRow m zeroNode) := (Mod.refl (· = m) w0).setRow (.inr rfl) _
    have HF := hide (ReplayRPost.bad (k := k) (l := l) (c := 90) (by unfold replayErr; rw [if_neg hk]) (by decide) (hM0.trans' hmr (fun g hg e => by omega)))
    have HB := hide (bo.row zeroNode)
    clear hmr hM0 hk HSZ HA
    go_wp2_with (first
      | ((with_reducible refine at_slot 15 ?_); refine wpList_val rfl (ex_build (ps := []) rfl (run_build31 _)) ?_; go_frame)
      | ((with_reducible refine at_none 34 4 15 ?_); refine wpList_store_row rfl 34 (.tmp 4) (.tmp 15) rfl m zeroNode rfl rfl 34 zeroNode bo infoZero rfl oneZero ?_; go_frame))
    have hl := run_loadVar_row (P := Tryz.prog) _ m 34 34 _ (0, 0) _ HB.out Tryz.underlying34 rfl infoZero
    exact ⟨rfl, .tuple #[.agg zeroNode, .int .i64 90], by simp [results, Tryz.results13, asAddr, hl], HF.out⟩
end Go.Proofs.YtabebkffcmajkaaGreatDoor

/-! Law walks: copyEntries. -/
namespace Go.Proofs.YtabebkffcmajkaaGreatDoor
open Go.RowKit Go.Maps Go.Shelf
attribute [local go_sem] quietV loudUpon Oper.semAt_some

theorem oneEntryL : ∀ (e : EntD), ∀ u ∈ encEntry e, u.oneCell' = true := by
  intro e u hu
  simp only [encEntry, List.mem_cons, List.not_mem_nil, or_false] at hu
  rcases hu with rfl | rfl | rfl | rfl | rfl | rfl | rfl | rfl <;> rfl
set_option maxRecDepth 100000 in
set_option maxHeartbeats 1000000 in
theorem copyEntries_any (w : World) (v : Value) (l : List EntD) (h : ListAt encEntry 8 w v l) (hl : l.length ≤ 1000000000) : Calls Tryz.prog 12 #[v] w fun e w' => ∃ v', e = .returned v' ∧ w'.ownsRow w.heap.size 49 8 v' l.length (rowOf encEntry l) ∧ Mod None_ w w' := by
  obtain ⟨A, c, rfl, hc1, hc2, hA⟩ := id h
  obtain ⟨ii, hii, hzi, hsi, hbi⟩ := info_parts infoEntry
  have HRD := hide (ListAt.reads (enc := encEntry) (sz := 8) (fun _ => rfl) (by omega) h)
  clear hA h
  have hlt : w.heap.size ≤ w.heap.size := Nat.le_refl _
  go_enter Tryz.func12, Tryz.ntmps12
  go_wp2_with ((with_reducible refine at_slot 6 ?_); refine wpList_append_any _ rfl (.tmp 4) (.tmp 5) 37 rfl w.heap.size 49 ii _ 8 72 Tryz.underlying37 hii hzi hsi hbi rfl (by omega) (.slice none 0 0) 0 [] rfl ⟨rfl, .inl ⟨rfl, rfl⟩⟩ w.heap.size A l.length c _ rfl HRD.out (rowOf_one oneEntryL l) (by unfold maxLen; omega) (by omega) hlt ?_; intro v' w' hown' hg' hat'; go_frame)
  rw [Nat.zero_add, List.nil_append] at hown'
  have hM : Mod None_ w w' := (Mod.of_grown hg').mono (fun k _ e => by cases e)
  have HF := hide (And.intro hown' hM)
  clear hown' hM hg' hat'
  go_ret
  exact ⟨_, rfl, HF.out⟩
end Go.Proofs.YtabebkffcmajkaaGreatDoor

/-! Reference walk: Apply, once more: whether the lists are handed on. -/
namespace Go.Proofs.YtabebkffcmajkaaGreatDoor
open Go.RowKit Go.Maps Go.Shelf
attribute [local go_sem] quietV loudUpon Oper.semAt_some

def ApplyFPost (w : World) (n : NodeD) (vm0 vn0 vl0 : Value) (e : EntD) : Ending → World → Prop := fun x w' => ∃ vm vn vl, x = .returned (.tuple #[.agg (nodeC (nodeA n e) vm vn vl), .int .i64 (errA n e)]) ∧
  ListAt encRun 3 w' vm (nodeA n e).map ∧ ListAt encDent 2 w' vn (nodeA n e).names ∧ ListAt encInt 1 w' vl (nodeA n e).log ∧ Mod None_ w w' ∧ Fresh w vm0 vm (nodeA n e).map.length ∧ Fresh w vn0 vn (nodeA n e).names.length ∧ Fresh w vl0 vl (nodeA n e).log.length
theorem ApplyFPost.bad {w w' : World} {n : NodeD} {vm0 vn0 vl0 : Value} {e : EntD} {k : Int} (h : nodeGood n = false) (hk : errA n e = k) (hm : Mod None_ w w') : ApplyFPost w n vm0 vn0 vl0 e (.returned (.tuple #[.agg zeroNode, .int .i64 k])) w' := by
  have h2 : nodeA n e = zeroN := by unfold nodeA; rw [h]; rfl
  unfold ApplyFPost
  rw [h2, hk]
  exact ⟨_, _, _, rfl, nilList _ _ _, nilList _ _ _, nilList _ _ _, hm, (fun h => by cases h), (fun h => by cases h), (fun h => by cases h)⟩
theorem Fresh.up {w w1 : World} {v0 v : Value} {k : Nat} (h : Fresh w1 v0 v k) (hs : w.heap.size ≤ w1.heap.size) : Fresh w v0 v k := fun h0 => (h h0).imp id fun h1 g hg => Nat.le_trans hs (h1 g hg)

set_option maxRecDepth 100000 in
set_option maxHeartbeats 4000000 in
theorem refApply_fresh (w : World) (n : NodeD) (vm vn vl : Value) (e : EntD) (h : NodeIn w n vm vn vl) (hs : smallB n = true) :
    Calls Tryz.prog 9 #[.agg (nodeC n vm vn vl), .agg (encEntry e).toArray] w (ApplyFPost w n vm vn vl e) := by
  obtain ⟨m, hm⟩ : ∃ m, m = w.heap.size := ⟨_, rfl⟩
  obtain ⟨w0, hw0⟩ : ∃ w0, w0 = ((w.alloc (.cells (nodeC n vm vn vl) 34)).alloc (.cells (encEntry e).toArray 49)).alloc (.cells zeroNode 34) := ⟨_, rfl⟩
  have hM0 : Mod None_ w w0 := by rw [hw0]; exact (((Mod.refl _ w).alloc _).alloc _).alloc _
  have bn : Blk w0 m 34 (nodeC n vm vn vl) := by rw [hw0, hm]; exact ((Blk.new w 34 _).alloc _).alloc _
  have be : Blk w0 (m + 1) 49 (encEntry e).toArray := by
    have := (Blk.new (w.alloc (.cells (nodeC n vm vn vl) 34)) 49 (encEntry e).toArray).alloc (.cells zeroNode 34)
    rw [← hw0, alloc_size, ← hm] at this
    exact this
  have bo : Blk w0 (m + 2) 34 zeroNode := by
    have := Blk.new ((w.alloc (.cells (nodeC n vm vn vl) 34)).alloc (.cells (encEntry e).toArray 49)) 34 zeroNode
    rw [← hw0, alloc_size, alloc_size, ← hm] at this
    exact this
  have hem : w.heap.size ≤ m := by omega
  have hN0 := h.kept hM0
  have HG := hide (refGood_any w0 n vm vn vl (hN0.at_ hs))
  have HIE := hide (infoEnt e)
  have HIN := hide (infoNode n vm vn vl)
  have HW0 := hide hw0
  have HMM := hide hm
  have HH := hide h
  clear hw0 hm h hN0
  have hwm := bo.lt
  go_enter Tryz.func9, Tryz.ntmps9
  go_upto_region 1 with ((with_reducible refine at_slot 4 ?_); refine wpList_alloc rfl 34 rfl (.agg zeroNode) zeroNodeV ?_; go_frame)
  simp only [alloc_size]
  rw [← HMM.out, show (Value.agg zeroNode).cells = zeroNode from rfl, show m + 1 + 1 = m + 2 from rfl, ← HW0.out]
  clear HMM HW0
  go_wp2_with ((with_reducible refine at_slot 8 ?_); refine wpList_val rfl (ex_load rfl (run_loadRow bn Tryz.underlying34 rfl HIN.out)) ?_; go_frame)
  refine HG.out.mono ?_
  rintro x w1 ⟨rfl, hm1⟩
  replace be := be.mod hm1 id
  replace bn := bn.mod hm1 id
  replace bo := bo.mod hm1 id
  have hM1 := hM0.trans hm1
  have hw01 := hm1.size
  clear hm1 hM0 HG
  cases hgn : nodeGood n with
  | false =>
    have c1 : w1.cell? ⟨m + 1, 1, none⟩ = some (.int .u64 e.seq) := be.cell 1
    have f1 : w1.frozen? ⟨m + 1, 1, none⟩ = false := be.frozen _
    clear bn HH
    go_upto_region 4 with fail
    obtain ⟨w2, hw2⟩ : ∃ w2, w2 = w1.setCell ⟨m + 1, 1, none⟩ (.int .u64 1) := ⟨_, rfl⟩
    rw [← hw2]
    have hm2 : Mod (· = m + 1) w1 w2 := by rw [hw2]; exact (Mod.refl (· = m + 1) w1).setCell (p := ⟨m + 1, 1, none⟩) (.inr rfl) _
    replace be : Blk w2 (m + 1) 49 (encEntry (one e)).toArray := by rw [hw2]; exact be.set_ 1 (.int .u64 1)
    replace bo := bo.mod hm2 (by omega)
    have hM2 : Mod None_ w w2 := hM1.trans' hm2 (fun g hg e => by omega)
    clear hw2 hm2 hM1 c1 f1 HIE
    have HIE := hide (infoEnt (one e))
    go_wp2_with ((with_reducible refine at_slot 13 ?_); refine wpList_val rfl (ex_load rfl (run_loadRow be Tryz.underlying49 rfl HIE.out)) ?_; go_frame)
    refine (refGoodEntry_any w2 (one e) (by show (0 : Int) ≤ 1; omega)).mono ?_
    rintro x w3 ⟨rfl, hm3⟩
    replace bo := bo.mod hm3 id
    have hM3 := hM2.trans hm3
    have hmr : Mod (· = m + 2) w3 (w3.setRow (m + 2) zeroNode) := (Mod.refl (· = m + 2) w3).setRow (.inr rfl) _
    have hMr := hM3.trans' hmr (fun g hg e => by omega)
    have HB := hide (bo.row zeroNode)
    clear hm3 hM3 hM2 hmr be HIE
    cases hg : goodEnt (one e) with
    | false =>
      have HF := hide (ApplyFPost.bad (n := n) (vm0 := vm) (vn0 := vn) (vl0 := vl) (e := e) (k := 34) hgn (by unfold errA; rw [hgn, if_neg (by decide), if_pos hg]) hMr)
      clear hgn hg hMr
      go_wp2_with (first
        | ((with_reducible refine at_slot 17 ?_); refine wpList_val rfl (ex_build (ps := []) rfl (run_build31 _)) ?_; go_frame)
        | ((with_reducible refine at_none 34 4 17 ?_); refine wpList_store_row rfl 34 (.tmp 4) (.tmp 17) rfl (m + 2) zeroNode rfl rfl 34 zeroNode bo infoZero rfl oneZero ?_; go_frame))
      have hl := run_loadVar_row (P := Tryz.prog) _ (m + 2) 34 34 _ (0, 0) _ HB.out Tryz.underlying34 rfl infoZero
      exact ⟨rfl, .tuple #[.agg zeroNode, .int .i64 34], by simp [results, Tryz.results9, asAddr, hl], HF.out⟩
    | true =>
      have HF := hide (ApplyFPost.bad (n := n) (vm0 := vm) (vn0 := vn) (vl0 := vl) (e := e) (k := 90) hgn (by unfold errA; rw [hgn, if_neg (by decide), if_neg (by rw [hg]; decide)]) hMr)
      clear hgn hg hMr
      go_wp2_with (first
        | ((with_reducible refine at_slot 18 ?_); refine wpList_val rfl (ex_build (ps := []) rfl (run_build31 _)) ?_; go_frame)
        | ((with_reducible refine at_none 34 4 18 ?_); refine wpList_store_row rfl 34 (.tmp 4) (.tmp 18) rfl (m + 2) zeroNode rfl rfl 34 zeroNode bo infoZero rfl oneZero ?_; go_frame))
      have hl := run_loadVar_row (P := Tryz.prog) _ (m + 2) 34 34 _ (0, 0) _ HB.out Tryz.underlying34 rfl infoZero
      exact ⟨rfl, .tuple #[.agg zeroNode, .int .i64 90], by simp [results, Tryz.results9, asAddr, hl], HF.out⟩
  | true =>
    have HP := hide (refStep_any w1 n vm vn vl e (HH.out.kept hM1) hs (runs_of_good hgn))
    have hna : nodeA n e = nodeR n e := by unfold nodeA; rw [if_pos hgn]
    have hea : errA n e = errR n e := by unfold errA; rw [if_pos hgn]
    have HNA := hide hna
    have HEA := hide hea
    clear hgn hna hea
    go_wp2_with (first
      | ((with_reducible refine at_slot 19 ?_); refine wpList_val rfl (ex_load rfl (run_loadRow bn Tryz.underlying34 rfl HIN.out)) ?_; go_frame)
      | ((with_reducible refine at_slot 20 ?_); refine wpList_val rfl (ex_load rfl (run_loadRow be Tryz.underlying49 rfl HIE.out)) ?_; go_frame))
    refine HP.out.mono ?_
    rintro x w2 ⟨vm1, vn1, vl1, rfl, hLm, hLn, hLl, hm2, hFm, hFn, hFl⟩
    replace bo := bo.mod hm2 id
    have hM2 := hM1.trans hm2
    have hvm1 : vm1.oneCell' = true := by obtain ⟨A, c, rfl, _⟩ := hLm; rfl
    have hvn1 : vn1.oneCell' = true := by obtain ⟨A, c, rfl, _⟩ := hLn; rfl
    have hvl1 : vl1.oneCell' = true := by obtain ⟨A, c, rfl, _⟩ := hLl; rfl
    obtain ⟨N, hN⟩ : ∃ N, N = nodeR n e := ⟨_, rfl⟩
    obtain ⟨k, hk⟩ : ∃ k, k = errR n e := ⟨_, rfl⟩
    rw [← hN] at hLm hLn hLl hFm hFn hFl HNA ⊢
    rw [← hk] at HEA ⊢
    have hmr : Mod (· = m + 2) w2 (w2.setRow (m + 2) (nodeC N vm1 vn1 vl1)) := (Mod.refl (· = m + 2) w2).setRow (.inr rfl) _
    have hm2s := bo.lt
    have hfin : ApplyFPost w n vm vn vl e (.returned (.tuple #[.agg (nodeC N vm1 vn1 vl1), .int .i64 k])) (w2.setRow (m + 2) (nodeC N vm1 vn1 vl1)) := by
      unfold ApplyFPost
      rw [HNA.out, HEA.out]
      refine ⟨vm1, vn1, vl1, rfl, hLm.modX hmr ?_, hLn.modX hmr ?_, hLl.modX hmr ?_, hM2.trans' hmr (fun g hg e => by omega), hFm.up hM1.size, hFn.up hM1.size, hFl.up hM1.size⟩
      · intro h0 g hg e
        rcases hFm h0 with h | h
        · subst h; have := old_block HH.out.map hLm h0 hg; omega
        · have := h g hg; omega
      · intro h0 g hg e
        rcases hFn h0 with h | h
        · subst h; have := old_block HH.out.names hLn h0 hg; omega
        · have := h g hg; omega
      · intro h0 g hg e
        rcases hFl h0 with h | h
        · subst h; have := old_block HH.out.log hLl h0 hg; omega
        · have := h g hg; omega
    have HF := hide hfin
    have HB := hide (bo.row (nodeC N vm1 vn1 vl1))
    have HI2 := hide (infoNode N vm1 vn1 vl1)
    have HO2 := hide (nodeC_one N vm1 vn1 vl1 hvm1 hvn1 hvl1)
    clear hfin hmr hN hk hLm hLn hLl hFm hFn hFl HNA HEA HP HH hm2 hM2 hM1 be bn HIE
    go_wp2_with ((with_reducible refine at_none 34 4 22 ?_); refine wpList_store_row rfl 34 (.tmp 4) (.tmp 22) rfl (m + 2) (nodeC N vm1 vn1 vl1) rfl rfl 34 zeroNode bo HI2.out rfl HO2.out ?_; go_frame)
    have hl := run_loadVar_row (P := Tryz.prog) _ (m + 2) 34 34 _ (0, 0) _ HB.out Tryz.underlying34 rfl HI2.out
    exact ⟨rfl, .tuple #[.agg (nodeC N vm1 vn1 vl1), .int .i64 k], by simp [results, Tryz.results9, asAddr, hl], HF.out⟩
end Go.Proofs.YtabebkffcmajkaaGreatDoor

/-! Plain law: what Apply gives is a node whose numbers are small. -/
namespace Go.Proofs.YtabebkffcmajkaaGreatDoor
open Go.RowKit Go.Maps Go.Shelf

theorem fold_page : ∀ (l : List RunD) (f : Nat → Int), (∀ r ∈ l, refRun r = true) → PageF f → PageF (l.foldl setRun f)
  | [], _, _, h => h
  | r :: l, f, hl, h => fold_page l _ (fun x hx => hl x (by simp [hx])) fun x => by
    have hr := hl r (by simp)
    rw [setRun_at f hr]
    rw [refRun_iff] at hr
    split
    · right; omega
    · exact h x
theorem table_page {l : List RunD} (h : ∀ r ∈ l, refRun r = true) : PageF (tableOf l) := fold_page l _ h fun _ => .inl rfl
theorem apply_parts {n : NodeD} {e : EntD} (h : applyErr n e = 0) : goodEnt (one e) = true ∧ nodeGood n = true ∧ onOk e (senseD n) = true := by
  unfold applyErr at h
  by_cases hg : goodEnt (one e) = true
  · by_cases hn : nodeGood n = true
    · by_cases ho : onOk e (senseD n) = true
      · exact ⟨hg, hn, ho⟩
      · rw [if_neg (by rw [hg]; decide), if_neg (by rw [hn]; decide), if_pos (by simpa using ho)] at h; omega
    · rw [if_neg (by rw [hg]; decide), if_pos (by simpa using hn)] at h; omega
  · rw [if_pos (by simpa using hg)] at h; omega
theorem i64_small {x : Int} (h0 : 0 ≤ x) (h1 : x ≤ 1000000) : I64 x := ⟨by omega, by omega⟩
set_option maxRecDepth 100000 in
theorem apply_facts (n : NodeD) (e : EntD) : (∀ r ∈ (applyN n e).map, r.Ok) ∧ I64 (applyN n e).kind ∧ I64 (applyN n e).size := by
  unfold applyN
  by_cases h : applyErr n e = 0
  · rw [if_pos h]
    obtain ⟨hg, hn, ho⟩ := apply_parts h
    by_cases h1 : n.kind = 1
    · rw [show senseD n = .file n.size (tableOf n.map) from by unfold senseD; rw [if_pos h1]]
      have hr := runs_of_good hn h1
      have hp := next_page hg (table_page hr)
      have hz := (goodE_of hg).size
      refine ⟨fun r hm => ?_, i64_small (by show (0 : Int) ≤ 1; omega) (by show (1 : Int) ≤ 1000000; omega), i64_small hz.1 (by show e.size ≤ 1000000; omega)⟩
      have hm2 : r ∈ runsT (nextF e (tableOf n.map)) := hm
      have := (refRun_iff r).1 (runs_good hp r hm2)
      exact ⟨i64_small (by omega) (by omega), i64_small (by omega) (by omega), i64_small (by omega) (by omega)⟩
    · obtain ⟨_, _, _, R, hs, hd⟩ := dir_of_good hn h1
      rw [hs] at ho ⊢
      obtain ⟨R', hR, _⟩ := dir_next hd hg ho
      rw [hR]
      exact ⟨(fun r hm => by cases hm), i64_small (by show (0 : Int) ≤ 2; omega) (by show (2 : Int) ≤ 1000000; omega), i64_small (Int.le_refl _) (by show (0 : Int) ≤ 1000000; omega)⟩
  · rw [if_neg h]
    exact ⟨(fun r hm => by cases hm), i64_small (Int.le_refl _) (by show (0 : Int) ≤ 1000000; omega), i64_small (Int.le_refl _) (by show (0 : Int) ≤ 1000000; omega)⟩
end Go.Proofs.YtabebkffcmajkaaGreatDoor

/-! copyNode of a node that is not small. -/
namespace Go.Proofs.YtabebkffcmajkaaGreatDoor
open Go.RowKit Go.Maps Go.Shelf
attribute [local go_sem] quietV loudUpon Oper.semAt_some

def MidN (n : NodeD) : Prop := n.map.length ≤ 100000 ∧ (n.names.length ≤ 100000 ∧ n.log.length ≤ 100000)
set_option maxRecDepth 100000 in
set_option maxHeartbeats 1000000 in
theorem lawCopyM (w : World) (n : NodeD) (vm vn vl : Value) (h : NodeIn w n vm vn vl) (hs : MidN n) : Calls Tryz.prog 7 #[.agg (nodeC n vm vn vl)] w (CopyPost w n) := by
  unfold MidN at hs
  obtain ⟨hs1, hs2, hs3⟩ := hs
  obtain ⟨Am, cm, rfl, hcm1, hcm2, _⟩ := h.map
  obtain ⟨An, cn, rfl, hcn1, hcn2, _⟩ := h.names
  obtain ⟨Al, cl, rfl, hcl1, hcl2, _⟩ := h.log
  obtain ⟨im, him, hzm, hsm, hbm⟩ := info_parts infoRun
  obtain ⟨id_, hid, hzd, hsd, hbd⟩ := info_parts info36
  obtain ⟨ii, hii, hzi, hsi, hbi⟩ := info_parts infoInt
  have HN := hide h
  clear h
  unfold nodeC
  go_enter Tryz.func7, Tryz.ntmps7
  obtain ⟨m, hm⟩ : ∃ m, m = w.heap.size := ⟨_, rfl⟩
  obtain ⟨z, hz⟩ : ∃ z : Array Value, z = zeroNode := ⟨_, rfl⟩
  obtain ⟨w1, hw1⟩ : ∃ w1, w1 = (w.alloc (.cells (nodeC n (.slice Am n.map.length cm) (.slice An n.names.length cn) (.slice Al n.log.length cl)) 34)).alloc (.cells z 34) := ⟨_, rfl⟩
  have hM : Mod None_ w w1 := by rw [hw1]; exact ((Mod.refl _ w).alloc _).alloc _
  have b1 : Blk w1 m 34 (nodeC n (.slice Am n.map.length cm) (.slice An n.names.length cn) (.slice Al n.log.length cl)) := by rw [hw1, hm]; exact (Blk.new w 34 _).alloc _
  have b2 : Blk w1 (m + 1) 34 zeroNode := by
    have := Blk.new (w.alloc (.cells (nodeC n (.slice Am n.map.length cm) (.slice An n.names.length cn) (.slice Al n.log.length cl)) 34)) 34 z
    rw [← hw1, alloc_size, ← hm, hz] at this
    exact this
  have hb2 := b2.lt
  have hgem : w.heap.size ≤ m := by omega
  have hgem2 : m ≤ w.heap.size := by omega
  rw [hz] at hw1
  unfold nodeC zeroNode at hw1
  have HW1 := hide hw1
  have HMM := hide hm
  clear hw1 hm
  go_upto_region 4 with fail
  rw [← HMM.out, ← HW1.out]
  clear HMM HW1
  have hle0 : w1.heap.size ≤ w1.heap.size := Nat.le_refl _
  have c4 : w1.cell? ⟨m, 4, none⟩ = some (.slice Am n.map.length cm) := b1.cell 4
  have HR0 := hide (ListAt.reads (enc := encRun) (fun _ => rfl) (by decide) (HN.out.kept hM).map)
  go_upto_region 5 with ((with_reducible refine at_slot 9 ?_); refine wpList_append_any _ rfl (.tmp 6) (.tmp 8) 30 rfl w1.heap.size 73 im _ 3 24 Tryz.underlying30 him hzm hsm hbm rfl (by decide) (.slice none 0 0) 0 [] rfl ⟨rfl, .inl ⟨rfl, rfl⟩⟩ w1.heap.size Am n.map.length cm (rowOf encRun n.map) rfl HR0.out (rowOf_one oneRun n.map) (by unfold maxLen; omega) (by omega) hle0 ?_; intro v9 w9 hown9 hg9 hat9
                         rw [Nat.zero_add, List.nil_append] at hown9
                         have hmx : Mod None_ w1 w9 := (Mod.of_grown hg9).mono (fun _ _ e => by cases e)
                         have b9 := b1.mod hmx id
                         have c9 : w9.cell? ⟨m, 4, none⟩ = some (.slice Am n.map.length cm) := b9.cell 4
                         have f9 : w9.frozen? ⟨m, 4, none⟩ = false := b9.frozen _
                         obtain ⟨A90, k90, rfl⟩ := own_slice hown9
                         have HG0 := hide hg9
                         have HA0 := hide hat9
                         clear hg9 hat9
                         go_frame)
  obtain ⟨w20, hw20⟩ : ∃ x, x = w9.setCell ⟨m, 4, none⟩ (.slice A90 n.map.length k90) := ⟨_, rfl⟩
  rw [← hw20]
  have hms0 : Mod (· = m) w9 w20 := by rw [hw20]; exact (Mod.refl (· = m) w9).setCell (p := ⟨m, 4, none⟩) (.inr rfl) _
  have b20 : Blk w20 m 34 (nodeC n (.slice A90 n.map.length k90) (.slice An n.names.length cn) (.slice Al n.log.length cl)) := by
    have := b9.set_ 4 (.slice A90 n.map.length k90)
    rw [← hw20] at this
    exact this
  have hM1 : Mod None_ w w20 := (hM.trans hmx).trans' hms0 (fun g hg e => by omega)
  have hown20 := own_mod hown9 hms0 (fun g hg e => by have := (own_blk hown9 hg).1; omega)
  have hsz1 : w1.heap.size ≤ w20.heap.size := Nat.le_trans hle0 (Nat.le_trans hmx.size hms0.size)
  have hz0 := (b2.mod hmx id).mod hms0 (by omega)
  have b2 := hz0
  clear hw20 hms0 b9 c9 f9 hown9 hmx c4 HR0 HG0 HA0 hle0 b1
  have hle1 : w1.heap.size ≤ w20.heap.size := hsz1
  have c5 : w20.cell? ⟨m, 5, none⟩ = some (.slice An n.names.length cn) := b20.cell 5
  have HR1 := hide (ListAt.reads (enc := encDent) (fun _ => rfl) (by decide) (HN.out.kept hM1).names)
  go_upto_region 6 with ((with_reducible refine at_slot 14 ?_); refine wpList_append_any _ rfl (.tmp 11) (.tmp 13) 31 rfl w1.heap.size 75 id_ _ 2 24 Tryz.underlying31 hid hzd hsd hbd rfl (by decide) (.slice none 0 0) 0 [] rfl ⟨rfl, .inl ⟨rfl, rfl⟩⟩ w20.heap.size An n.names.length cn (rowOf encDent n.names) rfl HR1.out (rowOf_one oneDent n.names) (by unfold maxLen; omega) (by omega) hle1 ?_; intro v9 w9 hown9 hg9 hat9
                         rw [Nat.zero_add, List.nil_append] at hown9
                         have hmx : Mod None_ w20 w9 := (Mod.of_grown hg9).mono (fun _ _ e => by cases e)
                         have b9 := b20.mod hmx id
                         have c9 : w9.cell? ⟨m, 5, none⟩ = some (.slice An n.names.length cn) := b9.cell 5
                         have f9 : w9.frozen? ⟨m, 5, none⟩ = false := b9.frozen _
                         obtain ⟨A91, k91, rfl⟩ := own_slice hown9
                         have HG1 := hide hg9
                         have HA1 := hide hat9
                         clear hg9 hat9
                         go_frame)
  obtain ⟨w21, hw21⟩ : ∃ x, x = w9.setCell ⟨m, 5, none⟩ (.slice A91 n.names.length k91) := ⟨_, rfl⟩
  rw [← hw21]
  have hms1 : Mod (· = m) w9 w21 := by rw [hw21]; exact (Mod.refl (· = m) w9).setCell (p := ⟨m, 5, none⟩) (.inr rfl) _
  have b21 : Blk w21 m 34 (nodeC n (.slice A90 n.map.length k90) (.slice A91 n.names.length k91) (.slice Al n.log.length cl)) := by
    have := b9.set_ 5 (.slice A91 n.names.length k91)
    rw [← hw21] at this
    exact this
  have hM2 : Mod None_ w w21 := (hM1.trans hmx).trans' hms1 (fun g hg e => by omega)
  have hown21 := own_mod hown9 hms1 (fun g hg e => by have := (own_blk hown9 hg).1; omega)
  have hsz2 : w1.heap.size ≤ w21.heap.size := Nat.le_trans hle1 (Nat.le_trans hmx.size hms1.size)
  have hown20 := own_mod (own_mod hown20 hmx (fun _ _ f => f)) hms1 (fun g hg e => by have := (own_blk hown20 hg).1; omega)
  have hz1 := (b2.mod hmx id).mod hms1 (by omega)
  have b2 := hz1
  clear hw21 hms1 b9 c9 f9 hown9 hmx c5 HR1 HG1 HA1 hle1 b20
  have hle2 : w1.heap.size ≤ w21.heap.size := hsz2
  have c8 : w21.cell? ⟨m, 8, none⟩ = some (.slice Al n.log.length cl) := b21.cell 8
  have HR2 := hide (ListAt.reads (enc := encInt) (fun _ => rfl) (by decide) (HN.out.kept hM2).log)
  go_upto_region 7 with ((with_reducible refine at_slot 19 ?_); refine wpList_append_any _ rfl (.tmp 16) (.tmp 18) 32 rfl w1.heap.size 3 ii _ 1 8 Tryz.underlying32 hii hzi hsi hbi rfl (by decide) (.slice none 0 0) 0 [] rfl ⟨rfl, .inl ⟨rfl, rfl⟩⟩ w21.heap.size Al n.log.length cl (rowOf encInt n.log) rfl HR2.out (rowOf_one oneInt n.log) (by unfold maxLen; omega) (by omega) hle2 ?_; intro v9 w9 hown9 hg9 hat9
                         rw [Nat.zero_add, List.nil_append] at hown9
                         have hmx : Mod None_ w21 w9 := (Mod.of_grown hg9).mono (fun _ _ e => by cases e)
                         have b9 := b21.mod hmx id
                         have c9 : w9.cell? ⟨m, 8, none⟩ = some (.slice Al n.log.length cl) := b9.cell 8
                         have f9 : w9.frozen? ⟨m, 8, none⟩ = false := b9.frozen _
                         obtain ⟨A92, k92, rfl⟩ := own_slice hown9
                         have HG2 := hide hg9
                         have HA2 := hide hat9
                         clear hg9 hat9
                         go_frame)
  obtain ⟨w22, hw22⟩ : ∃ x, x = w9.setCell ⟨m, 8, none⟩ (.slice A92 n.log.length k92) := ⟨_, rfl⟩
  rw [← hw22]
  have hms2 : Mod (· = m) w9 w22 := by rw [hw22]; exact (Mod.refl (· = m) w9).setCell (p := ⟨m, 8, none⟩) (.inr rfl) _
  have b22 : Blk w22 m 34 (nodeC n (.slice A90 n.map.length k90) (.slice A91 n.names.length k91) (.slice A92 n.log.length k92)) := by
    have := b9.set_ 8 (.slice A92 n.log.length k92)
    rw [← hw22] at this
    exact this
  have hM3 : Mod None_ w w22 := (hM2.trans hmx).trans' hms2 (fun g hg e => by omega)
  have hown22 := own_mod hown9 hms2 (fun g hg e => by have := (own_blk hown9 hg).1; omega)
  have hsz3 : w1.heap.size ≤ w22.heap.size := Nat.le_trans hle2 (Nat.le_trans hmx.size hms2.size)
  have hown20 := own_mod (own_mod hown20 hmx (fun _ _ f => f)) hms2 (fun g hg e => by have := (own_blk hown20 hg).1; omega)
  have hown21 := own_mod (own_mod hown21 hmx (fun _ _ f => f)) hms2 (fun g hg e => by have := (own_blk hown21 hg).1; omega)
  have hz2 := (b2.mod hmx id).mod hms2 (by omega)
  have b2 := hz2
  clear hw22 hms2 b9 c9 f9 hown9 hmx c8 HR2 HG2 HA2 hle2 b21
  have hi10 : (Tryz.prog.info? 34).map (·.size) = some (nodeC n (.slice A90 n.map.length k90) (.slice A91 n.names.length k91) (.slice A92 n.log.length k92)).size := by show _ = some 10; kernel_rfl
  have hone : (nodeC n (.slice A90 n.map.length k90) (.slice A91 n.names.length k91) (.slice A92 n.log.length k92)).all (·.oneCell') = true := by simp [nodeC, Value.oneCell']
  go_wp2_with (first
    | ((with_reducible refine at_slot 21 ?_); refine wpList_val rfl (ex_load rfl (run_loadRow b22 Tryz.underlying34 rfl hi10)) ?_; go_frame)
    | ((with_reducible refine at_none 34 2 21 ?_); refine wpList_store_row rfl 34 (.tmp 2) (.tmp 21) rfl (m + 1) (nodeC n (.slice A90 n.map.length k90) (.slice A91 n.names.length k91) (.slice A92 n.log.length k92)) rfl rfl 34 zeroNode b2 hi10 rfl hone ?_; go_frame))
  have b3 := b2.row (nodeC n (.slice A90 n.map.length k90) (.slice A91 n.names.length k91) (.slice A92 n.log.length k92))
  have hl := run_loadVar_row (P := Tryz.prog) _ (m + 1) 34 34 _ (0, 0) _ b3 Tryz.underlying34 rfl hi10
  have hmr : Mod (· = m + 1) w22 (w22.setRow (m + 1) (nodeC n (.slice A90 n.map.length k90) (.slice A91 n.names.length k91) (.slice A92 n.log.length k92))) := (Mod.refl (· = m + 1) w22).setRow (.inr rfl) _
  refine ⟨rfl, .agg (nodeC n (.slice A90 n.map.length k90) (.slice A91 n.names.length k91) (.slice A92 n.log.length k92)), ?_, ?_⟩
  · simp [results, Tryz.results7, asAddr, hl]
  · refine ⟨_, _, _, rfl, ⟨?_, ?_, ?_⟩, hM3.trans' hmr (fun g hg e => by omega)⟩
    · exact own_base (own_mod hown20 hmr (fun g hg e => by have := (own_blk hown20 hg).1; omega)) (by omega)
    · exact own_base (own_mod hown21 hmr (fun g hg e => by have := (own_blk hown21 hg).1; omega)) (by omega)
    · exact own_base (own_mod hown22 hmr (fun g hg e => by have := (own_blk hown22 hg).1; omega)) (by omega)
end Go.Proofs.YtabebkffcmajkaaGreatDoor

/-! Walk of the law's own: sameNode, of equal nodes. -/
namespace Go.Proofs.YtabebkffcmajkaaGreatDoor
open Go.RowKit Go.Maps Go.Shelf
attribute [local go_sem] quietV loudUpon Oper.semAt_some

end Go.Proofs.YtabebkffcmajkaaGreatDoor

/-! The reference's step and Apply over nodes that are not small. -/
namespace Go.Proofs.YtabebkffcmajkaaGreatDoor
open Go.RowKit Go.Maps Go.Shelf
attribute [local go_sem] quietV loudUpon Oper.semAt_some

theorem NodeIn.atM {w : World} {n : NodeD} {vm vn vl : Value} (h : NodeIn w n vm vn vl) (hs : MidN n) : NodeAt w n vm vn vl := by
  obtain ⟨h1, h2, h3⟩ := hs
  exact ⟨runsAt_of_list h.map (by omega) h.runs, h.names, h.log, h.kind, h.size, by omega⟩
set_option maxRecDepth 100000 in
set_option maxHeartbeats 4000000 in
theorem refStep_mid (w : World) (n : NodeD) (vm vn vl : Value) (e : EntD) (h : NodeIn w n vm vn vl) (hs : MidN n) (hall : n.kind = 1 → ∀ r ∈ n.map, refRun r = true) :
    Calls Tryz.prog 30 #[.agg (nodeC n vm vn vl), .agg (encEntry e).toArray] w (StepRPost w n vm vn vl e) := by
  have hs' := hs
  unfold MidN at hs'
  obtain ⟨hs1, hs2, hs3⟩ := hs'
  obtain ⟨m, hm⟩ : ∃ m, m = w.heap.size := ⟨_, rfl⟩
  obtain ⟨w0, hw0⟩ : ∃ w0, w0 = ((w.alloc (.cells (nodeC n vm vn vl) 34)).alloc (.cells (encEntry e).toArray 49)).alloc (.cells zeroNode 34) := ⟨_, rfl⟩
  have hM0 : Mod None_ w w0 := by rw [hw0]; exact (((Mod.refl _ w).alloc _).alloc _).alloc _
  have bn : Blk w0 m 34 (nodeC n vm vn vl) := by rw [hw0, hm]; exact ((Blk.new w 34 _).alloc _).alloc _
  have be : Blk w0 (m + 1) 49 (encEntry e).toArray := by
    have := (Blk.new (w.alloc (.cells (nodeC n vm vn vl) 34)) 49 (encEntry e).toArray).alloc (.cells zeroNode 34)
    rw [← hw0, alloc_size, ← hm] at this
    exact this
  have bo : Blk w0 (m + 2) 34 zeroNode := by
    have := Blk.new ((w.alloc (.cells (nodeC n vm vn vl) 34)).alloc (.cells (encEntry e).toArray 49)) 34 zeroNode
    rw [← hw0, alloc_size, alloc_size, ← hm] at this
    exact this
  have hem : w.heap.size ≤ m := by omega
  have hvm : vm.oneCell' = true := by obtain ⟨A, c, rfl, _⟩ := h.map; rfl
  have hvn : vn.oneCell' = true := by obtain ⟨A, c, rfl, _⟩ := h.names; rfl
  have hvl : vl.oneCell' = true := by obtain ⟨A, c, rfl, _⟩ := h.log; rfl
  have HW0 := hide hw0
  have HMM := hide hm
  have HH := hide h
  have hwm := bo.lt
  clear hw0 hm h
  have c1 : w0.cell? ⟨m + 1, 1, none⟩ = some (.int .u64 e.seq) := be.cell 1
  have f1 : w0.frozen? ⟨m + 1, 1, none⟩ = false := be.frozen _
  go_enter Tryz.func30, Tryz.ntmps30
  go_upto_region 1 with ((with_reducible refine at_slot 4 ?_); refine wpList_alloc rfl 34 rfl (.agg zeroNode) zeroNodeV ?_; go_frame)
  simp only [alloc_size]
  rw [← HMM.out, show (Value.agg zeroNode).cells = zeroNode from rfl, show m + 1 + 1 = m + 2 from rfl, ← HW0.out]
  clear HMM HW0
  go_upto_region 2 with fail
  obtain ⟨w1, hw1⟩ : ∃ w1, w1 = w0.setCell ⟨m + 1, 1, none⟩ (.int .u64 1) := ⟨_, rfl⟩
  rw [← hw1]
  have hm1 : Mod (· = m + 1) w0 w1 := by rw [hw1]; exact (Mod.refl (· = m + 1) w0).setCell (p := ⟨m + 1, 1, none⟩) (.inr rfl) _
  replace be : Blk w1 (m + 1) 49 (encEntry (one e)).toArray := by rw [hw1]; exact be.set_ 1 (.int .u64 1)
  replace bn := bn.mod hm1 (by omega)
  replace bo := bo.mod hm1 (by omega)
  have hM1 : Mod None_ w w1 := hM0.trans' hm1 (fun g hg e => by omega)
  have hw01 := hm1.size
  clear hw1 hm1 hM0 c1 f1
  have HIE := hide (infoEnt (one e))
  go_wp2_with ((with_reducible refine at_slot 10 ?_); refine wpList_val rfl (ex_load rfl (run_loadRow be Tryz.underlying49 rfl HIE.out)) ?_; go_frame)
  refine (refGoodEntry_any w1 (one e) (by show (0 : Int) ≤ 1; omega)).mono ?_
  rintro x w2 ⟨rfl, hm2⟩
  replace be := be.mod hm2 id
  replace bn := bn.mod hm2 id
  replace bo := bo.mod hm2 id
  have hM2 := hM1.trans hm2
  have hw12 := hm2.size
  clear hm2 hM1
  cases hg : goodEnt (one e) with
  | false =>
    have hmr : Mod (· = m + 2) w2 (w2.setRow (m + 2) zeroNode) := (Mod.refl (· = m + 2) w2).setRow (.inr rfl) _
    have HF := hide (StepRPost.bad (n := n) (vm0 := vm) (vn0 := vn) (vl0 := vl) (e := e) (k := 34) (by unfold errR; rw [if_pos hg]) (by decide) (hM2.trans' hmr (fun g hg e => by omega)))
    have HB := hide (bo.row zeroNode)
    clear hmr hg hM2 bn be hall HH
    go_wp2_with (first
      | ((with_reducible refine at_slot 14 ?_); refine wpList_val rfl (ex_build (ps := []) rfl (run_build31 _)) ?_; go_frame)
      | ((with_reducible refine at_none 34 4 14 ?_); refine wpList_store_row rfl 34 (.tmp 4) (.tmp 14) rfl (m + 2) zeroNode rfl rfl 34 zeroNode bo infoZero rfl oneZero ?_; go_frame))
    have hl := run_loadVar_row (P := Tryz.prog) _ (m + 2) 34 34 _ (0, 0) _ HB.out Tryz.underlying34 rfl infoZero
    exact ⟨rfl, .tuple #[.agg zeroNode, .int .i64 34], by simp [results, Tryz.results30, asAddr, hl], HF.out⟩
  | true =>
    obtain ⟨b1, k1⟩ : ∃ b, (n.kind == 1) = b := ⟨_, rfl⟩
    obtain ⟨b2, k2⟩ : ∃ b, decide (e.kind ≤ 2) = b := ⟨_, rfl⟩
    have x1 : w2.cell? ⟨m, 1, none⟩ = some (.int .i64 n.kind) := bn.cell 1
    have x0 : w2.cell? ⟨m + 1, 0, none⟩ = some (.int .i64 e.kind) := be.cell 0
    by_cases hb : b1 = b2
    · subst hb
      have d21 : (!b1 == b1) = false := by cases b1 <;> rfl
      have d22 : (b1 != b1) = false := by cases b1 <;> rfl
      go_upto_if 25 with fail
      have hge := goodE_of hg
      have hkr : e.kind = 1 → refRun ⟨e.off, e.page, e.count⟩ = true := fun h => run_of_good hg h
      have herr0 : errR n e = if n.kind = 1 then 0 else if dirOk n e = true then 0 else 90 := by
        unfold errR
        rw [if_neg (by rw [hg]; decide), if_neg (by rw [k1, k2]; simp)]
      have HER := hide herr0
      have HK1 := hide k1
      have HIN := hide (infoNode n vm vn vl)
      clear herr0 hg d21 d22 k2 x0 x1
      go_cut [6] from 25 to 37 (fun s6 wx => ∃ vm1 vn1 N1, N1 = (if n.kind = 1 then fileN n e else dirN n e) ∧ errR n e = 0 ∧ vm1.oneCell' = true ∧ vn1.oneCell' = true ∧ Blk wx m 34 (nodeC N1 vm1 vn1 vl) ∧ Blk wx (m + 2) 34 zeroNode ∧ Mod None_ w wx ∧ ListX encRun 3 wx m vm1 N1.map ∧ ListX encDent 2 wx m vn1 N1.names ∧ Fresh w vm vm1 N1.map.length ∧ Fresh w vn vn1 N1.names.length)
      case first =>
        cases b1 with
        | true =>
          have hn1 : n.kind = 1 := by simpa using HK1.out
          have hHH := HH.out.kept hM2
          have HR := hide (refFile_any w2 n vm vn vl (one e) (runsAt_of_list hHH.map (by omega) hHH.runs) (hall hn1) ⟨hvn, hvl⟩ hkr hge.size)
          have HN1 := hide hn1
          clear hHH hn1 k1
          go_upto_region 8 with fail
          go_wp2_with (first
            | ((with_reducible refine at_slot 26 ?_); refine wpList_val rfl (ex_load rfl (run_loadRow bn Tryz.underlying34 rfl HIN.out)) ?_; go_frame)
            | ((with_reducible refine at_slot 27 ?_); refine wpList_val rfl (ex_load rfl (run_loadRow be Tryz.underlying49 rfl HIE.out)) ?_; go_frame))
          refine HR.out.mono ?_
          rintro x w3 ⟨v, rfl, hv, hm3⟩
          rw [show fileN n (one e) = fileN n e from rfl] at hv ⊢
          replace bn := bn.mod hm3 id
          replace bo := bo.mod hm3 id
          have hM3 := hM2.trans hm3
          have hvx := ListX.of_own (m := m) (enc := encRun) (fun _ => rfl) hv (by omega)
          obtain ⟨A, c, rfl⟩ := own_slice hv
          have hns := ListX.of_old (m := m) HH.out.names hM3 hem
          have hm4 : Mod (· = m) w3 (w3.setRow m (nodeC (fileN n e) (.slice A (fileN n e).map.length c) vn vl)) := (Mod.refl (· = m) w3).setRow (.inr rfl) _
          have hrel : ∃ vm1 vn1 N1, N1 = (if n.kind = 1 then fileN n e else dirN n e) ∧ errR n e = 0 ∧ vm1.oneCell' = true ∧ vn1.oneCell' = true ∧ Blk (w3.setRow m (nodeC (fileN n e) (.slice A (fileN n e).map.length c) vn vl)) m 34 (nodeC N1 vm1 vn1 vl) ∧ Blk (w3.setRow m (nodeC (fileN n e) (.slice A (fileN n e).map.length c) vn vl)) (m + 2) 34 zeroNode ∧ Mod None_ w (w3.setRow m (nodeC (fileN n e) (.slice A (fileN n e).map.length c) vn vl)) ∧ ListX encRun 3 (w3.setRow m (nodeC (fileN n e) (.slice A (fileN n e).map.length c) vn vl)) m vm1 N1.map ∧ ListX encDent 2 (w3.setRow m (nodeC (fileN n e) (.slice A (fileN n e).map.length c) vn vl)) m vn1 N1.names ∧ Fresh w vm vm1 N1.map.length ∧ Fresh w vn vn1 N1.names.length :=
            ⟨_, vn, fileN n e, by rw [if_pos HN1.out], by rw [HER.out, if_pos HN1.out], rfl, hvn, bn.row _, bo.mod hm4 (by omega), hM3.trans' hm4 (fun g hg e => by omega), hvx.mod hm4 (fun g e => by omega), hns.mod hm4 (fun g e => by omega), (fun _ => .inr fun g hg => by have := (own_blk hv hg).1; omega), (fun _ => .inl rfl)⟩
          have HF := hide hrel
          have HI2 := hide (infoNode (fileN n e) (.slice A (fileN n e).map.length c) vn vl)
          have HO2 := hide (nodeC_one (fileN n e) (.slice A (fileN n e).map.length c) vn vl rfl hvn hvl)
          clear hrel hm4 hns hvx hv hm3 hM3 hM2 HR HIE be
          go_wp2_with ((with_reducible refine at_none 34 2 28 ?_); refine wpList_store_row rfl 34 (.tmp 2) (.tmp 28) rfl m (nodeC (fileN n e) (.slice A (fileN n e).map.length c) vn vl) rfl rfl 34 (nodeC n vm vn vl) bn HI2.out rfl HO2.out ?_; go_frame)
          go_meet
          case rel => exact HF.out
        | false =>
          have hn1 : ¬ n.kind = 1 := by simpa using HK1.out
          have hHH := HH.out.kept hM2
          have HR := hide (refDirectory_any w2 n vm vn vl (one e) hHH.names (by omega) ⟨hvm, hvl⟩)
          have HN1 := hide hn1
          clear hHH hn1 k1
          go_upto_region 9 with fail
          go_wp2_with (first
            | ((with_reducible refine at_slot 30 ?_); refine wpList_val rfl (ex_load rfl (run_loadRow bn Tryz.underlying34 rfl HIN.out)) ?_; go_frame)
            | ((with_reducible refine at_slot 31 ?_); refine wpList_val rfl (ex_load rfl (run_loadRow be Tryz.underlying49 rfl HIE.out)) ?_; go_frame))
          refine HR.out.mono ?_
          rintro x w3 ⟨hm3, hr⟩
          rw [show dirOk n (one e) = dirOk n e from rfl, show dirN n (one e) = dirN n e from rfl, show dirNames n (one e) = dirNames n e from rfl] at hr
          replace bn := bn.mod hm3 id
          replace bo := bo.mod hm3 id
          have hM3 := hM2.trans hm3
          have hms := ListX.of_old (m := m) HH.out.map hM3 hem
          by_cases hdk : dirOk n e = true
          · rw [if_pos hdk] at hr
            obtain ⟨v, rfl, hv⟩ := hr
            have hvx := ListX.of_own (m := m) (enc := encDent) (fun _ => rfl) hv (by omega)
            obtain ⟨A, c, rfl⟩ := own_slice hv
            have hm4 : Mod (· = m) w3 (w3.setRow m (nodeC (dirN n e) vm (.slice A (dirNames n e).length c) vl)) := (Mod.refl (· = m) w3).setRow (.inr rfl) _
            have hrel : ∃ vm1 vn1 N1, N1 = (if n.kind = 1 then fileN n e else dirN n e) ∧ errR n e = 0 ∧ vm1.oneCell' = true ∧ vn1.oneCell' = true ∧ Blk (w3.setRow m (nodeC (dirN n e) vm (.slice A (dirNames n e).length c) vl)) m 34 (nodeC N1 vm1 vn1 vl) ∧ Blk (w3.setRow m (nodeC (dirN n e) vm (.slice A (dirNames n e).length c) vl)) (m + 2) 34 zeroNode ∧ Mod None_ w (w3.setRow m (nodeC (dirN n e) vm (.slice A (dirNames n e).length c) vl)) ∧ ListX encRun 3 (w3.setRow m (nodeC (dirN n e) vm (.slice A (dirNames n e).length c) vl)) m vm1 N1.map ∧ ListX encDent 2 (w3.setRow m (nodeC (dirN n e) vm (.slice A (dirNames n e).length c) vl)) m vn1 N1.names ∧ Fresh w vm vm1 N1.map.length ∧ Fresh w vn vn1 N1.names.length :=
              ⟨vm, _, dirN n e, by rw [if_neg HN1.out], by rw [HER.out, if_neg HN1.out, if_pos hdk], hvm, rfl, bn.row _, bo.mod hm4 (by omega), hM3.trans' hm4 (fun g hg e => by omega), hms.mod hm4 (fun g e => by omega), hvx.mod hm4 (fun g e => by omega), (fun _ => .inl rfl), (fun _ => .inr fun g hg => by have := (own_blk hv hg).1; omega)⟩
            have HF := hide hrel
            have HI2 := hide (infoNode (dirN n e) vm (.slice A (dirNames n e).length c) vl)
            have HO2 := hide (nodeC_one (dirN n e) vm (.slice A (dirNames n e).length c) vl hvm rfl hvl)
            clear hrel hm4 hms hvx hv hm3 hM3 hM2 HR HIE be hdk
            go_wp2_with ((with_reducible refine at_none 34 2 33 ?_); refine wpList_store_row rfl 34 (.tmp 2) (.tmp 33) rfl m (nodeC (dirN n e) vm (.slice A (dirNames n e).length c) vl) rfl rfl 34 (nodeC n vm vn vl) bn HI2.out rfl HO2.out ?_; go_frame)
            go_meet
            case rel => exact HF.out
          · rw [if_neg hdk] at hr
            subst hr
            have hm4 : Mod (· = m) w3 (w3.setRow m (nodeC n vm vn vl)) := (Mod.refl (· = m) w3).setRow (.inr rfl) _
            have hmr : Mod (· = m + 2) (w3.setRow m (nodeC n vm vn vl)) ((w3.setRow m (nodeC n vm vn vl)).setRow (m + 2) zeroNode) := (Mod.refl (· = m + 2) _).setRow (.inr rfl) _
            have HF := hide (StepRPost.bad (n := n) (vm0 := vm) (vn0 := vn) (vl0 := vl) (e := e) (k := 90) (by rw [HER.out, if_neg HN1.out, if_neg hdk]) (by decide) ((hM3.trans' hm4 (fun g hg e => by omega)).trans' hmr (fun g hg e => by omega)))
            replace bo := bo.mod hm4 (by omega)
            have HB := hide (bo.row zeroNode)
            have HO2 := hide (nodeC_one n vm vn vl hvm hvn hvl)
            clear hmr hm4 hM3 hM2 hms hm3 hdk HR HIE be
            go_wp2_with (first
              | ((with_reducible refine at_none 34 2 33 ?_); refine wpList_store_row rfl 34 (.tmp 2) (.tmp 33) rfl m (nodeC n vm vn vl) rfl rfl 34 (nodeC n vm vn vl) bn HIN.out rfl HO2.out ?_; go_frame)
              | ((with_reducible refine at_slot 37 ?_); refine wpList_val rfl (ex_build (ps := []) rfl (run_build31 _)) ?_; go_frame)
              | ((with_reducible refine at_none 34 4 37 ?_); refine wpList_store_row rfl 34 (.tmp 4) (.tmp 37) rfl (m + 2) zeroNode rfl rfl 34 zeroNode bo infoZero rfl oneZero ?_; go_frame))
            have hl := run_loadVar_row (P := Tryz.prog) _ (m + 2) 34 34 _ (0, 0) _ HB.out Tryz.underlying34 rfl infoZero
            exact ⟨rfl, .tuple #[.agg zeroNode, .int .i64 90], by simp [results, Tryz.results30, asAddr, hl], HF.out⟩
      case rest =>
        obtain ⟨vm1, vn1, N1, hN1, herr, hvm1, hvn1, bn, bo, hM3, hLm, hLn, hFm, hFn⟩ := hcut
        have hent : N1.entries = n.entries := by rw [hN1]; split <;> rfl
        have hlog : N1.log = n.log := by rw [hN1]; split <;> rfl
        have hNR : nodeR n e = { N1 with entries := wrap64 (N1.entries + 1) } := by unfold nodeR; rw [if_pos herr, ← hN1, hent]
        have c9 : wc.cell? ⟨m, 9, none⟩ = some (.int .i64 N1.entries) := bn.cell 9
        have f9 : wc.frozen? ⟨m, 9, none⟩ = false := bn.frozen _
        have HNR := hide hNR
        have HERR := hide herr
        have HLOG := hide hlog
        clear hN1 herr hent hlog hNR HIN HIE be k1 HK1 HER
        go_upto_region 13 with fail
        obtain ⟨wo, hwo⟩ : ∃ wo, wo = wc.setCell ⟨m, 9, none⟩ (.int .i64 (wrap64 (N1.entries + 1))) := ⟨_, rfl⟩
        rw [← hwo]
        have hmo : Mod (· = m) wc wo := by rw [hwo]; exact (Mod.refl (· = m) wc).setCell (p := ⟨m, 9, none⟩) (.inr rfl) _
        obtain ⟨N2, hN2⟩ : ∃ N2, N2 = ({ N1 with entries := wrap64 (N1.entries + 1) } : NodeD) := ⟨_, rfl⟩
        rw [← hN2] at HNR
        have bn2 : Blk wo m 34 (nodeC N2 vm1 vn1 vl) := by rw [hwo, hN2]; exact bn.set_ 9 _
        have hmap2 : N2.map = N1.map := by rw [hN2]
        have hnam2 : N2.names = N1.names := by rw [hN2]
        have hlog2 : N2.log = n.log := by rw [hN2]; exact HLOG.out
        rw [← hmap2] at hLm hFm
        rw [← hnam2] at hLn hFn
        replace bo := bo.mod hmo (by omega)
        replace hLm := hLm.mod hmo (fun g e => by omega)
        replace hLn := hLn.mod hmo (fun g e => by omega)
        have hMo := hM3.trans' hmo (fun g hg e => by omega)
        have HL2 := hide hlog2
        have hwos := bo.lt
        clear hwo hmo hN2 hmap2 hnam2 hlog2 HLOG bn hM3 c9 f9
        obtain ⟨Al, cl, rfl, hcl1, hcl2, hcell⟩ := HH.out.log
        have hll : ∀ w, (Builtin.len_ #[32] 3 #[.slice Al n.log.length cl]).run Tryz.prog w = .ok (.int .i64 n.log.length) w := fun w => by simp [Builtin.len_, run_underlying Tryz.underlying32]; rfl
        have HC := hide hcell
        clear hcell
        go_wp2_with fail
        go_loopw [8, 7] (fun s8 s7 wv => ∃ (j : Nat) (v : Value), v = s7 ∧ j ≤ n.log.length ∧ s8 = .int .i64 j ∧ Mod None_ wo wv ∧ wv.ownsRow wo.heap.size 3 1 v (n.log.take j).length (rowOf encInt (n.log.take j))) (fun s8 _ _ => n.log.length - (intOf s8).toNat)
        case atStart => exact ⟨0, _, rfl, Nat.zero_le _, rfl, Mod.refl _ _, ⟨rfl, .inl ⟨rfl, rfl⟩⟩⟩
        obtain ⟨j, v, rfl, hj, rfl, hM, hown⟩ := hrel
        have bnr := bn2.mod hM id
        have c8 : wr.cell? ⟨m, 8, none⟩ = some (.slice Al n.log.length cl) := bnr.cell 8
        by_cases hjl : j < n.log.length
        · have hji : (j : Int) < n.log.length := by omega
          obtain ⟨g, o, rfl, hg, hcell⟩ := HC.out (by omega)
          have x0 : wr.cell? ⟨g, o + j, none⟩ = some (.int .i64 n.log[j]) := (World.cell?_of_block ((hMo.trans hM).block g hg id)).trans (by simpa using hcell j hjl 0 _ rfl)
          have htk : n.log.take (j + 1) = n.log.take j ++ [n.log[j]] := List.take_succ_eq_append_getElem hjl
          obtain ⟨x, hx⟩ : ∃ x, x = n.log[j] := ⟨_, rfl⟩
          rw [← hx] at x0 htk
          have hsl : (n.log.take j).length ≤ 100000 := by rw [List.length_take]; omega
          obtain ⟨L, hL⟩ : ∃ L, L = n.log.take j := ⟨_, rfl⟩
          rw [← hL] at hown hsl htk
          have HTK := hide htk
          have hbs := hM.size
          clear htk hx hL hcell bnr
          go_wp2_with ((with_reducible refine at_slot 56 ?_); refine wpList_append_row encInt 32 3 (.int .i64 0) 1 8 Tryz.underlying32 infoInt rfl (by decide) (fun _ => rfl) oneInt rfl (.tmp 49) (.tmp 55) rfl wr wo.heap.size v L x rfl rfl wr.heap.size rfl rfl hown hbs (by unfold maxLen; omega) (by omega) ?_; intro v8 w8 hown8 hm8 hat8; have hM8 := hM.trans' hm8 (fun k hk e => by have := (own_blk hown e.symm).1; omega); have L18 := hide hown8; have L28 := hide hM8; clear hown8 hm8 hat8 hM8 hown hM; go_frame)
          go_roundw
          case rel => exact ⟨j + 1, _, rfl, by omega, by simp, L28.out, by rw [HTK.out]; exact L18.out⟩
          case measure => simp [intOf]; omega
        · obtain rfl : j = n.log.length := by omega
          have hji : ¬ (n.log.length : Int) < n.log.length := by omega
          rw [List.take_length] at hown
          obtain ⟨A7, c7, rfl⟩ := own_slice hown
          have hob : ∀ g, (Value.slice A7 n.log.length c7).ownBlock = some g → m + 2 < g := fun g hg => by have := (own_blk hown hg).1; omega
          have bor := bo.mod hM id
          have hMr := hMo.trans hM
          have hLm2 := hLm.mod hM (fun g e => e.elim)
          have hLn2 := hLn.mod hM (fun g e => e.elim)
          have f8 : wr.frozen? ⟨m, 8, none⟩ = false := bnr.frozen _
          obtain ⟨w6, hw6⟩ : ∃ w6, w6 = wr.setCell ⟨m, 8, none⟩ (.slice A7 n.log.length c7) := ⟨_, rfl⟩
          have hm6 : Mod (· = m) wr w6 := by rw [hw6]; exact (Mod.refl (· = m) wr).setCell (p := ⟨m, 8, none⟩) (.inr rfl) _
          have bn6 : Blk w6 m 34 (nodeC N2 vm1 vn1 (.slice A7 n.log.length c7)) := by rw [hw6]; exact bnr.set_ 8 _
          replace bor := bor.mod hm6 (by omega)
          have hM6 := hMr.trans' hm6 (fun g hg e => by omega)
          have hown6 := own_mod hown hm6 (fun g hg e => by have := hob g hg; omega)
          have hm7 : Mod (· = m + 2) w6 (w6.setRow (m + 2) (nodeC N2 vm1 vn1 (.slice A7 n.log.length c7))) := (Mod.refl (· = m + 2) w6).setRow (.inr rfl) _
          have hown7 := own_mod hown6 hm7 (fun g hg e => by have := hob g hg; omega)
          have hfin : StepRPost w n vm vn (.slice Al n.log.length cl) e (.returned (.tuple #[.agg (nodeC N2 vm1 vn1 (.slice A7 n.log.length c7)), .int .i64 0])) (w6.setRow (m + 2) (nodeC N2 vm1 vn1 (.slice A7 n.log.length c7))) := by
            unfold StepRPost
            rw [HNR.out, HERR.out]
            refine ⟨vm1, vn1, _, rfl, ((hLm2.mod hm6 (fun g e => by omega)).mod hm7 (fun g e => by omega)).1, ((hLn2.mod hm6 (fun g e => by omega)).mod hm7 (fun g e => by omega)).1, ?_, hM6.trans' hm7 (fun g hg e => by omega), hFm, hFn, (fun _ => .inr fun g hg => by have := hob g hg; omega)⟩
            rw [HL2.out]
            exact list_of_ownRow (enc := encInt) (fun _ => rfl) hown7
          have HF := hide hfin
          have HB := hide (bor.row (nodeC N2 vm1 vn1 (.slice A7 n.log.length c7)))
          have HI2 := hide (infoNode N2 vm1 vn1 (.slice A7 n.log.length c7))
          have HO2 := hide (nodeC_one N2 vm1 vn1 (.slice A7 n.log.length c7) hvm1 hvn1 rfl)
          have HW6 := hide hw6
          clear hfin hown7 hm7 hown6 hM6 hm6 hw6 hLm2 hLn2 hMr hob hown HL2 HNR HERR hLm hLn hM hMo bn2 bo HC HH hall
          go_upto_region 19 with fail
          rw [← HW6.out]
          clear HW6 c8 f8
          go_wp2_with (first
            | ((with_reducible refine at_slot 59 ?_); refine wpList_val rfl (ex_load rfl (run_loadRow bn6 Tryz.underlying34 rfl HI2.out)) ?_; go_frame)
            | ((with_reducible refine at_none 34 4 59 ?_); refine wpList_store_row rfl 34 (.tmp 4) (.tmp 59) rfl (m + 2) (nodeC N2 vm1 vn1 (.slice A7 n.log.length c7)) rfl rfl 34 zeroNode bor HI2.out rfl HO2.out ?_; go_frame))
          have hl := run_loadVar_row (P := Tryz.prog) _ (m + 2) 34 34 _ (0, 0) _ HB.out Tryz.underlying34 rfl HI2.out
          exact ⟨rfl, .tuple #[.agg (nodeC N2 vm1 vn1 (.slice A7 n.log.length c7)), .int .i64 0], by simp [results, Tryz.results30, asAddr, hl], HF.out⟩
    · have herr : errR n e = 90 := by
        unfold errR
        rw [if_neg (by rw [hg]; decide), if_pos (by rw [k1, k2]; exact hb)]
      have d21 : (!b1 == b2) = true := by cases b1 <;> cases b2 <;> first | rfl | exact absurd rfl hb
      have d22 : (b1 != b2) = true := by cases b1 <;> cases b2 <;> first | rfl | exact absurd rfl hb
      have hmr : Mod (· = m + 2) w2 (w2.setRow (m + 2) zeroNode) := (Mod.refl (· = m + 2) w2).setRow (.inr rfl) _
      have HF := hide (StepRPost.bad (n := n) (vm0 := vm) (vn0 := vn) (vl0 := vl) (e := e) (k := 90) herr (by decide) (hM2.trans' hmr (fun g hg e => by omega)))
      have HB := hide (bo.row zeroNode)
      clear hmr hg hM2 bn be hall HH herr hb
      go_wp2_with (first
        | ((with_reducible refine at_slot 22 ?_); refine wpList_val rfl (ex_build (ps := []) rfl (run_build31 _)) ?_; go_frame)
        | ((with_reducible refine at_none 34 4 22 ?_); refine wpList_store_row rfl 34 (.tmp 4) (.tmp 22) rfl (m + 2) zeroNode rfl rfl 34 zeroNode bo infoZero rfl oneZero ?_; go_frame))
      have hl := run_loadVar_row (P := Tryz.prog) _ (m + 2) 34 34 _ (0, 0) _ HB.out Tryz.underlying34 rfl infoZero
      exact ⟨rfl, .tuple #[.agg zeroNode, .int .i64 90], by simp [results, Tryz.results30, asAddr, hl], HF.out⟩

set_option maxRecDepth 100000 in
set_option maxHeartbeats 4000000 in
theorem refApply_mid (w : World) (n : NodeD) (vm vn vl : Value) (e : EntD) (h : NodeIn w n vm vn vl) (hs : MidN n) :
    Calls Tryz.prog 9 #[.agg (nodeC n vm vn vl), .agg (encEntry e).toArray] w (ApplyFPost w n vm vn vl e) := by
  obtain ⟨m, hm⟩ : ∃ m, m = w.heap.size := ⟨_, rfl⟩
  obtain ⟨w0, hw0⟩ : ∃ w0, w0 = ((w.alloc (.cells (nodeC n vm vn vl) 34)).alloc (.cells (encEntry e).toArray 49)).alloc (.cells zeroNode 34) := ⟨_, rfl⟩
  have hM0 : Mod None_ w w0 := by rw [hw0]; exact (((Mod.refl _ w).alloc _).alloc _).alloc _
  have bn : Blk w0 m 34 (nodeC n vm vn vl) := by rw [hw0, hm]; exact ((Blk.new w 34 _).alloc _).alloc _
  have be : Blk w0 (m + 1) 49 (encEntry e).toArray := by
    have := (Blk.new (w.alloc (.cells (nodeC n vm vn vl) 34)) 49 (encEntry e).toArray).alloc (.cells zeroNode 34)
    rw [← hw0, alloc_size, ← hm] at this
    exact this
  have bo : Blk w0 (m + 2) 34 zeroNode := by
    have := Blk.new ((w.alloc (.cells (nodeC n vm vn vl) 34)).alloc (.cells (encEntry e).toArray 49)) 34 zeroNode
    rw [← hw0, alloc_size, alloc_size, ← hm] at this
    exact this
  have hem : w.heap.size ≤ m := by omega
  have hN0 := h.kept hM0
  have HG := hide (refGood_any w0 n vm vn vl (hN0.atM hs))
  have HIE := hide (infoEnt e)
  have HIN := hide (infoNode n vm vn vl)
  have HW0 := hide hw0
  have HMM := hide hm
  have HH := hide h
  clear hw0 hm h hN0
  have hwm := bo.lt
  go_enter Tryz.func9, Tryz.ntmps9
  go_upto_region 1 with ((with_reducible refine at_slot 4 ?_); refine wpList_alloc rfl 34 rfl (.agg zeroNode) zeroNodeV ?_; go_frame)
  simp only [alloc_size]
  rw [← HMM.out, show (Value.agg zeroNode).cells = zeroNode from rfl, show m + 1 + 1 = m + 2 from rfl, ← HW0.out]
  clear HMM HW0
  go_wp2_with ((with_reducible refine at_slot 8 ?_); refine wpList_val rfl (ex_load rfl (run_loadRow bn Tryz.underlying34 rfl HIN.out)) ?_; go_frame)
  refine HG.out.mono ?_
  rintro x w1 ⟨rfl, hm1⟩
  replace be := be.mod hm1 id
  replace bn := bn.mod hm1 id
  replace bo := bo.mod hm1 id
  have hM1 := hM0.trans hm1
  have hw01 := hm1.size
  clear hm1 hM0 HG
  cases hgn : nodeGood n with
  | false =>
    have c1 : w1.cell? ⟨m + 1, 1, none⟩ = some (.int .u64 e.seq) := be.cell 1
    have f1 : w1.frozen? ⟨m + 1, 1, none⟩ = false := be.frozen _
    clear bn HH
    go_upto_region 4 with fail
    obtain ⟨w2, hw2⟩ : ∃ w2, w2 = w1.setCell ⟨m + 1, 1, none⟩ (.int .u64 1) := ⟨_, rfl⟩
    rw [← hw2]
    have hm2 : Mod (· = m + 1) w1 w2 := by rw [hw2]; exact (Mod.refl (· = m + 1) w1).setCell (p := ⟨m + 1, 1, none⟩) (.inr rfl) _
    replace be : Blk w2 (m + 1) 49 (encEntry (one e)).toArray := by rw [hw2]; exact be.set_ 1 (.int .u64 1)
    replace bo := bo.mod hm2 (by omega)
    have hM2 : Mod None_ w w2 := hM1.trans' hm2 (fun g hg e => by omega)
    clear hw2 hm2 hM1 c1 f1 HIE
    have HIE := hide (infoEnt (one e))
    go_wp2_with ((with_reducible refine at_slot 13 ?_); refine wpList_val rfl (ex_load rfl (run_loadRow be Tryz.underlying49 rfl HIE.out)) ?_; go_frame)
    refine (refGoodEntry_any w2 (one e) (by show (0 : Int) ≤ 1; omega)).mono ?_
    rintro x w3 ⟨rfl, hm3⟩
    replace bo := bo.mod hm3 id
    have hM3 := hM2.trans hm3
    have hmr : Mod (· = m + 2) w3 (w3.setRow (m + 2) zeroNode) := (Mod.refl (· = m + 2) w3).setRow (.inr rfl) _
    have hMr := hM3.trans' hmr (fun g hg e => by omega)
    have HB := hide (bo.row zeroNode)
    clear hm3 hM3 hM2 hmr be HIE
    cases hg : goodEnt (one e) with
    | false =>
      have HF := hide (ApplyFPost.bad (n := n) (vm0 := vm) (vn0 := vn) (vl0 := vl) (e := e) (k := 34) hgn (by unfold errA; rw [hgn, if_neg (by decide), if_pos hg]) hMr)
      clear hgn hg hMr
      go_wp2_with (first
        | ((with_reducible refine at_slot 17 ?_); refine wpList_val rfl (ex_build (ps := []) rfl (run_build31 _)) ?_; go_frame)
        | ((with_reducible refine at_none 34 4 17 ?_); refine wpList_store_row rfl 34 (.tmp 4) (.tmp 17) rfl (m + 2) zeroNode rfl rfl 34 zeroNode bo infoZero rfl oneZero ?_; go_frame))
      have hl := run_loadVar_row (P := Tryz.prog) _ (m + 2) 34 34 _ (0, 0) _ HB.out Tryz.underlying34 rfl infoZero
      exact ⟨rfl, .tuple #[.agg zeroNode, .int .i64 34], by simp [results, Tryz.results9, asAddr, hl], HF.out⟩
    | true =>
      have HF := hide (ApplyFPost.bad (n := n) (vm0 := vm) (vn0 := vn) (vl0 := vl) (e := e) (k := 90) hgn (by unfold errA; rw [hgn, if_neg (by decide), if_neg (by rw [hg]; decide)]) hMr)
      clear hgn hg hMr
      go_wp2_with (first
        | ((with_reducible refine at_slot 18 ?_); refine wpList_val rfl (ex_build (ps := []) rfl (run_build31 _)) ?_; go_frame)
        | ((with_reducible refine at_none 34 4 18 ?_); refine wpList_store_row rfl 34 (.tmp 4) (.tmp 18) rfl (m + 2) zeroNode rfl rfl 34 zeroNode bo infoZero rfl oneZero ?_; go_frame))
      have hl := run_loadVar_row (P := Tryz.prog) _ (m + 2) 34 34 _ (0, 0) _ HB.out Tryz.underlying34 rfl infoZero
      exact ⟨rfl, .tuple #[.agg zeroNode, .int .i64 90], by simp [results, Tryz.results9, asAddr, hl], HF.out⟩
  | true =>
    have HP := hide (refStep_mid w1 n vm vn vl e (HH.out.kept hM1) hs (runs_of_good hgn))
    have hna : nodeA n e = nodeR n e := by unfold nodeA; rw [if_pos hgn]
    have hea : errA n e = errR n e := by unfold errA; rw [if_pos hgn]
    have HNA := hide hna
    have HEA := hide hea
    clear hgn hna hea
    go_wp2_with (first
      | ((with_reducible refine at_slot 19 ?_); refine wpList_val rfl (ex_load rfl (run_loadRow bn Tryz.underlying34 rfl HIN.out)) ?_; go_frame)
      | ((with_reducible refine at_slot 20 ?_); refine wpList_val rfl (ex_load rfl (run_loadRow be Tryz.underlying49 rfl HIE.out)) ?_; go_frame))
    refine HP.out.mono ?_
    rintro x w2 ⟨vm1, vn1, vl1, rfl, hLm, hLn, hLl, hm2, hFm, hFn, hFl⟩
    replace bo := bo.mod hm2 id
    have hM2 := hM1.trans hm2
    have hvm1 : vm1.oneCell' = true := by obtain ⟨A, c, rfl, _⟩ := hLm; rfl
    have hvn1 : vn1.oneCell' = true := by obtain ⟨A, c, rfl, _⟩ := hLn; rfl
    have hvl1 : vl1.oneCell' = true := by obtain ⟨A, c, rfl, _⟩ := hLl; rfl
    obtain ⟨N, hN⟩ : ∃ N, N = nodeR n e := ⟨_, rfl⟩
    obtain ⟨k, hk⟩ : ∃ k, k = errR n e := ⟨_, rfl⟩
    rw [← hN] at hLm hLn hLl hFm hFn hFl HNA ⊢
    rw [← hk] at HEA ⊢
    have hmr : Mod (· = m + 2) w2 (w2.setRow (m + 2) (nodeC N vm1 vn1 vl1)) := (Mod.refl (· = m + 2) w2).setRow (.inr rfl) _
    have hm2s := bo.lt
    have hfin : ApplyFPost w n vm vn vl e (.returned (.tuple #[.agg (nodeC N vm1 vn1 vl1), .int .i64 k])) (w2.setRow (m + 2) (nodeC N vm1 vn1 vl1)) := by
      unfold ApplyFPost
      rw [HNA.out, HEA.out]
      refine ⟨vm1, vn1, vl1, rfl, hLm.modX hmr ?_, hLn.modX hmr ?_, hLl.modX hmr ?_, hM2.trans' hmr (fun g hg e => by omega), hFm.up hM1.size, hFn.up hM1.size, hFl.up hM1.size⟩
      · intro h0 g hg e
        rcases hFm h0 with h | h
        · subst h; have := old_block HH.out.map hLm h0 hg; omega
        · have := h g hg; omega
      · intro h0 g hg e
        rcases hFn h0 with h | h
        · subst h; have := old_block HH.out.names hLn h0 hg; omega
        · have := h g hg; omega
      · intro h0 g hg e
        rcases hFl h0 with h | h
        · subst h; have := old_block HH.out.log hLl h0 hg; omega
        · have := h g hg; omega
    have HF := hide hfin
    have HB := hide (bo.row (nodeC N vm1 vn1 vl1))
    have HI2 := hide (infoNode N vm1 vn1 vl1)
    have HO2 := hide (nodeC_one N vm1 vn1 vl1 hvm1 hvn1 hvl1)
    clear hfin hmr hN hk hLm hLn hLl hFm hFn hFl HNA HEA HP HH hm2 hM2 hM1 be bn HIE
    go_wp2_with ((with_reducible refine at_none 34 4 22 ?_); refine wpList_store_row rfl 34 (.tmp 4) (.tmp 22) rfl (m + 2) (nodeC N vm1 vn1 vl1) rfl rfl 34 zeroNode bo HI2.out rfl HO2.out ?_; go_frame)
    have hl := run_loadVar_row (P := Tryz.prog) _ (m + 2) 34 34 _ (0, 0) _ HB.out Tryz.underlying34 rfl HI2.out
    exact ⟨rfl, .tuple #[.agg (nodeC N vm1 vn1 vl1), .int .i64 k], by simp [results, Tryz.results9, asAddr, hl], HF.out⟩
end Go.Proofs.YtabebkffcmajkaaGreatDoor

/-! Reference walk: Replay, once more: its lists are new. (Printed by mk_IC16.py.) -/
namespace Go.Proofs.YtabebkffcmajkaaGreatDoor
open Go.RowKit Go.Maps Go.Shelf
attribute [local go_sem] quietV loudUpon Oper.semAt_some

theorem ListY.low {α : Type} {enc : α → List Value} {sz : Nat} {w : World} {b b' : Nat} {v : Value} {l : List α} (h : ListY enc sz w b v l) (hb : b' ≤ b) : ListY enc sz w b' v l := ⟨h.1, fun h0 g hg => Nat.le_trans hb (h.2 h0 g hg)⟩
def ReplayFPost (w : World) (k : Int) (l : List EntD) : Ending → World → Prop := fun x w' => ∃ vm vn vl, x = .returned (.tuple #[.agg (nodeC (replayN k l) vm vn vl), .int .i64 (replayErr k l)]) ∧
  ListY encRun 3 w' w.heap.size vm (replayN k l).map ∧ ListY encDent 2 w' w.heap.size vn (replayN k l).names ∧ ListY encInt 1 w' w.heap.size vl (replayN k l).log ∧ Mod None_ w w'
theorem ReplayFPost.bad {w w' : World} {k : Int} {l : List EntD} {c : Int} (h : replayErr k l = c) (hc : c ≠ 0) (hm : Mod None_ w w') : ReplayFPost w k l (.returned (.tuple #[.agg zeroNode, .int .i64 c])) w' := by
  have h2 : replayN k l = zeroN := by unfold replayN; rw [if_neg (by rw [h]; exact hc)]
  unfold ReplayFPost
  rw [h2, h]
  exact ⟨_, _, _, rfl, ⟨nilList _ _ _, fun h => by cases h⟩, ⟨nilList _ _ _, fun h => by cases h⟩, ⟨nilList _ _ _, fun h => by cases h⟩, hm⟩

set_option maxRecDepth 100000 in
set_option maxHeartbeats 4000000 in
theorem refReplay_fresh (w : World) (k : Int) (v : Value) (l : List EntD) (h : ListAt encEntry 8 w v l) (hl : l.length ≤ 2000) :
    Calls Tryz.prog 13 #[.int .i64 k, v] w (ReplayFPost w k l) := by
  obtain ⟨A, c, rfl, hc1, hc2, hA⟩ := h
  have HA := hide hA
  clear hA
  have hln : ∀ w, (Builtin.len_ #[37] 3 #[.slice A l.length c]).run Tryz.prog w = .ok (.int .i64 l.length) w := fun w => by simp [Builtin.len_, run_underlying Tryz.underlying37]; rfl
  obtain ⟨m, hm⟩ : ∃ m, m = w.heap.size := ⟨_, rfl⟩
  obtain ⟨w0, hw0⟩ : ∃ w0, w0 = w.alloc (.cells zeroNode 34) := ⟨_, rfl⟩
  have hM0 : Mod None_ w w0 := by rw [hw0]; exact (Mod.refl _ w).alloc _
  have bo : Blk w0 m 34 zeroNode := by rw [hw0, hm]; exact Blk.new w 34 _
  have hsz0 : w0.heap.size = m + 1 := by rw [hw0, hm]; simp
  have hem : w.heap.size ≤ m := by omega
  have hem2 : m ≤ w.heap.size := by omega
  have HW0 := hide hw0
  have HMM := hide hm
  have HSZ := hide hsz0
  clear hw0 hm hsz0
  go_enter Tryz.func13, Tryz.ntmps13
  go_upto_region 1 with ((with_reducible refine at_slot 4 ?_); refine wpList_alloc rfl 34 rfl (.agg zeroNode) zeroNodeV ?_; go_frame)
  rw [← HMM.out, show (Value.agg zeroNode).cells = zeroNode from rfl, ← HW0.out]
  clear HMM HW0
  by_cases hk : k = 1 ∨ k = 2
  · have hk2 : (k != 1 && k != 2) = false := by rcases hk with rfl | rfl <;> rfl
    have HK := hide hk
    obtain ⟨w1, hw1⟩ : ∃ w1, w1 = w0.alloc (.cells #[.int .i64 0, .int .i64 k, .int .i64 0, .int .i64 0, .slice none 0 0, .slice none 0 0, .int .i64 0, .int .i64 0, .slice none 0 0, .int .i64 0] 34) := ⟨_, rfl⟩
    have hm1 : Mod None_ w0 w1 := by rw [hw1]; exact (Mod.refl _ w0).alloc _
    have bq : Blk w1 (m + 1) 34 #[.int .i64 0, .int .i64 k, .int .i64 0, .int .i64 0, .slice none 0 0, .slice none 0 0, .int .i64 0, .int .i64 0, .slice none 0 0, .int .i64 0] := by rw [hw1, ← HSZ.out]; exact Blk.new w0 _ _
    have h0 := refI_zero (l := l) hk (bo.mod hm1 id) bq (hM0.trans hm1)
    have HW1 := hide hw1
    clear hw1 hm1 bq bo hM0
    rcases hk with rfl | rfl
    all_goals (
      go_upto_region 4 with fail
      rw [← HW1.out, HSZ.out]
      clear HW1
      go_wp2_with fail
      go_loopw [8, 7] (fun s8 s7 wr => ∃ j : Nat, j ≤ l.length ∧ s8 = .int .i64 j ∧ s7 = .int .i64 0 ∧ RefI w m _ l j wr) (fun s8 _ _ => l.length - (intOf s8).toNat)
      case atStart => exact ⟨0, Nat.zero_le _, rfl, rfl, h0⟩
      obtain ⟨j, hj, rfl, rfl, hR⟩ := hrel
      clear h0
      by_cases hlt : j < l.length
      · have hji : (j : Int) < l.length := by omega
        obtain ⟨D, vm, vn, vl, hpl, hwf, hld, bo, bq, hLm, hLn, hLl, hM⟩ := hR
        obtain ⟨g, o, rfl, hg, hcell⟩ := HA.out (by omega)
        have hc := hcell j hlt
        have htk : l.take (j + 1) = l.take j ++ [l[j]] := List.take_succ_eq_append_getElem hlt
        have hdr : l = l.take (j + 1) ++ l.drop (j + 1) := (List.take_append_drop (j + 1) l).symm
        obtain ⟨x, hx⟩ : ∃ x, x = l[j] := ⟨_, rfl⟩
        rw [← hx] at hc htk
        have hsn := playD_snoc (l.take j) _ D x hpl
        rw [← htk] at hsn
        have HSN := hide hsn
        have HDR := hide hdr
        have HWF := hide hwf
        have hrg : wr.rangeAt g (o + j * 8) (encEntry x) := fun i u h => (World.cell?_of_block (hM.block g hg id)).trans (hc i u h)
        clear hpl hc htk hdr hsn hx hcell hwf
        go_upto_region 8 with fail
        refine region_jxw [(true, 0), (true, 1), (true, 2), (true, 3), (true, 4), (false, 5), (true, 6), (true, 7), (true, 8), (false, 9), (true, 10)] [9] (fun w' => w'.rangeAt g (o + j * 8) (encEntry x)) (fun _ w' => Blk w' (m + 1) 34 (nodeC (nodeOf D j) vm vn vl)) (by kernel_rfl) (by kernel_rfl) ?_
        rintro w3 hw3
        have hm3 : Mod None_ wr w3 := by rw [hw3]; exact (Mod.refl _ wr).drew
        replace bo := bo.mod hm3 id
        replace bq := bq.mod hm3 id
        replace hLm := hLm.mod hm3 (fun g e => e.elim)
        replace hLn := hLn.mod hm3 (fun g e => e.elim)
        replace hLl := hLl.mod hm3 (fun g e => e.elim)
        have hM3 := hM.trans hm3
        have hrg3 : w3.rangeAt g (o + j * 8) (encEntry x) := fun i u h => (World.cell?_of_block (hm3.block g (Nat.lt_of_lt_of_le hg hM.size) id)).trans (hrg i u h)
        clear hw3 hm3 hM hrg
        refine ⟨hrg3, fun _ _ => bq, ?_⟩
        have HIN := hide (infoNode (nodeOf D j) vm vn vl)
        refine jxw_qv rfl rfl [9] (by kernel_rfl) rfl (fun w' hI hR => ex_load rfl (run_loadRow (hR 9 (by simp)) Tryz.underlying34 rfl HIN.out)) ?_
        try go_frame
        iterate 3 (refine jxw_quiet rfl rfl [] (by kernel_rfl) (fun w' i1 i2 K hK => by go_simp; exact hK) ?_; go_frame)
        refine jxw_qv rfl rfl [] (by kernel_rfl) rfl (fun w' hI hR => ex_load rfl (run_loadAt_mid w' g (o + j * 8) 49 (encEntry x) _ hI Tryz.underlying49 rfl (by kernel_rfl))) ?_
        try go_frame
        have HP := hide (refStep_any w3 (nodeOf D j) vm vn vl x ⟨hLm.1, hLn.1, hLl.1, node_ok HWF.out, (node_i64 HWF.out).1, (node_i64 HWF.out).2⟩ (node_small (by omega)) (node_runs HWF.out))
        have bq3 := bq
        refine jxw_loud rfl (fun K hK => ?_)
        go_simp
        refine Calls.mono HP.out ?_
        rintro y w4 ⟨vm1, vn1, vl1, rfl, h1, h2, h3, hm4, hF1, hF2, hF3⟩
        rw [step_err x j HWF.out]
        replace bo := bo.mod hm4 id
        replace bq := bq.mod hm4 id
        have hM4 := hM3.trans hm4
        have hrg4 : w4.rangeAt g (o + j * 8) (encEntry x) := fun i u h => (World.cell?_of_block (hm4.block g (Nat.lt_of_lt_of_le hg hM3.size) id)).trans (hrg3 i u h)
        have hw3s : m + 2 ≤ w3.heap.size := bq3.lt
        have hv1 : vm1.oneCell' = true := by obtain ⟨A, c, rfl, _⟩ := h1; rfl
        have hv2 : vn1.oneCell' = true := by obtain ⟨A, c, rfl, _⟩ := h2; rfl
        have hv3 : vl1.oneCell' = true := by obtain ⟨A, c, rfl, _⟩ := h3; rfl
        obtain ⟨NR, hNR⟩ : ∃ NR, NR = nodeR (nodeOf D j) x := ⟨_, rfl⟩
        rw [← hNR] at h1 h2 h3 hF1 hF2 hF3 ⊢
        obtain ⟨er, her⟩ : ∃ er, er = stepErr D x := ⟨_, rfl⟩
        rw [← her]
        have HNR := hide hNR
        have HER := hide her
        clear hNR her
        refine ⟨_, rfl, ⟨hrg4, fun _ _ _ => bq⟩, hK _ _ ?_⟩
        clear hK K HP
        try go_frame
        iterate 3 (refine jxw_quiet rfl rfl [] (by kernel_rfl) (fun w' i1 i2 K hK => by go_simp; exact hK) ?_; go_frame)
        have HI2 := hide (infoNode NR vm1 vn1 vl1)
        have HO2 := hide (nodeC_one NR vm1 vn1 vl1 hv1 hv2 hv3)
        have hms : Mod (· = m + 1) w4 (w4.setRow (m + 1) (nodeC NR vm1 vn1 vl1)) := (Mod.refl (· = m + 1) w4).setRow (.inr rfl) _
        refine jxw_storeRow rfl rfl 34 (.tmp 6) (.tmp 31) rfl (m + 1) (nodeC NR vm1 vn1 vl1) rfl rfl 34 (nodeC (nodeOf D j) vm vn vl) bq HI2.out rfl HO2.out ⟨fun i u h => (World.cell?_of_block (hms.block g (Nat.lt_of_lt_of_le hg hM4.size) (by omega))).trans (hrg4 i u h), fun d hd hn => absurd (by simp at hd; simp [hd]) hn⟩ ?_
        try go_frame
        refine jxw_quiet rfl rfl [] (by kernel_rfl) (fun w' i1 i2 K hK => by go_simp; exact hK) ?_
        go_frame
        refine jxw_nil ?_
        obtain ⟨w5, hw5⟩ : ∃ w5, w5 = w4.setRow (m + 1) (nodeC NR vm1 vn1 vl1) := ⟨_, rfl⟩
        rw [← hw5] at hms ⊢
        have bq5 : Blk w5 (m + 1) 34 (nodeC NR vm1 vn1 vl1) := by rw [hw5]; exact bq.row _
        have bo5 := bo.mod hms (by omega)
        have hM5 := hM4.trans' hms (fun g hg e => by omega)
        have y1 := (listY_fresh hLm h1 hF1 hw3s).mod hms (fun g e => by omega)
        have y2 := (listY_fresh hLn h2 hF2 hw3s).mod hms (fun g e => by omega)
        have y3 := (listY_fresh hLl h3 hF3 hw3s).mod hms (fun g e => by omega)
        clear hw5 hms bq bo hM4 hM3 hrg3 hrg4 h1 h2 h3 hF1 hF2 hF3 hLm hLn hLl hm4 HI2 HO2 HIN
        by_cases hz : er = 0
        · have hse : stepErr D x = 0 := by rw [← HER.out]; exact hz
          have hnr : NR = nodeOf (onD x D) (j + 1) := by rw [HNR.out]; exact step_node HWF.out hse (by omega)
          have hld2 := lenD_on x D
          rw [hnr] at bq5 y1 y2 y3
          have hnx : RefI w m _ l (j + 1) w5 := ⟨onD x D, vm1, vn1, vl1, by rw [HSN.out, if_pos hse], step_wf HWF.out hse, by omega, bo5, bq5, y1, y2, y3, hM5⟩
          have HNX := hide hnx
          have d6 : (er != 0) = false := by rw [hz]; rfl
          have HZ := hide hz
          clear hnx hse hnr bq5 y1 y2 y3 hM5 bo5 HDR HSN hz
          go_wp2_with fail
          go_roundw
          case rel => exact ⟨j + 1, by omega, by simp, by rw [HZ.out], HNX.out⟩
          case measure => simp [intOf]; omega
        · have hse : stepErr D x = er := HER.out.symm
          have herr : ∀ k, playD (zeroD k) (l.take (j + 1)) = (if stepErr D x = 0 then (0, onD x D) else (stepErr D x, D)) → k = 1 ∨ k = 2 → replayErr k l = er := fun k h hk => by
            unfold replayErr
            rw [if_pos hk, HDR.out]
            have h3 : (playD (zeroD k) (l.take (j + 1))).1 = er := by rw [h, if_neg (by rw [hse]; exact hz)]; exact hse
            rw [playD_stop _ _ _ (by rw [h3]; exact hz)]
            exact h3
          have hmr : Mod (· = m) w5 (w5.setRow m zeroNode) := (Mod.refl (· = m) w5).setRow (.inr rfl) _
          have HF := hide (ReplayFPost.bad (herr _ HSN.out (by first | exact Or.inl rfl | exact Or.inr rfl)) hz (hM5.trans' hmr (fun g hg e => by omega)))
          have HB := hide (bo5.row zeroNode)
          have d6 : (er != 0) = true := by simpa using hz
          clear hmr herr hse bq5 y1 y2 y3 hM5 HDR HSN hz HA
          go_wp2_with (first
            | ((with_reducible refine at_slot 35 ?_); refine wpList_val rfl (ex_build (ps := []) rfl (run_build31 _)) ?_; go_frame)
            | ((with_reducible refine at_none 34 4 35 ?_); refine wpList_store_row rfl 34 (.tmp 4) (.tmp 35) rfl m zeroNode rfl rfl 34 zeroNode bo5 infoZero rfl oneZero ?_; go_frame))
          have hl := run_loadVar_row (P := Tryz.prog) _ m 34 34 _ (0, 0) _ HB.out Tryz.underlying34 rfl infoZero
          exact ⟨rfl, .tuple #[.agg zeroNode, .int .i64 er], by simp [results, Tryz.results13, asAddr, hl], HF.out⟩
      · obtain rfl : j = l.length := by omega
        have hji : ¬ (l.length : Int) < l.length := by omega
        obtain ⟨D, vm, vn, vl, hpl, hwf, hld, bo, bq, hLm, hLn, hLl, hM⟩ := hR
        rw [List.take_length] at hpl
        have hfin0 : ∀ k, playD (zeroD k) l = (0, D) → k = 1 ∨ k = 2 → replayErr k l = 0 ∧ replayN k l = nodeOf D l.length := fun k h hk => by
          have h1 : replayErr k l = 0 := by unfold replayErr; rw [if_pos hk, h]
          refine ⟨h1, ?_⟩
          unfold replayN
          rw [if_pos h1, h]
          rfl
        obtain ⟨e1, e2⟩ := hfin0 _ hpl (by first | exact Or.inl rfl | exact Or.inr rfl)
        have hv1 : vm.oneCell' = true := by obtain ⟨A, c, rfl, _⟩ := hLm.1; rfl
        have hv2 : vn.oneCell' = true := by obtain ⟨A, c, rfl, _⟩ := hLn.1; rfl
        have hv3 : vl.oneCell' = true := by obtain ⟨A, c, rfl, _⟩ := hLl.1; rfl
        obtain ⟨N, hN⟩ : ∃ N, N = nodeOf D l.length := ⟨_, rfl⟩
        rw [← hN] at e2 bq hLm hLn hLl
        have hmr : Mod (· = m) wr (wr.setRow m (nodeC N vm vn vl)) := (Mod.refl (· = m) wr).setRow (.inr rfl) _
        have hfin : ∀ k, replayErr k l = 0 → replayN k l = N → ReplayFPost w k l (.returned (.tuple #[.agg (nodeC N vm vn vl), .int .i64 0])) (wr.setRow m (nodeC N vm vn vl)) := fun k e1 e2 => by
          refine ⟨vm, vn, vl, by rw [e1, e2], by rw [e2]; exact (hLm.mod hmr (fun g e => by omega)).low (by omega), by rw [e2]; exact (hLn.mod hmr (fun g e => by omega)).low (by omega), by rw [e2]; exact (hLl.mod hmr (fun g e => by omega)).low (by omega), hM.trans' hmr (fun g hg e => by omega)⟩
        have HF := hide (hfin _ e1 e2)
        have HB := hide (bo.row (nodeC N vm vn vl))
        have HI2 := hide (infoNode N vm vn vl)
        have HO2 := hide (nodeC_one N vm vn vl hv1 hv2 hv3)
        clear hfin hmr hN e1 e2 hLm hLn hLl hM hpl hwf hfin0 HA
        go_wp2_with (first
          | ((with_reducible refine at_slot 37 ?_); refine wpList_val rfl (ex_load rfl (run_loadRow bq Tryz.underlying34 rfl HI2.out)) ?_; go_frame)
          | ((with_reducible refine at_none 34 4 37 ?_); refine wpList_store_row rfl 34 (.tmp 4) (.tmp 37) rfl m (nodeC N vm vn vl) rfl rfl 34 zeroNode bo HI2.out rfl HO2.out ?_; go_frame))
        have hl := run_loadVar_row (P := Tryz.prog) _ m 34 34 _ (0, 0) _ HB.out Tryz.underlying34 rfl HI2.out
        exact ⟨rfl, .tuple #[.agg (nodeC N vm vn vl), .int .i64 0], by simp [results, Tryz.results13, asAddr, hl], HF.out⟩)
  · have hk1 : ¬ k = 1 := fun e => hk (.inl e)
    have hk2 : ¬ k = 2 := fun e => hk (.inr e)
    have k1 : (k != 1) = true := by simpa using hk1
    have k2 : (k != 2) = true := by simpa using hk2
    have k3 : (k == 1) = false := by simpa using hk1
    have k4 : (k == 2) = false := by simpa using hk2
    have hmr : Mod (· = m) w0 (w0.setRow m zeroNode) := (Mod.refl (· = m) w0).setRow (.inr rfl) _
    have HF := hide (ReplayFPost.bad (k := k) (l := l) (c := 90) (by unfold replayErr; rw [if_neg hk]) (by decide) (hM0.trans' hmr (fun g hg e => by omega)))
    have HB := hide (bo.row zeroNode)
    clear hmr hM0 hk HSZ HA
    go_wp2_with (first
      | ((with_reducible refine at_slot 15 ?_); refine wpList_val rfl (ex_build (ps := []) rfl (run_build31 _)) ?_; go_frame)
      | ((with_reducible refine at_none 34 4 15 ?_); refine wpList_store_row rfl 34 (.tmp 4) (.tmp 15) rfl m zeroNode rfl rfl 34 zeroNode bo infoZero rfl oneZero ?_; go_frame))
    have hl := run_loadVar_row (P := Tryz.prog) _ m 34 34 _ (0, 0) _ HB.out Tryz.underlying34 rfl infoZero
    exact ⟨rfl, .tuple #[.agg zeroNode, .int .i64 90], by simp [results, Tryz.results13, asAddr, hl], HF.out⟩
end Go.Proofs.YtabebkffcmajkaaGreatDoor

/-! Canon once more: its answer is a row of its own. -/
namespace Go.Proofs.YtabebkffcmajkaaGreatDoor
open Go.RowKit Go.Maps Go.Shelf
attribute [local go_sem] quietV loudUpon Oper.semAt_some

def canonErr (n : NodeD) : Int := if nodeGood n = true then 0 else 90
def canonList (n : NodeD) : List EntD := if nodeGood n = true then canonOf n else []
def CanonOPost (w : World) (n : NodeD) : Ending → World → Prop := fun e w' => Mod None_ w w' ∧ ∃ v, e = .returned (.tuple #[v, .int .i64 (canonErr n)]) ∧ w'.ownsRow w.heap.size 49 8 v (canonList n).length (rowOf encEntry (canonList n))
theorem canon_list {w w' : World} {n : NodeD} {e : Ending} (h : CanonPost w n e w') : ∃ v, e = .returned (.tuple #[v, .int .i64 (canonErr n)]) ∧ ListAt encEntry 8 w' v (canonList n) ∧ Mod None_ w w' := by
  obtain ⟨hm, h⟩ := h
  unfold canonErr canonList
  split at h
  · rename_i hg
    obtain ⟨v, rfl, hl⟩ := h
    rw [if_pos hg, if_pos hg]
    exact ⟨v, rfl, hl, hm⟩
  · rename_i hg
    rw [if_neg hg, if_neg hg]
    exact ⟨_, h, ⟨none, 0, rfl, Nat.le_refl _, by unfold maxLen; omega, fun h => by simp at h⟩, hm⟩

set_option maxRecDepth 100000 in
set_option maxHeartbeats 1000000 in
theorem canon_own (w : World) (n : NodeD) (vm vn vl : Value) (h : NodeAt w n vm vn vl) : Calls Tryz.prog 16 #[.agg (nodeC n vm vn vl)] w (CanonOPost w n) := by
  have hM : Mod None_ w (w.alloc (.cells (nodeC n vm vn vl) 34)) := (Mod.refl None_ w).alloc _
  have HS := hide (sense_any _ n vm vn vl (h.kept hM))
  have b1 : Blk (w.alloc (.cells (nodeC n vm vn vl) 34)) w.heap.size 34 (nodeC n vm vn vl) := Blk.new w 34 _
  have HN := hide h
  have HM := hide hM
  have B1 := hide b1
  have hnl := h.nlen
  clear hM h b1
  unfold nodeC at HM HS B1 ⊢
  go_enter Tryz.func16, Tryz.ntmps16
  obtain ⟨m, hm⟩ : ∃ m, m = w.heap.size := ⟨_, rfl⟩
  rw [← hm] at B1
  have HMM := hide hm
  clear hm
  go_wp2_with fail
  rw [← HMM.out]
  refine Calls.mono HS.out ?_
  rintro e w2 hp
  obtain ⟨hm2, hp⟩ := sense_pages hp
  have hM := HM.out.trans hm2
  have b1 := B1.out.mod hm2 id
  clear hm2 HM HS B1 HMM
  by_cases hg : nodeGood n = true
  · rw [if_pos hg] at hp
    obtain ⟨s, k, tp, ip, rfl, bs, hs, hk⟩ := hp
    obtain ⟨hml, htm⟩ := good_tame hg
    have hlen := stepsOf_length htm hml
    have HST := hide (steps_any w2 n vm vn vl (HN.out.kept hM) s k tp ip bs hml htm)
    have HG := hide hg
    clear hg hk htm hs
    have c0 := b1.cell 0
    have c1 := b1.cell 1
    have c2 := b1.cell 2
    have c3 := b1.cell 3
    have c4 := b1.cell 4
    have c5 := b1.cell 5
    have c6 := b1.cell 6
    have c7 := b1.cell 7
    have c8 := b1.cell 8
    have c9 := b1.cell 9
    go_wp2_with fail
    refine Calls.mono HST.out ?_
    rintro e w3 ⟨v, rfl, ho, hm3⟩
    have hli := list_of_ownRow (enc := encStep) (fun _ => rfl) ho
    replace hM := hM.trans hm3
    obtain ⟨T, hT⟩ : ∃ T, T = stepsOf n := ⟨_, rfl⟩
    rw [← hT] at hli hlen
    obtain ⟨As, cs, rfl, hcs1, hcs2, hcell⟩ := id hli
    have hll : ∀ w, (Builtin.len_ #[77] 3 #[.slice As T.length cs]).run Tryz.prog w = .ok (.int .i64 T.length) w := fun w => by simp [Builtin.len_, run_underlying Tryz.underlying77]; rfl
    have HLI := hide hli
    have HT := hide hT
    clear ho hm3 bs b1 c0 c1 c2 c3 c4 c5 c6 c7 c8 c9 HST hcell hli hT
    go_wp2_with fail
    go_loopw [16, 5] (fun s16 s5 wr => ∃ (k : Nat) (v5 : Value), v5 = s5 ∧ k ≤ T.length ∧ s16 = .int .i64 k ∧ wr.ownsRow w3.heap.size 49 8 v5 (entsFrom 1 (T.take k)).length (rowOf encEntry (entsFrom 1 (T.take k))) ∧ Mod None_ w3 wr) (fun s16 _ _ => T.length - (intOf s16).toNat)
    case atStart => exact ⟨0, _, rfl, Nat.zero_le _, rfl, ⟨rfl, .inl ⟨rfl, rfl⟩⟩, Mod.refl _ _⟩
    obtain ⟨k, v5, rfl, hk, rfl, hown, hMr⟩ := hrel
    by_cases hlt : k < T.length
    · have hki : (k : Int) < T.length := by omega
      have hli := HLI.out.kept hMr
      obtain ⟨_, _, hcv, _, _, hcell⟩ := hli
      simp only [Value.slice.injEq, true_and] at hcv
      obtain ⟨rfl, rfl⟩ := hcv
      obtain ⟨g, o, rfl, hg, hcell⟩ := hcell (by omega)
      have x0 : wr.cell? ⟨g, o + k, none⟩ = some (stepV T[k]) := by simpa using hcell k hlt 0 _ rfl
      have hsn : entsFrom 1 (T.take (k + 1)) = entsFrom 1 (T.take k) ++ [entOf T[k] (1 + k)] := by
        rw [List.take_succ_eq_append_getElem hlt, entsFrom_snoc, List.length_take, Nat.min_eq_left hk]
      have hEl := entsFrom_length 1 (T.take k)
      rw [List.length_take, Nat.min_eq_left hk] at hEl
      obtain ⟨x, hx⟩ : ∃ x, x = T[k] := ⟨_, rfl⟩
      rw [← hx] at x0 hsn
      obtain ⟨E, hE⟩ : ∃ E, E = entsFrom 1 (T.take k) := ⟨_, rfl⟩
      rw [← hE] at hown hsn hEl
      have HSN := hide hsn
      clear hcell hx hsn hE
      have hq : (k : Int) + 1 = 1 + k := by omega
      go_wp2_with fail
      refine (entry_any wr x (1 + (k : Int)) (by omega) (by omega)).mono ?_
      rintro e w4 ⟨rfl, hm4⟩
      obtain ⟨y, hy⟩ : ∃ y, y = entOf x (1 + k) := ⟨_, rfl⟩
      rw [← hy]
      have HY := hide hy
      have hown4 := own_mod hown hm4 (fun _ _ f => f)
      have hM4 := hMr.trans hm4
      clear hown hMr hm4 x0 hq hy
      have hb4 := hM4.size
      have hy8 : (encEntry y).length = 8 := rfl
      go_wp2_with ((with_reducible refine at_slot 27 ?_); refine wpList_append_row encEntry 37 49 (.agg #[.int .i64 0, .int .u64 0, .int .i64 0, .int .i64 0, .int .i64 0, .int .i64 0, .int .i64 0, .string ⟨#[]⟩]) 8 72 Tryz.underlying37 infoEntry rfl (by decide) (fun _ => rfl) oneEntry rfl (.tmp 21) (.tmp 26) rfl w4 w3.heap.size v5 E y rfl rfl w4.heap.size rfl rfl hown4 hb4 (by unfold maxLen; omega) (by omega) ?_; intro v8 w8 hown8 hm8 hat8
                   have hM8 := hM4.trans' hm8 (fun k hk e => by have := (own_blk hown4 e.symm).1; omega)
                   have L1 := hide hown8
                   have L2 := hide hM8
                   clear hown8 hm8 hat8 hM8 hown4 hM4
                   go_frame)
      go_roundw
      case rel => exact ⟨k + 1, _, rfl, by omega, by simp, by rw [HSN.out, ← HY.out]; exact L1.out, L2.out⟩
      case measure => simp [intOf]; omega
    · obtain rfl : k = T.length := by omega
      have hkn : ¬ (T.length : Int) < T.length := by omega
      rw [List.take_length] at hown
      have hcl : canonList n = entsFrom 1 T := by unfold canonList canonOf; rw [if_pos HG.out, ← HT.out]
      have hce : canonErr n = 0 := if_pos HG.out
      have HF : Hid (CanonOPost w n (.returned (.tuple #[v5, .int .i64 0])) wr) := hide ⟨hM.trans hMr, v5, by rw [hce], by rw [hcl]; exact own_base hown hM.size⟩
      clear hown hMr hM hlt hcl hce
      go_wp2
      go_ret2
      exact HF.out
  · rw [if_neg hg] at hp
    obtain rfl := hp
    have HF : Hid (CanonOPost w n (.returned (.tuple #[.slice none 0 0, .int .i64 90])) w2) := hide ⟨hM, .slice none 0 0, by unfold canonErr; rw [if_neg hg], by unfold canonList; rw [if_neg hg]; exact ⟨rfl, .inl ⟨rfl, rfl⟩⟩⟩
    clear hg hM b1
    go_wp2
    go_ret2
    exact HF.out
end Go.Proofs.YtabebkffcmajkaaGreatDoor

/-! Pages once more: its answer is a row of its own. -/
namespace Go.Proofs.YtabebkffcmajkaaGreatDoor
open Go.RowKit Go.Maps Go.Shelf
attribute [local go_sem] quietV loudUpon Oper.semAt_some

def PagesOPost (w : World) (n : NodeD) : Ending → World → Prop := fun e w' => ∃ v, e = .returned v ∧ w'.ownsRow w.heap.size 3 1 v (pagesOf n).length (rowOf encInt (pagesOf n)) ∧ Mod None_ w w'
theorem pages_noneO {w w' : World} {n : NodeD} (h : ¬ (nodeGood n = true ∧ n.kind = 1)) (hm : Mod None_ w w') : PagesOPost w n (.returned (.slice none 0 0)) w' := by
  unfold PagesOPost pagesOf; rw [if_neg h]
  exact ⟨_, rfl, ⟨rfl, .inl ⟨rfl, rfl⟩⟩, hm⟩

set_option maxRecDepth 100000 in
set_option maxHeartbeats 8000000 in
theorem pages_own (w : World) (n : NodeD) (vm vn vl : Value) (h : NodeAt w n vm vn vl) : Calls Tryz.prog 20 #[.agg (nodeC n vm vn vl)] w (PagesOPost w n) := by
  have hM : Mod None_ w (w.alloc (.cells (nodeC n vm vn vl) 34)) := (Mod.refl None_ w).alloc _
  have HS := hide (sense_any _ n vm vn vl (h.kept hM))
  have HM := hide hM
  clear hM h
  refine calls_of_wp_marks 3 Tryz.func20 rfl ?_
  simp only [Tryz.ntmps20, List.size_toArray, List.length_cons, List.length_nil, Nat.reduceAdd, Nat.reduceSub, Array.replicate_succ, Array.replicate_zero, List.push_toArray, List.append_toArray, List.nil_append, List.cons_append]
  unfold nodeC at HM HS ⊢
  go_wp2_with fail
  refine Calls.mono HS.out ?_
  rintro e w2 hp
  obtain ⟨hm2, hp⟩ := sense_pages hp
  have hM := HM.out.trans hm2
  clear hm2 HM HS
  by_cases hg : nodeGood n = true
  · rw [if_pos hg] at hp
    obtain ⟨s, k, tp, ip, rfl, bs, hs, hk⟩ := hp
    rcases hk with ⟨hk1, t, r, mid, leaf, many, rfl, hT⟩ | ⟨hk2, rfl⟩
    · have hpo : pagesOf n = (itemsOf (tableOf n.map) 0 512 0).map Prod.snd := by unfold pagesOf; rw [if_pos ⟨hg, hk1⟩]
      have HPO := hide hpo
      clear hpo hk1 hg hs
      have c2 : w2.cell? ⟨s, 2, none⟩ = some (.pointer (some ⟨t, 0, none⟩)) := bs.cell 2
      obtain ⟨m, hm⟩ : ∃ m, m = w2.heap.size := ⟨_, rfl⟩
      obtain ⟨w4, hw4⟩ : ∃ w4, w4 = w2.alloc (.cells #[.slice none 0 0] 32) := ⟨_, rfl⟩
      have hm4 : Mod None_ w2 w4 := by rw [hw4]; exact (Mod.refl _ w2).alloc _
      have hs4 : w4.heap.size = m + 1 := by rw [hw4, hm]; simp
      have b0 : Blk w4 m 32 #[.slice none 0 0] := by rw [hw4, hm]; exact Blk.new w2 32 _
      have hgem : m = w2.heap.size := hm
      have HW4 := hide hw4
      have HM2 := hide hgem
      have c22 := c2
      rw [← (World.cell?_of_block (hm4.block s bs.lt id))] at c22
      rw [hw4] at c22
      clear hm hw4 hgem
      go_wp2_with fail
      rw [← HW4.out, ← HM2.out]
      refine (from_call w4 t 0).mono ?_
      rintro e w3 ⟨rfl, hw3⟩
      simp only [hs4]
      have hM3 : Mod None_ w4 w3 := by rw [hw3]; exact ((Mod.refl _ w4).alloc _).alloc _
      have b1 : Blk w3 (m + 1) 80 #[.pointer (some ⟨t, 0, none⟩)] := by
        have := (Blk.new w4 80 #[.pointer (some ⟨t, 0, none⟩)]).alloc (.cells #[.int .i64 0] 3)
        rw [← hw3, hs4] at this
        exact this
      have b2 : Blk w3 (m + 1 + 1) 3 #[.int .i64 0] := by
        have := Blk.new (w4.alloc (.cells #[.pointer (some ⟨t, 0, none⟩)] 80)) 3 #[.int .i64 0]
        rw [← hw3, alloc_size, hs4] at this
        exact this
      replace b0 := b0.mod hM3 id
      have hR3 := (hT.kept hm4).kept hM3
      have hM5 := (hM.trans hm4).trans hM3
      have hml : m < w3.heap.size := b0.lt
      have hgem : w.heap.size ≤ m := by rw [HM2.out]; exact hM.size
      clear hw3 hM hm4 hM3 bs c2 c22 hT HW4 HM2 hs4
      go_wp2_with fail
      have hno : ownerAt w3 m = none := by unfold ownerAt; rw [b0.cell 0]; rfl
      have hst := from_stops 2 w3 (KpO w3.heap.size m) (fun W _ => KpO.refl _ _ W) (fun h k => h.trans k) (keep_own hml hno) t r mid leaf (tableOf n.map) many 0 (m + 1 + 1) (m + 1) hR3 (b2.cell 0) (b1.cell 0)
      have hNl := itemsOf_length (tableOf n.map) 0 512 0
      obtain ⟨P, hP⟩ : ∃ P, P = itemsOf (tableOf n.map) 0 512 0 := ⟨_, rfl⟩
      have HP := hide hP
      rw [← hP] at hst hNl
      clear hP
      refine wp_range_mid 3 (by omega) (gf := 54) (lb := #[.pointer (some ⟨m + 1 + 1, 0, none⟩), .pointer (some ⟨m + 1, 0, none⟩)]) rfl (enters_of Tryz.func54 (by kernel_rfl) rfl) hst (fun h k => h.trans k) (fun U l o o' hl h ho _ => KpO.putObj U l o o' (by omega) h ho) (Below.refl _ _) (fun _ => rfl)
        (fun pre U => RowI encInt 32 3 1 w3 m (pre.map Prod.snd) U) (fun _ _ _ => False) 0 (RowI encInt 32 3 1 w3 m (P.map Prod.snd))
        (fun pre A B row h hg hr => h.grown hml hg hr) (fun c pre A B row h _ _ => h)
        ⟨_, b0, ⟨rfl, .inl ⟨rfl, rfl⟩⟩, Mod.refl _ _⟩ ?done ?stop ?body ?rest
      case done =>
        rintro xs U hxs h
        obtain rfl : P = xs := hxs.symm
        exact h
      case stop =>
        rintro c pre U hp h
        exact h.elim
      case body =>
        apply Exists.intro
        refine ⟨?_, ?_⟩
        · intro l x U K hK
          gi_wp2
          exact hK
        · rintro l pre x U ⟨v, hv, hown, hM⟩ hlt
          obtain ⟨A, c, rfl⟩ := own_slice hown
          have cl : U.cell? ⟨m, 0, none⟩ = some (.slice A (pre.map Prod.snd).length c) := hv.cell 0
          have hsn : (pre ++ [x]).map Prod.snd = pre.map Prod.snd ++ [x.2] := by simp
          have hln : (pre.map Prod.snd).length < P.length := by simpa using hlt
          obtain ⟨R, hR⟩ : ∃ R, R = pre.map Prod.snd := ⟨_, rfl⟩
          rw [← hR] at hv hown cl hsn hln
          have HSN := hide hsn
          have hbU : w3.heap.size ≤ U.heap.size := hM.size
          clear hR hsn hst hlt
          gi_wp2_with ((with_reducible refine at_slotIn 28 ?_); refine wpListIn_append_row encInt 32 3 (.int .i64 0) 1 8 Tryz.underlying32 infoInt rfl (by decide) (fun _ => rfl) oneInt rfl (.tmp 25) (.tmp 27) rfl U w3.heap.size (.slice A R.length c) R x.2 rfl rfl U.heap.size rfl rfl hown hbU (by unfold maxLen; omega) (by omega) ?_; intro v8 w8 hown8 hm8 hat8; obtain ⟨N8, hN8⟩ : ∃ N, N = (R ++ [x.2]).length := ⟨_, rfl⟩; rw [← hN8] at hown8; have HN8 := hide hN8; clear hN8; obtain ⟨A2, c2, rfl⟩ := own_slice hown8; go_frame
                       obtain ⟨k1, k2, k3, k4, k5⟩ := grown_keeps 32 3 1 (by omega) hbU hv hown hown8 hm8 hat8
                       have hv8 := hv.mod hm8 (fun e => by have := (own_blk hown e.symm).1; omega)
                       have cl8 : w8.cell? ⟨m, 0, none⟩ = some (.slice A R.length c) := hv8.cell 0
                       have cf8 : w8.frozen? ⟨m, 0, none⟩ = false := hv8.frozen 0
                       have L1 := hide k1
                       have L2 := hide k2
                       have L3 := hide k3
                       have L4 := hide k4
                       have L5 := hide k5
                       clear k1 k2 k3 k4 k5 hown8 hm8 hat8 hv8)
          refine ⟨L1.out, L2.out, _, L3.out, ?_, hM.trans' L5.out (fun k hk e => by omega)⟩
          rw [HSN.out]
          have hL4 := L4.out
          rw [HN8.out] at hL4 ⊢
          exact hL4
      case rest =>
        rintro D U hD ⟨v, hv, hown, hM⟩ hdf
        obtain ⟨A, c, rfl⟩ := own_slice hown
        have cl : U.cell? ⟨m, 0, none⟩ = some (.slice A (P.map Prod.snd).length c) := hv.cell 0
        have hm3 : Mod (· = D) U (U.putObj D (.deferred none)) := (Mod.of_grown (grownBy_putObj' _ D _)).mono fun k _ e => by cases e; rfl
        have hfin : Mod None_ w (U.putObj D (.deferred none)) := ((hM5.trans' hM (fun k hk e => by omega))).trans' hm3 (fun k hk e => by have := hM5.size; omega)
        have hown2 := own_mod hown hm3 (fun g hg e => by
          subst e
          obtain ⟨_, cur, hh⟩ := own_blk hown hg
          rw [hdf] at hh; cases hh)
        have hli := own_base (b' := w.heap.size) hown2 (by have := hM5.size; omega)
        have hpost : PagesOPost w n (.returned (.slice A (P.map Prod.snd).length c)) (U.putObj D (.deferred none)) := by
          unfold PagesOPost
          rw [HPO.out, ← HP.out]
          exact ⟨_, rfl, hli, hfin⟩
        have HF := hide hpost
        have HD := hide hdf
        clear hfin hown hown2 hm3 hM hv hst hdf b0 b1 b2 hli hpost
        dsimp only
        go_wp2
        refine ⟨by simp, .inl ⟨_, _, rfl, run_takeDeferred HD.out, ?_⟩⟩
        refine ⟨.slice A (P.map Prod.snd).length c, ?_, HF.out⟩
        simp [results, Tryz.results20, go_sem]
    · have HF := hide (pages_noneO (n := n) (w := w) (fun h => by omega) hM)
      have c2 : w2.cell? ⟨s, 2, none⟩ = some (.pointer none) := bs.cell 2
      clear hg hM hk2
      go_wp2
      refine ⟨_, ?_, HF.out⟩
      simp [results, Tryz.results20, go_sem]
  · rw [if_neg hg] at hp
    obtain rfl := hp
    have HF := hide (pages_noneO (n := n) (w := w) (fun h => hg h.1) hM)
    clear hg hM
    go_wp2
    refine ⟨_, ?_, HF.out⟩
    simp [results, Tryz.results20, go_sem]
end Go.Proofs.YtabebkffcmajkaaGreatDoor

/-! A list of entries as an argument. -/
namespace Go.Proofs.YtabebkffcmajkaaGreatDoor
open Go.RowKit Go.Maps Go.ChangeShapes Go.WideShapes Go.Deep
section
variable {H : Type} {ec : TypeId × Value → H} {W : World} {base : Nat} {spare : Nat → Bool} {held : Bool}
theorem cellsU64 : Tryz.prog.cellsOf 47 = 1 := by kernel_rfl
theorem cellsEntry : Tryz.prog.cellsOf 49 = 8 := by kernel_rfl
theorem cellsLE : Tryz.prog.cellsOf 37 = 1 := by kernel_rfl
set_option maxRecDepth 100000 in
theorem dec_entry {n : Nat} {cs : List Value} {x : DataW H × List MemPlace} (h : DataW.trod ec Tryz.prog W base spare held n 49 cs = some x) : ∃ y : EntD, cs = encEntry y ∧ True := by
  obtain ⟨ys, n', hn', hy, hlen, hyl, hf⟩ := DataW.trod_struct Tryz.underlying49 h
  rw [cellsEntry] at hlen
  match cs, hlen with
  | [a, b, c, d, e, f, g, i], _ =>
    have t0 := hf 0 _ rfl
    have t1 := hf 1 _ rfl
    have t2 := hf 2 _ rfl
    have t3 := hf 3 _ rfl
    have t4 := hf 4 _ rfl
    have t5 := hf 5 _ rfl
    have t6 := hf 6 _ rfl
    have t7 := hf 7 _ rfl
    simp only [List.getElem_toArray, List.getElem_cons_zero, List.getElem_cons_succ, cellsInt, cellsStr, cellsU64, List.drop_zero, List.take_succ_cons, List.take_zero, List.drop_succ_cons] at t0 t1 t2 t3 t4 t5 t6 t7
    match ys, hyl with
    | [y0, y1, y2, y3, y4, y5, y6, y7], _ =>
      obtain ⟨x0, q0, w0⟩ := dec_int (t0.trans rfl)
      obtain ⟨x1, q1, _, w1⟩ := DataW.trod_int Tryz.underlying47 (t1.trans rfl)
      obtain ⟨x2, q2, w2⟩ := dec_int (t2.trans rfl)
      obtain ⟨x3, q3, w3⟩ := dec_int (t3.trans rfl)
      obtain ⟨x4, q4, w4⟩ := dec_int (t4.trans rfl)
      obtain ⟨x5, q5, w5⟩ := dec_int (t5.trans rfl)
      obtain ⟨x6, q6, w6⟩ := dec_int (t6.trans rfl)
      obtain ⟨x7, q7, _, _⟩ := DataW.trod_string Tryz.underlying9 (t7.trans rfl)
      simp only [encInt, List.cons.injEq, and_true] at q0 q1 q2 q3 q4 q5 q6 q7
      subst q0 q1 q2 q3 q4 q5 q6 q7
      exact ⟨⟨x0, x1, x2, x3, x4, x5, x6, x7⟩, rfl, trivial⟩
end
theorem open_entries {H : Type} {ec : TypeId × Value → H} {W : World} {v : Value} {d : DataW H} {p : List MemPlace} (h : DataW.Trod ec Tryz.prog W 0 (fun _ => true) true 37 v d p) (hv : v.cells.toList = [v]) :
    ∃ l : List EntD, ListAt encEntry 8 W v l := by
  obtain ⟨fuel, hf⟩ := h
  rw [hv] at hf
  obtain ⟨l, h1, _, _⟩ := open_list encEntry (fun _ => True) 8 (by omega) Tryz.underlying37 cellsEntry (fun _ => rfl) (fun n cs x hx => dec_entry hx) hf
  exact ⟨l, h1⟩
end Go.Proofs.YtabebkffcmajkaaGreatDoor
