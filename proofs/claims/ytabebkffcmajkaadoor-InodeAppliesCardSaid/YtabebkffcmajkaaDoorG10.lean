import Derived.IntWalk
import Derived.Test.YtabebkffcmajkaaDoorG9
import Derived.Test.YtabebkffcmajkaaDoorG4
import Derived.Test.YtabebkffcmajkaaDoorG7
import Derived.Test.YtabebkffcmajkaaDoorG6
set_option linter.unusedVariables false
set_option linter.unusedSimpArgs false
/-! Reference walk: Replay. -/
namespace Go.Proofs.YtabebkffcmajkaaDoor
open Go.RowKit Go.Maps Go.Shelf
attribute [local go_sem] quietV loudUpon Oper.semAt_some

section
variable {P : Program} {D : List Nat} {I : World → Prop} {R : Nat → World → Prop} {Q : Act → World → Prop} {k : Nat} {o : Oper} {os : List Oper} {l : List (Bool × Nat)} {done : List Nat} {a : Act} {w : World}
theorem jxw_qv {v : Value} (ho : os[k]? = some o) (hk : D.contains k = false) (ds : List Nat) (hds : ds.all (fun d => D.contains d && waits .any os.toArray k os.toArray.size d) = true) (hg : o.guard = none) (hr : ∀ w', I w' → (∀ d ∈ ds, R d w') → (execOp a.eval o).run P w' = .ok (.value v) w')
    (hn : JxW P os.toArray D I R Q l done (a.put o.dst v) w) : JxW P os.toArray D I R Q ((true, k) :: l) done a w :=
  jxw_quiet ho hk ds hds (fun w' hI hR K hK => by rw [if_pos (by simp [Region.wanted, hg]), hr w' hI hR]; exact ⟨rfl, hK⟩) hn
theorem jxw_storeRow (ho : os[k]? = some o) (hgd : o.guard = none) (ty : TypeId) (x y : Operand) (hop : o.op = .store ty x y) (g : Nat) (cells : Array Value) (hx : a.eval x = .pointer (some ⟨g, 0, none⟩)) (hy : a.eval y = .agg cells)
    (t : TypeId) (old : Array Value) (hg : w.heap[g]? = some (.cells old t (0, 0))) (hi : (P.info? ty).map (·.size) = some cells.size) (hold : old.size = cells.size) (h1 : cells.all (·.oneCell') = true)
    (hI : JD D I R (k :: done) (w.setRow g cells)) (hn : JxW P os.toArray D I R Q l (k :: done) (a.put o.dst undef) (w.setRow g cells)) : JxW P os.toArray D I R Q ((false, k) :: l) done a w :=
  jxw_loud ho fun K hK => by
    have hrun : (execOp a.eval o).run P w = .ok .skip (w.setRow g cells) := by
      refine ex_store hop ?_
      rw [hx, hy]
      simp only [Instr.storeAt, Instr.sureAddr, Sem.run_bind, Sem.run_pure, Result.andThen_ok, run_storeVar_row w g t ty old cells hg hi hold h1]
    rw [if_pos (by simp [Region.wanted, hgd]), hrun]
    exact ⟨hI, hK _ _ hn⟩
end
/-- a list whose block lies from b on -/
def ListY {α : Type} (enc : α → List Value) (sz : Nat) (w : World) (b : Nat) (v : Value) (l : List α) : Prop := ListAt enc sz w v l ∧ (0 < l.length → ∀ g, v.ownBlock = some g → b ≤ g)
theorem ListY.mod {α : Type} {enc : α → List Value} {sz : Nat} {S : Nat → Prop} {w w' : World} {b : Nat} {v : Value} {l : List α} (h : ListY enc sz w b v l) (hm : Mod S w w') (hs : ∀ g, S g → g < b) : ListY enc sz w' b v l :=
  ⟨h.1.modX hm fun h0 g hg e => by have := h.2 h0 g hg; have := hs g e; omega, h.2⟩
theorem listY_fresh {α : Type} {enc : α → List Value} {sz : Nat} {w w' w3 : World} {b : Nat} {v0 v : Value} {l0 l : List α} (h0 : ListY enc sz w b v0 l0) (h : ListAt enc sz w' v l) (hF : Fresh w3 v0 v l.length) (hb : b ≤ w3.heap.size) : ListY enc sz w' b v l :=
  ⟨h, fun hl g hg => (hF hl).elim (fun e => by
      subst e
      obtain ⟨A, c, rfl, _⟩ := h0.1
      obtain ⟨A', c', e2, _⟩ := h
      simp only [Value.slice.injEq] at e2
      exact h0.2 (by omega) g hg) (fun e => Nat.le_trans hb (e g hg))⟩
/-- what the reference's Replay leaves -/
def ReplayRPost (w : World) (k : Int) (l : List EntD) : Ending → World → Prop := fun x w' => ∃ vm vn vl, x = .returned (.tuple #[.agg (nodeC (replayN k l) vm vn vl), .int .i64 (replayErr k l)]) ∧
  ListAt encRun 3 w' vm (replayN k l).map ∧ ListAt encDent 2 w' vn (replayN k l).names ∧ ListAt encInt 1 w' vl (replayN k l).log ∧ Mod None_ w w'
theorem ReplayRPost.bad {w w' : World} {k : Int} {l : List EntD} {c : Int} (h : replayErr k l = c) (hc : c ≠ 0) (hm : Mod None_ w w') : ReplayRPost w k l (.returned (.tuple #[.agg zeroNode, .int .i64 c])) w' := by
  have h2 : replayN k l = zeroN := by unfold replayN; rw [if_neg (by rw [h]; exact hc)]
  unfold ReplayRPost
  rw [h2, h]
  exact ⟨_, _, _, rfl, nilList _ _ _, nilList _ _ _, nilList _ _ _, hm⟩
/-- what holds in its loop: the node at block q says what the entries so far mean -/
def RefI (w : World) (m : Nat) (k : Int) (l : List EntD) (j : Nat) (wr : World) : Prop :=
  ∃ D vm vn vl, playD (zeroD k) (l.take j) = (0, D) ∧ WfD D ∧ lenD D ≤ j ∧ Blk wr m 31 zeroNode ∧ Blk wr (m + 1) 31 (nodeC (nodeOf D j) vm vn vl) ∧
    ListY encRun 3 wr (m + 2) vm (nodeOf D j).map ∧ ListY encDent 2 wr (m + 2) vn (nodeOf D j).names ∧ ListY encInt 1 wr (m + 2) vl (nodeOf D j).log ∧ Mod None_ w wr
set_option maxRecDepth 100000 in
theorem runsT_zero : runsT (fun _ => 0) = [] := by
  unfold runsT
  rw [itemsOf_none (fun x _ => .inl rfl)]
  rfl
set_option maxRecDepth 100000 in
theorem refI_zero {w wr : World} {m : Nat} {k : Int} {l : List EntD} (hk : k = 1 ∨ k = 2) (bo : Blk wr m 31 zeroNode) (bq : Blk wr (m + 1) 31 #[.int .i64 0, .int .i64 k, .int .i64 0, .int .i64 0, .slice none 0 0, .slice none 0 0, .int .i64 0, .int .i64 0, .slice none 0 0, .int .i64 0]) (hM : Mod None_ w wr) : RefI w m k l 0 wr := by
  have hmap : (nodeOf (zeroD k) 0).map = [] := by
    rcases hk with rfl | rfl
    · rw [show zeroD 1 = .file 0 (fun _ => 0) from by simp [zeroD]]
      exact runsT_zero
    · rfl
  have hnam : (nodeOf (zeroD k) 0).names = [] := by
    rcases hk with rfl | rfl
    · rfl
    · exact DirIs.names (R := []) ⟨.refl _, (fun _ h => by cases h), List.Pairwise.nil⟩
  refine ⟨zeroD k, .slice none 0 0, .slice none 0 0, .slice none 0 0, rfl, wf_zero k, by unfold zeroD; split <;> exact Nat.le_refl _, bo, ?_, ?_, ?_, ?_, hM⟩
  · rcases hk with rfl | rfl <;> exact bq
  · rw [hmap]; exact ⟨nilList _ _ _, fun h => by cases h⟩
  · rw [hnam]; exact ⟨nilList _ _ _, fun h => by cases h⟩
  · exact ⟨nilList _ _ _, fun h => by cases h⟩

set_option maxRecDepth 100000 in
set_option maxHeartbeats 4000000 in
theorem refReplay_any (w : World) (k : Int) (v : Value) (l : List EntD) (h : ListAt encEntry 8 w v l) (hl : l.length ≤ 2000) :
    Calls Tryd.prog 12 #[.int .i64 k, v] w (ReplayRPost w k l) := by
  obtain ⟨A, c, rfl, hc1, hc2, hA⟩ := h
  have HA := hide hA
  clear hA
  have hln : ∀ w, (Builtin.len_ #[22] 3 #[.slice A l.length c]).run Tryd.prog w = .ok (.int .i64 l.length) w := fun w => by simp [Builtin.len_, run_underlying Tryd.underlying22]; rfl
  obtain ⟨m, hm⟩ : ∃ m, m = w.heap.size := ⟨_, rfl⟩
  obtain ⟨w0, hw0⟩ : ∃ w0, w0 = w.alloc (.cells zeroNode 31) := ⟨_, rfl⟩
  have hM0 : Mod None_ w w0 := by rw [hw0]; exact (Mod.refl _ w).alloc _
  have bo : Blk w0 m 31 zeroNode := by rw [hw0, hm]; exact Blk.new w 31 _
  have hsz0 : w0.heap.size = m + 1 := by rw [hw0, hm]; simp
  have hem : w.heap.size ≤ m := by omega
  have hem2 : m ≤ w.heap.size := by omega
  have HW0 := hide hw0
  have HMM := hide hm
  have HSZ := hide hsz0
  clear hw0 hm hsz0
  go_enter Tryd.func12, Tryd.ntmps12
  go_upto_region 1 with ((with_reducible refine at_slot 4 ?_); refine wpList_alloc rfl 31 rfl (.agg zeroNode) zeroNodeV ?_; go_frame)
  rw [← HMM.out, show (Value.agg zeroNode).cells = zeroNode from rfl, ← HW0.out]
  clear HMM HW0
  by_cases hk : k = 1 ∨ k = 2
  · have hk2 : (k != 1 && k != 2) = false := by rcases hk with rfl | rfl <;> rfl
    have HK := hide hk
    obtain ⟨w1, hw1⟩ : ∃ w1, w1 = w0.alloc (.cells #[.int .i64 0, .int .i64 k, .int .i64 0, .int .i64 0, .slice none 0 0, .slice none 0 0, .int .i64 0, .int .i64 0, .slice none 0 0, .int .i64 0] 31) := ⟨_, rfl⟩
    have hm1 : Mod None_ w0 w1 := by rw [hw1]; exact (Mod.refl _ w0).alloc _
    have bq : Blk w1 (m + 1) 31 #[.int .i64 0, .int .i64 k, .int .i64 0, .int .i64 0, .slice none 0 0, .slice none 0 0, .int .i64 0, .int .i64 0, .slice none 0 0, .int .i64 0] := by rw [hw1, ← HSZ.out]; exact Blk.new w0 _ _
    have h0 := refI_zero (l := l) hk (bo.mod hm1 id) bq (hM0.trans hm1)
    have HW1 := hide hw1
    clear hw1 hm1 bq bo hM0
    rcases hk with rfl | rfl
    all_goals (
      go_upto_region 4 with fail
      rw [← HW1.out, HSZ.out]
      clear HW1
      go_wp2_with fail
      go_loopw [8, 7] (fun s8 s7 wr => ∃ j : Nat, j ≤ l.length ∧ s8 = .int .i64 j ∧ s7 = .int .i64 0 ∧ RefI w m _ l j wr) (fun s8 _ _ => l.length - (intOf s8).toNat)
      case atStart => exact ⟨0, Nat.zero_le _, rfl, rfl, h0⟩
      obtain ⟨j, hj, rfl, rfl, hR⟩ := hrel
      clear h0
      by_cases hlt : j < l.length
      · have hji : (j : Int) < l.length := by omega
        obtain ⟨D, vm, vn, vl, hpl, hwf, hld, bo, bq, hLm, hLn, hLl, hM⟩ := hR
        obtain ⟨g, o, rfl, hg, hcell⟩ := HA.out (by omega)
        have hc := hcell j hlt
        have htk : l.take (j + 1) = l.take j ++ [l[j]] := List.take_succ_eq_append_getElem hlt
        have hdr : l = l.take (j + 1) ++ l.drop (j + 1) := (List.take_append_drop (j + 1) l).symm
        obtain ⟨x, hx⟩ : ∃ x, x = l[j] := ⟨_, rfl⟩
        rw [← hx] at hc htk
        have hsn := playD_snoc (l.take j) _ D x hpl
        rw [← htk] at hsn
        have HSN := hide hsn
        have HDR := hide hdr
        have HWF := hide hwf
        have hrg : wr.rangeAt g (o + j * 8) (encEntry x) := fun i u h => (World.cell?_of_block (hM.block g hg id)).trans (hc i u h)
        clear hpl hc htk hdr hsn hx hcell hwf
        go_upto_region 8 with fail
        refine region_jxw [(true, 0), (true, 1), (true, 2), (true, 3), (true, 4), (false, 5), (true, 6), (true, 7), (true, 8), (false, 9), (true, 10)] [9] (fun w' => w'.rangeAt g (o + j * 8) (encEntry x)) (fun _ w' => Blk w' (m + 1) 31 (nodeC (nodeOf D j) vm vn vl)) (by kernel_rfl) (by kernel_rfl) ?_
        rintro w3 hw3
        have hm3 : Mod None_ wr w3 := by rw [hw3]; exact (Mod.refl _ wr).drew
        replace bo := bo.mod hm3 id
        replace bq := bq.mod hm3 id
        replace hLm := hLm.mod hm3 (fun g e => e.elim)
        replace hLn := hLn.mod hm3 (fun g e => e.elim)
        replace hLl := hLl.mod hm3 (fun g e => e.elim)
        have hM3 := hM.trans hm3
        have hrg3 : w3.rangeAt g (o + j * 8) (encEntry x) := fun i u h => (World.cell?_of_block (hm3.block g (Nat.lt_of_lt_of_le hg hM.size) id)).trans (hrg i u h)
        clear hw3 hm3 hM hrg
        refine ⟨hrg3, fun _ _ => bq, ?_⟩
        have HIN := hide (infoNode (nodeOf D j) vm vn vl)
        refine jxw_qv rfl rfl [9] (by kernel_rfl) rfl (fun w' hI hR => ex_load rfl (run_loadRow (hR 9 (by simp)) Tryd.underlying31 rfl HIN.out)) ?_
        try go_frame
        iterate 3 (refine jxw_quiet rfl rfl [] (by kernel_rfl) (fun w' i1 i2 K hK => by go_simp; exact hK) ?_; go_frame)
        refine jxw_qv rfl rfl [] (by kernel_rfl) rfl (fun w' hI hR => ex_load rfl (run_loadAt_mid w' g (o + j * 8) 26 (encEntry x) _ hI Tryd.underlying26 rfl (by kernel_rfl))) ?_
        try go_frame
        have HP := hide (refStep_any w3 (nodeOf D j) vm vn vl x ⟨hLm.1, hLn.1, hLl.1, node_ok HWF.out, (node_i64 HWF.out).1, (node_i64 HWF.out).2⟩ (node_small (by omega)) (node_runs HWF.out))
        have bq3 := bq
        refine jxw_loud rfl (fun K hK => ?_)
        go_simp
        refine Calls.mono HP.out ?_
        rintro y w4 ⟨vm1, vn1, vl1, rfl, h1, h2, h3, hm4, hF1, hF2, hF3⟩
        rw [step_err x j HWF.out]
        replace bo := bo.mod hm4 id
        replace bq := bq.mod hm4 id
        have hM4 := hM3.trans hm4
        have hrg4 : w4.rangeAt g (o + j * 8) (encEntry x) := fun i u h => (World.cell?_of_block (hm4.block g (Nat.lt_of_lt_of_le hg hM3.size) id)).trans (hrg3 i u h)
        have hw3s : m + 2 ≤ w3.heap.size := bq3.lt
        have hv1 : vm1.oneCell' = true := by obtain ⟨A, c, rfl, _⟩ := h1; rfl
        have hv2 : vn1.oneCell' = true := by obtain ⟨A, c, rfl, _⟩ := h2; rfl
        have hv3 : vl1.oneCell' = true := by obtain ⟨A, c, rfl, _⟩ := h3; rfl
        obtain ⟨NR, hNR⟩ : ∃ NR, NR = nodeR (nodeOf D j) x := ⟨_, rfl⟩
        rw [← hNR] at h1 h2 h3 hF1 hF2 hF3 ⊢
        obtain ⟨er, her⟩ : ∃ er, er = stepErr D x := ⟨_, rfl⟩
        rw [← her]
        have HNR := hide hNR
        have HER := hide her
        clear hNR her
        refine ⟨_, rfl, ⟨hrg4, fun _ _ _ => bq⟩, hK _ _ ?_⟩
        clear hK K HP
        try go_frame
        iterate 3 (refine jxw_quiet rfl rfl [] (by kernel_rfl) (fun w' i1 i2 K hK => by go_simp; exact hK) ?_; go_frame)
        have HI2 := hide (infoNode NR vm1 vn1 vl1)
        have HO2 := hide (nodeC_one NR vm1 vn1 vl1 hv1 hv2 hv3)
        have hms : Mod (· = m + 1) w4 (w4.setRow (m + 1) (nodeC NR vm1 vn1 vl1)) := (Mod.refl (· = m + 1) w4).setRow (.inr rfl) _
        refine jxw_storeRow rfl rfl 31 (.tmp 6) (.tmp 31) rfl (m + 1) (nodeC NR vm1 vn1 vl1) rfl rfl 31 (nodeC (nodeOf D j) vm vn vl) bq HI2.out rfl HO2.out ⟨fun i u h => (World.cell?_of_block (hms.block g (Nat.lt_of_lt_of_le hg hM4.size) (by omega))).trans (hrg4 i u h), fun d hd hn => absurd (by simp at hd; simp [hd]) hn⟩ ?_
        try go_frame
        refine jxw_quiet rfl rfl [] (by kernel_rfl) (fun w' i1 i2 K hK => by go_simp; exact hK) ?_
        go_frame
        refine jxw_nil ?_
        obtain ⟨w5, hw5⟩ : ∃ w5, w5 = w4.setRow (m + 1) (nodeC NR vm1 vn1 vl1) := ⟨_, rfl⟩
        rw [← hw5] at hms ⊢
        have bq5 : Blk w5 (m + 1) 31 (nodeC NR vm1 vn1 vl1) := by rw [hw5]; exact bq.row _
        have bo5 := bo.mod hms (by omega)
        have hM5 := hM4.trans' hms (fun g hg e => by omega)
        have y1 := (listY_fresh hLm h1 hF1 hw3s).mod hms (fun g e => by omega)
        have y2 := (listY_fresh hLn h2 hF2 hw3s).mod hms (fun g e => by omega)
        have y3 := (listY_fresh hLl h3 hF3 hw3s).mod hms (fun g e => by omega)
        clear hw5 hms bq bo hM4 hM3 hrg3 hrg4 h1 h2 h3 hF1 hF2 hF3 hLm hLn hLl hm4 HI2 HO2 HIN
        by_cases hz : er = 0
        · have hse : stepErr D x = 0 := by rw [← HER.out]; exact hz
          have hnr : NR = nodeOf (onD x D) (j + 1) := by rw [HNR.out]; exact step_node HWF.out hse (by omega)
          have hld2 := lenD_on x D
          rw [hnr] at bq5 y1 y2 y3
          have hnx : RefI w m _ l (j + 1) w5 := ⟨onD x D, vm1, vn1, vl1, by rw [HSN.out, if_pos hse], step_wf HWF.out hse, by omega, bo5, bq5, y1, y2, y3, hM5⟩
          have HNX := hide hnx
          have d6 : (er != 0) = false := by rw [hz]; rfl
          have HZ := hide hz
          clear hnx hse hnr bq5 y1 y2 y3 hM5 bo5 HDR HSN hz
          go_wp2_with fail
          go_roundw
          case rel => exact ⟨j + 1, by omega, by simp, by rw [HZ.out], HNX.out⟩
          case measure => simp [intOf]; omega
        · have hse : stepErr D x = er := HER.out.symm
          have herr : ∀ k, playD (zeroD k) (l.take (j + 1)) = (if stepErr D x = 0 then (0, onD x D) else (stepErr D x, D)) → k = 1 ∨ k = 2 → replayErr k l = er := fun k h hk => by
            unfold replayErr
            rw [if_pos hk, HDR.out]
            have h3 : (playD (zeroD k) (l.take (j + 1))).1 = er := by rw [h, if_neg (by rw [hse]; exact hz)]; exact hse
            rw [playD_stop _ _ _ (by rw [h3]; exact hz)]
            exact h3
          have hmr : Mod (· = m) w5 (w5.setRow m zeroNode) := (Mod.refl (· = m) w5).setRow (.inr rfl) _
          have HF := hide (ReplayRPost.bad (herr _ HSN.out (by first | exact Or.inl rfl | exact Or.inr rfl)) hz (hM5.trans' hmr (fun g hg e => by omega)))
          have HB := hide (bo5.row zeroNode)
          have d6 : (er != 0) = true := by simpa using hz
          clear hmr herr hse bq5 y1 y2 y3 hM5 HDR HSN hz HA
          go_wp2_with (first
            | ((with_reducible refine at_slot 35 ?_); refine wpList_val rfl (ex_build (ps := []) rfl (run_build31 _)) ?_; go_frame)
            | ((with_reducible refine at_none 31 4 35 ?_); refine wpList_store_row rfl 31 (.tmp 4) (.tmp 35) rfl m zeroNode rfl rfl 31 zeroNode bo5 infoZero rfl oneZero ?_; go_frame))
          have hl := run_loadVar_row (P := Tryd.prog) _ m 31 31 _ (0, 0) _ HB.out Tryd.underlying31 rfl infoZero
          exact ⟨rfl, .tuple #[.agg zeroNode, .int .i64 er], by simp [results, Tryd.results12, asAddr, hl], HF.out⟩
      · obtain rfl : j = l.length := by omega
        have hji : ¬ (l.length : Int) < l.length := by omega
        obtain ⟨D, vm, vn, vl, hpl, hwf, hld, bo, bq, hLm, hLn, hLl, hM⟩ := hR
        rw [List.take_length] at hpl
        have hfin0 : ∀ k, playD (zeroD k) l = (0, D) → k = 1 ∨ k = 2 → replayErr k l = 0 ∧ replayN k l = nodeOf D l.length := fun k h hk => by
          have h1 : replayErr k l = 0 := by unfold replayErr; rw [if_pos hk, h]
          refine ⟨h1, ?_⟩
          unfold replayN
          rw [if_pos h1, h]
          rfl
        obtain ⟨e1, e2⟩ := hfin0 _ hpl (by first | exact Or.inl rfl | exact Or.inr rfl)
        have hv1 : vm.oneCell' = true := by obtain ⟨A, c, rfl, _⟩ := hLm.1; rfl
        have hv2 : vn.oneCell' = true := by obtain ⟨A, c, rfl, _⟩ := hLn.1; rfl
        have hv3 : vl.oneCell' = true := by obtain ⟨A, c, rfl, _⟩ := hLl.1; rfl
        obtain ⟨N, hN⟩ : ∃ N, N = nodeOf D l.length := ⟨_, rfl⟩
        rw [← hN] at e2 bq hLm hLn hLl
        have hmr : Mod (· = m) wr (wr.setRow m (nodeC N vm vn vl)) := (Mod.refl (· = m) wr).setRow (.inr rfl) _
        have hfin : ∀ k, replayErr k l = 0 → replayN k l = N → ReplayRPost w k l (.returned (.tuple #[.agg (nodeC N vm vn vl), .int .i64 0])) (wr.setRow m (nodeC N vm vn vl)) := fun k e1 e2 => by
          refine ⟨vm, vn, vl, by rw [e1, e2], by rw [e2]; exact (hLm.mod hmr (fun g e => by omega)).1, by rw [e2]; exact (hLn.mod hmr (fun g e => by omega)).1, by rw [e2]; exact (hLl.mod hmr (fun g e => by omega)).1, hM.trans' hmr (fun g hg e => by omega)⟩
        have HF := hide (hfin _ e1 e2)
        have HB := hide (bo.row (nodeC N vm vn vl))
        have HI2 := hide (infoNode N vm vn vl)
        have HO2 := hide (nodeC_one N vm vn vl hv1 hv2 hv3)
        clear hfin hmr hN e1 e2 hLm hLn hLl hM hpl hwf hfin0 HA
        go_wp2_with (first
          | ((with_reducible refine at_slot 37 ?_); refine wpList_val rfl (ex_load rfl (run_loadRow bq Tryd.underlying31 rfl HI2.out)) ?_; go_frame)
          | ((with_reducible refine at_none 31 4 37 ?_); refine wpList_store_row rfl 31 (.tmp 4) (.tmp 37) rfl m (nodeC N vm vn vl) rfl rfl 31 zeroNode bo HI2.out rfl HO2.out ?_; go_frame))
        have hl := run_loadVar_row (P := Tryd.prog) _ m 31 31 _ (0, 0) _ HB.out Tryd.underlying31 rfl HI2.out
        exact ⟨rfl, .tuple #[.agg (nodeC N vm vn vl), .int .i64 0], by simp [results, Tryd.results12, asAddr, hl], HF.out⟩)
  · have hk1 : ¬ k = 1 := fun e => hk (.inl e)
    have hk2 : ¬ k = 2 := fun e => hk (.inr e)
    have k1 : (k != 1) = true := by simpa using hk1
    have k2 : (k != 2) = true := by simpa using hk2
    have k3 : (k == 1) = false := by simpa using hk1
    have k4 : (k == 2) = false := by simpa using hk2
    have hmr : Mod (· = m) w0 (w0.setRow m zeroNode) := (Mod.refl (· = m) w0).setRow (.inr rfl) _
    have HF := hide (ReplayRPost.bad (k := k) (l := l) (c := 90) (by unfold replayErr; rw [if_neg hk]) (by decide) (hM0.trans' hmr (fun g hg e => by omega)))
    have HB := hide (bo.row zeroNode)
    clear hmr hM0 hk HSZ HA
    go_wp2_with (first
      | ((with_reducible refine at_slot 15 ?_); refine wpList_val rfl (ex_build (ps := []) rfl (run_build31 _)) ?_; go_frame)
      | ((with_reducible refine at_none 31 4 15 ?_); refine wpList_store_row rfl 31 (.tmp 4) (.tmp 15) rfl m zeroNode rfl rfl 31 zeroNode bo infoZero rfl oneZero ?_; go_frame))
    have hl := run_loadVar_row (P := Tryd.prog) _ m 31 31 _ (0, 0) _ HB.out Tryd.underlying31 rfl infoZero
    exact ⟨rfl, .tuple #[.agg zeroNode, .int .i64 90], by simp [results, Tryd.results12, asAddr, hl], HF.out⟩
end Go.Proofs.YtabebkffcmajkaaDoor

/-! Plain law: the logs of files that the laws make; the runs of what they mean. -/
namespace Go.Proofs.YtabebkffcmajkaaDoor
open Go.RowKit Go.Maps Go.Shelf

structure SeedD where
  k : Int
  a : Int
  b : Int
  c : Int
  d : Int
  name : ByteArray
/-- the entry of a file that a seed makes -/
def wEnt (i : Nat) (x : SeedD) : EntD :=
  if 0 < x.k % 4 then ⟨1, i + 1, x.a % (513 - (1 + x.b % 16)), 1 + x.b % 16, 5 + x.c % (1020 - (1 + x.b % 16)), x.d % 262145, 0, ⟨#[]⟩⟩
  else ⟨2, i + 1, 0, 0, 0, x.d % 262145, 0, ⟨#[]⟩⟩
def wFrom : Nat → List SeedD → List EntD
  | _, [] => []
  | i, x :: l => wEnt i x :: wFrom (i + 1) l
def writtenL (l : List SeedD) : List EntD := wFrom 0 (l.take 60)
theorem wFrom_snoc : ∀ (l : List SeedD) (i : Nat) (x : SeedD), wFrom i (l ++ [x]) = wFrom i l ++ [wEnt (i + l.length) x]
  | [], i, x => rfl
  | y :: l, i, x => by
    show wEnt i y :: wFrom (i + 1) (l ++ [x]) = wEnt i y :: (wFrom (i + 1) l ++ [_])
    rw [wFrom_snoc l (i + 1) x, show i + 1 + l.length = i + (y :: l).length from by simp only [List.length_cons]; omega]
theorem wFrom_length : ∀ (l : List SeedD) (i : Nat), (wFrom i l).length = l.length
  | [], _ => rfl
  | _ :: l, i => by show (wFrom (i + 1) l).length + 1 = l.length + 1; rw [wFrom_length l]
theorem writtenL_length (l : List SeedD) : (writtenL l).length = min 60 l.length := by unfold writtenL; rw [wFrom_length, List.length_take]
/-- an entry that a file's log may have -/
structure FileE (e : EntD) : Prop where
  good : goodEnt (one e) = true
  kind : e.kind = 1 ∨ e.kind = 2
  size : 0 ≤ e.size ∧ e.size ≤ 262144
  off : 0 ≤ e.off ∧ e.off ≤ 512
  count : 0 ≤ e.count ∧ e.count ≤ 16
  page : 0 ≤ e.page ∧ e.page ≤ 1024
  run : e.kind = 1 → refRun ⟨e.off, e.page, e.count⟩ = true
theorem wi_iff' {n lo hi : Int} : wi n lo hi = true ↔ lo ≤ n ∧ n ≤ hi := by unfold wi; rw [Bool.and_eq_true, decide_eq_true_eq, decide_eq_true_eq]
theorem empty_toList : ((⟨#[]⟩ : ByteArray).toList.isEmpty) = true := by decide +kernel
theorem file_size_ent {z q : Int} (hz : 0 ≤ z ∧ z ≤ 262144) : goodEnt (one ⟨2, q, 0, 0, 0, z, 0, ⟨#[]⟩⟩) = true := by
  unfold goodEnt one seqB noPagesB sizeB noNameB roomB
  simp [wi_iff', empty_toList, hz]
theorem wEnt_file (i : Nat) (x : SeedD) : FileE (wEnt i x) := by
  have hd : 0 ≤ x.d % 262145 ∧ x.d % 262145 ≤ 262144 := by omega
  unfold wEnt
  by_cases hk : 0 < x.k % 4
  · rw [if_pos hk]
    have hb : 1 ≤ 1 + x.b % 16 ∧ 1 + x.b % 16 ≤ 16 := by omega
    obtain ⟨c, hc⟩ : ∃ c, c = 1 + x.b % 16 := ⟨_, rfl⟩
    rw [← hc] at hb ⊢
    have ho : 0 ≤ x.a % (513 - c) ∧ x.a % (513 - c) ≤ 512 - c := by
      have h1 := Int.emod_nonneg x.a (b := 513 - c) (by omega)
      have h2 := Int.emod_lt_of_pos x.a (b := 513 - c) (by omega)
      omega
    have hp : 0 ≤ x.c % (1020 - c) ∧ x.c % (1020 - c) ≤ 1019 - c := by
      have h1 := Int.emod_nonneg x.c (b := 1020 - c) (by omega)
      have h2 := Int.emod_lt_of_pos x.c (b := 1020 - c) (by omega)
      omega
    obtain ⟨o, ho'⟩ : ∃ o, o = x.a % (513 - c) := ⟨_, rfl⟩
    obtain ⟨p, hp'⟩ : ∃ p, p = 5 + x.c % (1020 - c) := ⟨_, rfl⟩
    rw [← ho'] at ho ⊢
    have hp2 : 5 ≤ p ∧ p ≤ 1024 - c := by omega
    rw [← hp']
    obtain ⟨z, hz⟩ : ∃ z, z = x.d % 262145 := ⟨_, rfl⟩
    rw [← hz] at hd ⊢
    refine ⟨?_, .inl rfl, hd, ⟨ho.1, by show o ≤ 512; omega⟩, ⟨by show 0 ≤ c; omega, hb.2⟩, ⟨by show 0 ≤ p; omega, by show p ≤ 1024; omega⟩, fun _ => ?_⟩
    · unfold goodEnt one seqB noPagesB sizeB noNameB roomB
      simp [wi_iff', empty_toList, hb, hd, ho, hp2]
    · rw [refRun_iff]
      exact ⟨ho.1, by show o < 512; omega, hb.1, by show c ≤ 512 - o; omega, hp2.1, by show p < 1024; omega, hp2.2⟩
  · rw [if_neg hk]
    exact ⟨file_size_ent hd, .inr rfl, hd, ⟨Int.le_refl _, by show (0 : Int) ≤ 512; omega⟩, ⟨Int.le_refl _, by show (0 : Int) ≤ 16; omega⟩, ⟨Int.le_refl _, by show (0 : Int) ≤ 1024; omega⟩, fun h => by simp at h⟩
theorem wFrom_file : ∀ (l : List SeedD) (i : Nat), ∀ e ∈ wFrom i l, FileE e
  | [], _, e, h => by cases h
  | x :: l, i, e, h => by
    rcases List.mem_cons.1 h with rfl | h
    · exact wEnt_file i x
    · exact wFrom_file l (i + 1) e h
theorem written_file (l : List SeedD) : ∀ e ∈ writtenL l, FileE e := wFrom_file _ 0

/-! ### what a file's log means -/
def lastSize (z : Int) (L : List EntD) : Int := (L.getLast?.map (·.size)).getD z
def playF (f : Nat → Int) (L : List EntD) : Nat → Int := L.foldl (fun f e => nextF e f) f
theorem lastSize_cons (z : Int) (e : EntD) (L : List EntD) : lastSize z (e :: L) = lastSize e.size L := by
  unfold lastSize
  cases L with
  | nil => rfl
  | cons y L => rw [List.getLast?_cons_cons, List.getLast?_cons]; rfl
theorem play_file : ∀ (L : List EntD) (z : Int) (f : Nat → Int), (∀ e ∈ L, FileE e) → playD (.file z f) L = (0, .file (lastSize z L) (playF f L))
  | [], z, f, _ => rfl
  | e :: L, z, f, h => by
    have he := h e (by simp)
    have hs : stepErr (.file z f) e = 0 := by
      unfold stepErr
      rw [if_neg (by rw [he.good]; decide), if_neg (show ¬ onOk e (.file z f) = false from by rw [show onOk e (.file z f) = decide (e.kind = 1 ∨ e.kind = 2) from rfl, decide_eq_true he.kind]; decide)]
    show (if stepErr (.file z f) e = 0 then playD (onD e (.file z f)) L else (stepErr (.file z f) e, .file z f)) = _
    rw [if_pos hs, onD_file, play_file L _ _ fun x hx => h x (by simp [hx]), lastSize_cons]
    rfl
theorem play_page : ∀ (L : List EntD) (f : Nat → Int), (∀ e ∈ L, FileE e) → PageF f → PageF (playF f L)
  | [], _, _, h => h
  | e :: L, f, h, hf => play_page L _ (fun x hx => h x (by simp [hx])) (next_page (h e (by simp)).good hf)
/-- looking back for the entry that settled a page -/
def atR : List EntD → Int → Int
  | [], _ => 0
  | e :: r, off => if endOf e.size ≤ off then 0 else if e.kind = 1 ∧ e.off ≤ off ∧ off < e.off + e.count then e.page + off - e.off else atR r off
theorem atR_cons (e : EntD) (r : List EntD) (off : Int) : atR (e :: r) off = if endOf e.size ≤ off then 0 else if e.kind = 1 ∧ e.off ≤ off ∧ off < e.off + e.count then e.page + off - e.off else atR r off := rfl
theorem nextF_at {e : EntD} (he : FileE e) (f : Nat → Int) (x : Nat) : nextF e f x = if endOf e.size ≤ x then 0 else if e.kind = 1 ∧ e.off ≤ x ∧ (x : Int) < e.off + e.count then e.page + x - e.off else f x := by
  unfold nextF cutF endOf
  split
  · rfl
  · by_cases hk : e.kind = 1
    · rw [if_pos hk]
      have := setRun_at f (he.run hk) x
      unfold setRun at this
      rw [this]
      by_cases hx : e.off ≤ x ∧ (x : Int) < e.off + e.count
      · rw [if_pos hx, if_pos ⟨hk, hx⟩]
        show e.page + ((x : Int) - e.off) = e.page + x - e.off
        omega
      · rw [if_neg hx, if_neg (fun h => hx h.2)]
    · rw [if_neg hk, if_neg (fun h => hk h.1)]
theorem at_playR (x : Nat) : ∀ (R : List EntD), (∀ e ∈ R, FileE e) → playF (fun _ => 0) R.reverse x = atR R x
  | [], _ => rfl
  | e :: R, h => by
    have ih := at_playR x R fun y hy => h y (by simp [hy])
    unfold playF at ih ⊢
    rw [List.reverse_cons, List.foldl_append]
    show nextF e (R.reverse.foldl _ _) x = _
    rw [nextF_at (h e (by simp)), ih]
    rfl
theorem at_play (x : Nat) (L : List EntD) (h : ∀ e ∈ L, FileE e) : playF (fun _ => 0) L x = atR L.reverse x := by
  have := at_playR x L.reverse fun e he => h e (List.mem_reverse.1 he)
  rw [List.reverse_reverse] at this
  exact this

/-! ### runs that stand apart and could not be longer -/
def Apart2 (a b : RunD) : Prop := a.off + a.count ≤ b.off ∧ ¬ (a.off + a.count = b.off ∧ a.page + a.count = b.page)
structure SepR (L : List RunD) (k : Int) : Prop where
  apart : L.Pairwise Apart2
  each : ∀ r ∈ L, 1 ≤ r.count ∧ 0 ≤ r.off ∧ r.off + r.count ≤ k
theorem runs_sep {f : Nat → Int} (hin : InR f) : ∀ k : Nat, k ≤ 512 → SepR (runsTo f k) k
  | 0, _ => ⟨.nil, fun r hr => by cases hr⟩
  | k + 1, hk => by
    have ih := runs_sep hin k (by omega)
    have hb := (runs_items hin k (by omega)).2
    by_cases h0 : f k = 0
    · unfold runsTo at *
      rw [itemsTo_zero h0]
      exact ⟨ih.apart, fun r hr => by have := ih.each r hr; push_cast; omega⟩
    · have hfk := hin k
      unfold runsTo at *
      rw [itemsTo_some h0, runsOf_snoc]
      obtain ⟨L, hL⟩ : ∃ L, L = runsOf (itemsTo f k) := ⟨_, rfl⟩
      rw [← hL] at ih hb ⊢
      rcases List.eq_nil_or_concat L with rfl | ⟨L', r, rfl⟩
      · rw [addRun_nil]
        refine ⟨List.pairwise_singleton _ _, fun r hr => ?_⟩
        obtain rfl := List.mem_singleton.1 hr
        exact ⟨Int.le_refl _, by show (0 : Int) ≤ k; omega, by show (k : Int) + 1 ≤ ((k + 1 : Nat) : Int); omega⟩
      · rw [List.concat_eq_append] at ih hb ⊢
        have hr := hb r (by simp)
        have hre := ih.each r (by simp)
        have hap := List.pairwise_append.1 ih.apart
        by_cases hc : wrap64 (r.off + r.count) = ((k : Int), f k).1 ∧ wrap64 (r.page + r.count) = ((k : Int), f k).2
        · rw [addRun_yes hc.1 hc.2]
          obtain ⟨h1, h2⟩ := hc
          rw [wrap_small (by omega) (by omega)] at h1 h2
          rw [wrap_small (by omega) (by omega)]
          refine ⟨List.pairwise_append.2 ⟨hap.1, List.pairwise_singleton _ _, fun a ha b hb' => ?_⟩, fun y hy => ?_⟩
          · obtain rfl := List.mem_singleton.1 hb'
            exact hap.2.2 a ha r (by simp)
          · rcases List.mem_append.1 hy with hy | hy
            · have := ih.each y (by simp [hy]); push_cast; omega
            · obtain rfl := List.mem_singleton.1 hy
              simp only at h1
              exact ⟨by show 1 ≤ r.count + 1; omega, hre.2.1, by show r.off + (r.count + 1) ≤ ((k + 1 : Nat) : Int); omega⟩
        · rw [addRun_no hc]
          rw [wrap_small (by omega) (by omega), wrap_small (by omega) (by omega)] at hc
          simp only at hc
          refine ⟨List.pairwise_append.2 ⟨ih.apart, List.pairwise_singleton _ _, fun a ha b hb' => ?_⟩, fun y hy => ?_⟩
          · obtain rfl := List.mem_singleton.1 hb'
            have hae := ih.each a ha
            refine ⟨hae.2.2, fun e => ?_⟩
            simp only at e
            rcases List.mem_append.1 ha with ha | ha
            · have := (hap.2.2 a ha r (by simp)).1
              omega
            · obtain rfl := List.mem_singleton.1 ha
              exact hc e
          · rcases List.mem_append.1 hy with hy | hy
            · have := ih.each y hy; push_cast; omega
            · obtain rfl := List.mem_singleton.1 hy
              exact ⟨Int.le_refl _, by show (0 : Int) ≤ k; omega, by show (k : Int) + 1 ≤ ((k + 1 : Nat) : Int); omega⟩
/-- the device page at a file page, by runs; false: two runs have it -/
def hasPage (r : RunD) (off : Int) : Prop := r.off ≤ off ∧ off - r.off < r.count
instance (r : RunD) (off : Int) : Decidable (hasPage r off) := inferInstanceAs (Decidable (_ ∧ _))
def mapGo : List RunD → Int → Int → Int × Bool
  | [], _, p => (p, true)
  | r :: l, off, p => if hasPage r off then if 0 < p then (0, false) else mapGo l off (r.page + off - r.off) else mapGo l off p
theorem mapGo_cons (r : RunD) (l : List RunD) (off p : Int) : mapGo (r :: l) off p = if hasPage r off then if 0 < p then (0, false) else mapGo l off (r.page + off - r.off) else mapGo l off p := rfl
theorem mapGo_none (off p : Int) : ∀ l : List RunD, (∀ r ∈ l, ¬ hasPage r off) → mapGo l off p = (p, true)
  | [], _ => rfl
  | r :: l, h => by unfold mapGo; rw [if_neg (h r (by simp))]; exact mapGo_none off p l fun x hx => h x (by simp [hx])
theorem mapGo_one {off : Int} : ∀ {l : List RunD}, l.Pairwise Apart2 → (∀ r ∈ l, 1 ≤ r.count) → ∀ r ∈ l, hasPage r off → mapGo l off 0 = (r.page + off - r.off, true)
  | y :: l, hp, hc, r, hr, h => by
    rw [List.pairwise_cons] at hp
    unfold mapGo
    rcases List.mem_cons.1 hr with rfl | hr
    · rw [if_pos h, if_neg (by omega)]
      refine mapGo_none _ _ l fun x hx => ?_
      have := (hp.1 x hx).1
      unfold hasPage at *
      omega
    · rw [if_neg (by have := (hp.1 r hr).1; have := hc y (by simp); unfold hasPage at *; omega)]
      exact mapGo_one hp.2 (fun x hx => hc x (by simp [hx])) r hr h
set_option maxRecDepth 100000 in
theorem mapGo_runs {f : Nat → Int} (hin : InR f) {x : Nat} (hx : x < 512) : mapGo (runsT f) x 0 = (f x, true) := by
  have hs := runs_sep hin 512 (Nat.le_refl _)
  have hi := (runs_items hin 512 (Nat.le_refl _)).1
  show mapGo (runsTo f 512) x 0 = _
  by_cases h : ∃ r ∈ runsTo f 512, hasPage r x
  · obtain ⟨r, hr, hp⟩ := h
    rw [mapGo_one hs.apart (fun r hr => (hs.each r hr).1) r hr hp]
    have he := hs.each r hr
    unfold hasPage at hp
    have hm : ((x : Int), r.page + (x - r.off)) ∈ itemsTo f 512 := by
      rw [← hi]
      refine List.mem_flatMap.2 ⟨r, hr, ?_⟩
      unfold runItems
      refine List.mem_map.2 ⟨(x - r.off).toNat, List.mem_range.2 (by omega), ?_⟩
      rw [Prod.mk.injEq]
      omega
    obtain ⟨y, hy, e, _⟩ := items_mem hm
    rw [Prod.mk.injEq] at e
    obtain ⟨e1, e2⟩ := e
    obtain rfl : x = y := by omega
    rw [← e2, Prod.mk.injEq]
    exact ⟨by omega, rfl⟩
  · rw [mapGo_none _ _ _ fun r hr hp => h ⟨r, hr, hp⟩]
    congr 1
    rcases Decidable.em (f x = 0) with e | e
    · exact e.symm
    · exfalso
      have hm : ((x : Int), f x) ∈ itemsTo f 512 := by
        unfold itemsTo itemsOf
        refine List.mem_map.2 ⟨x, List.mem_filter.2 ⟨List.mem_range.2 hx, ?_⟩, by simp⟩
        simp only [decide_eq_true_eq]
        exact ⟨e, by omega⟩
      rw [← hi] at hm
      obtain ⟨r, hr, hm⟩ := List.mem_flatMap.1 hm
      unfold runItems at hm
      obtain ⟨i, hi', e2⟩ := List.mem_map.1 hm
      have := List.mem_range.1 hi'
      rw [Prod.mk.injEq] at e2
      exact h ⟨r, hr, by unfold hasPage; omega⟩
end Go.Proofs.YtabebkffcmajkaaDoor

/-! Plain law: the logs of directories that the laws make. -/
namespace Go.Proofs.YtabebkffcmajkaaDoor
open Go.RowKit Go.Maps Go.Shelf

/-! ### a good name out of any text -/
def nameL (s : ByteArray) : List UInt8 := (s.data.toList.filter okByte).take 28
def nameOf (s : ByteArray) : ByteArray := if nameL s = [] ∨ nameL s = [46] ∨ nameL s = [46, 46] then ⟨#[97]⟩ else ⟨(nameL s).toArray⟩
theorem toList_mk (l : List UInt8) : (⟨l.toArray⟩ : ByteArray).toList = l := by
  rw [Go.Lib.toList_data]
theorem name_good (s : ByteArray) : goodName (nameOf s) = true := by
  unfold nameOf
  by_cases h : nameL s = [] ∨ nameL s = [46] ∨ nameL s = [46, 46]
  · rw [if_pos h]; decide +kernel
  · rw [if_neg h]
    have h1 : nameL s ≠ [] := fun e => h (.inl e)
    have h2 : nameL s ≠ [46] := fun e => h (.inr (.inl e))
    have h3 : nameL s ≠ [46, 46] := fun e => h (.inr (.inr e))
    unfold goodName
    rw [toList_mk]
    have hl : (nameL s).length ≤ 28 := by unfold nameL; rw [List.length_take]; omega
    have hp : 0 < (nameL s).length := List.length_pos_iff.2 h1
    have hz : (⟨(nameL s).toArray⟩ : ByteArray).size = (nameL s).length := by simp [ByteArray.size]
    rw [hz, decide_eq_true (p := 1 ≤ _) hp, decide_eq_true (p := _ ≤ 28) hl]
    have e2 : (nameL s == [46]) = false := by rw [beq_eq_false_iff_ne]; exact h2
    have e3 : (nameL s == [46, 46]) = false := by rw [beq_eq_false_iff_ne]; exact h3
    rw [e2, e3]
    simp only [Bool.not_false, Bool.true_and, Bool.and_true]
    rw [List.all_eq_true]
    intro x hx
    have hx2 : x ∈ nameL s := by simpa using hx
    exact (List.mem_filter.1 (List.mem_of_mem_take hx2)).2

/-! ### the log -/
def findR : List EntD → ByteArray → Int
  | [], _ => 0
  | e :: r, s => if e.name = s then e.ino else findR r s
theorem findR_cons (e : EntD) (r : List EntD) (s : ByteArray) : findR (e :: r) s = if e.name = s then e.ino else findR r s := rfl
def nEnt (out : List EntD) (x : SeedD) : EntD :=
  if 0 < findR out.reverse (nameOf x.name) then ⟨4, out.length + 1, 0, 0, 0, 0, 0, nameOf x.name⟩ else ⟨3, out.length + 1, 0, 0, 0, 0, 2 + x.a % 255, nameOf x.name⟩
def nFold (out : List EntD) (l : List SeedD) : List EntD := l.foldl (fun out x => out ++ [nEnt out x]) out
def namedL (l : List SeedD) : List EntD := nFold [] (l.take 60)
theorem nFold_snoc (out : List EntD) (l : List SeedD) (x : SeedD) : nFold out (l ++ [x]) = nFold out l ++ [nEnt (nFold out l) x] := by unfold nFold; rw [List.foldl_append]; rfl
theorem nFold_length : ∀ (l : List SeedD) (out : List EntD), (nFold out l).length = out.length + l.length
  | [], _ => rfl
  | x :: l, out => by
    show (nFold (out ++ [nEnt out x]) l).length = _
    rw [nFold_length l]; simp only [List.length_append, List.length_cons, List.length_nil]; omega
theorem namedL_length (l : List SeedD) : (namedL l).length = min 60 l.length := by unfold namedL; rw [nFold_length, List.length_take, List.length_nil]; omega
structure DirE (e : EntD) : Prop where
  good : goodEnt (one e) = true
  kind : e.kind = 3 ∨ e.kind = 4
  name : goodName e.name = true
  ino : 0 ≤ e.ino ∧ e.ino ≤ 256
  add : e.kind = 3 → 2 ≤ e.ino
  drop : e.kind = 4 → e.ino = 0
theorem drop_good {s : ByteArray} (q : Int) (hs : goodName s = true) : goodEnt (one ⟨4, q, 0, 0, 0, 0, 0, s⟩) = true := by
  unfold goodEnt one seqB noPagesB
  simp [hs]
theorem add_good {s : ByteArray} (q i : Int) (hs : goodName s = true) (hi : 2 ≤ i ∧ i ≤ 256) : goodEnt (one ⟨3, q, 0, 0, 0, 0, i, s⟩) = true := by
  unfold goodEnt one seqB noPagesB
  simp [hs, wi_iff', hi]
theorem nEnt_dir (out : List EntD) (x : SeedD) : DirE (nEnt out x) := by
  have hs := name_good x.name
  unfold nEnt
  split
  · exact ⟨drop_good _ hs, .inr rfl, hs, ⟨Int.le_refl _, by show (0 : Int) ≤ 256; omega⟩, fun h => by simp at h, fun _ => rfl⟩
  · have hi : 2 ≤ 2 + x.a % 255 ∧ 2 + x.a % 255 ≤ 256 := by omega
    exact ⟨add_good _ _ hs hi, .inl rfl, hs, ⟨by show 0 ≤ 2 + x.a % 255; omega, hi.2⟩, fun _ => hi.1, fun h => by simp at h⟩
theorem nFold_dir : ∀ (l : List SeedD) (out : List EntD), (∀ e ∈ out, DirE e) → ∀ e ∈ nFold out l, DirE e
  | [], _, h => h
  | x :: l, out, h => nFold_dir l _ fun e he => by
    rcases List.mem_append.1 he with he | he
    · exact h e he
    · obtain rfl := List.mem_singleton.1 he; exact nEnt_dir out x
theorem named_dir (l : List SeedD) : ∀ e ∈ namedL l, DirE e := nFold_dir _ _ fun e h => by cases h

/-! ### what it means -/
def findP (l : List (ByteArray × Int)) (s : ByteArray) : Int := match l with
  | [] => 0
  | x :: l => if x.1 = s then x.2 else findP l s
theorem findP_no {s : ByteArray} : ∀ {l : List (ByteArray × Int)}, (∀ x ∈ l, x.1 ≠ s) → findP l s = 0
  | [], _ => rfl
  | x :: l, h => by unfold findP; rw [if_neg (h x (by simp))]; exact findP_no fun y hy => h y (by simp [hy])
theorem findP_mem : ∀ {l : List (ByteArray × Int)} {x : ByteArray × Int}, Rises l → x ∈ l → findP l x.1 = x.2
  | y :: l, x, hr, hx => by
    unfold Rises at hr
    rw [List.pairwise_cons] at hr
    unfold findP
    rcases List.mem_cons.1 hx with rfl | hx
    · rw [if_pos rfl]
    · rw [if_neg, findP_mem hr.2 hx]
      intro e
      have := hr.1 x hx
      rw [e, strLt_irrefl] at this
      cases this
theorem findP_ins {p : ByteArray × Int} (s : ByteArray) : ∀ {l : List (ByteArray × Int)}, (∀ x ∈ l, x.1 ≠ p.1) → findP (insRec p l) s = if p.1 = s then p.2 else findP l s
  | [], _ => rfl
  | x :: l, h => by
    unfold insRec
    split
    · rfl
    · show (if x.1 = s then x.2 else findP (insRec p l) s) = if p.1 = s then p.2 else if x.1 = s then x.2 else findP l s
      rw [findP_ins s fun y hy => h y (by simp [hy])]
      by_cases e : x.1 = s
      · rw [if_pos e, if_neg (fun e2 => h x (by simp) (e.trans e2.symm)), if_pos e]
      · rw [if_neg e, if_neg e]
theorem findP_drop (k s : ByteArray) : ∀ (l : List (ByteArray × Int)), findP (dropL l k) s = if k = s then 0 else findP l s
  | [] => by unfold dropL findP; simp
  | x :: l => by
    have ih := findP_drop k s l
    unfold dropL at ih ⊢
    by_cases e : x.1 = k
    · rw [List.filter_cons_of_neg (by simp [e]), ih]
      by_cases e2 : k = s
      · rw [if_pos e2, if_pos e2]
      · rw [if_neg e2, if_neg e2]
        show _ = if x.1 = s then x.2 else findP l s
        rw [if_neg (fun e3 => e2 (e.symm.trans e3))]
    · rw [List.filter_cons_of_pos (by simp [e])]
      show (if x.1 = s then x.2 else findP _ s) = if k = s then 0 else if x.1 = s then x.2 else findP l s
      rw [ih]
      by_cases e2 : x.1 = s
      · rw [if_pos e2, if_neg (fun e3 => e (e2.trans e3.symm)), if_pos e2]
      · rw [if_neg e2, if_neg e2]
theorem hadL_find {l : List (ByteArray × Int)} (hg : ∀ x ∈ l, goodDent x = true) (s : ByteArray) : hadL l s = true ↔ 0 < findP l s := by
  induction l with
  | nil => unfold hadL findP; simp
  | cons x l ih =>
    have ih : hadL l s = true ↔ 0 < findP l s := ih fun y hy => hg y (by simp [hy])
    have hx := (goodDent_iff x).1 (hg x (by simp))
    have e1 : hadL (x :: l) s = (decide (x.1 = s) || hadL l s) := rfl
    have e2 : findP (x :: l) s = if x.1 = s then x.2 else findP l s := rfl
    rw [e1, e2]
    by_cases e : x.1 = s
    · rw [if_pos e, decide_eq_true e]
      simp; omega
    · rw [if_neg e, decide_eq_false e, Bool.false_or]
      exact ih
def thereL (n : Int) (L : List EntD) : Int := L.foldl (fun n e => if e.kind = 3 then n + 1 else n - 1) n
theorem insRec_length (p : ByteArray × Int) (l : List (ByteArray × Int)) : (insRec p l).length = l.length + 1 := (insRec_perm p l).length_eq
theorem dropL_length {l : List (ByteArray × Int)} (hr : Rises l) (s : ByteArray) (h : hadL l s = true) : (dropL l s).length + 1 = l.length := by
  induction l with
  | nil => unfold hadL at h; simp at h
  | cons x l ih =>
    unfold Rises at hr
    rw [List.pairwise_cons] at hr
    unfold dropL
    by_cases e : x.1 = s
    · rw [List.filter_cons_of_neg (by simp [e])]
      have : hadL l s = false := by
        unfold hadL
        rw [List.any_eq_false]
        intro y hy
        have h2 := hr.1 y hy
        simp only [decide_eq_true_eq]
        intro e2
        rw [e, e2, strLt_irrefl] at h2
        cases h2
      have h3 := dropL_no this
      unfold dropL at h3
      rw [h3]; rfl
    · rw [List.filter_cons_of_pos (by simp [e])]
      have h2 : hadL l s = true := by
        unfold hadL at h ⊢
        rw [List.any_cons, decide_eq_false e, Bool.false_or] at h
        exact h
      have := ih hr.2 h2
      unfold dropL at this
      simp only [List.length_cons]; omega
structure DirPlay (L : List EntD) (R : List Row) (nm : List (ByteArray × Int)) : Prop where
  play : playD (.dir []) L = (0, .dir R)
  is : DirIs R nm
  find : ∀ s, findR L.reverse s = findP nm s
  count : thereL 0 L = nm.length
theorem DirPlay.nil : DirPlay [] [] [] := ⟨rfl, ⟨.refl _, (fun _ h => by cases h), List.Pairwise.nil⟩, fun _ => rfl, rfl⟩
theorem hadL_ne {l : List (ByteArray × Int)} {s : ByteArray} (h : hadL l s = false) : ∀ x ∈ l, x.1 ≠ s := fun x hx e => by
  unfold hadL at h
  rw [List.any_eq_false] at h
  have := h x hx
  simp only [decide_eq_true_eq] at this
  exact this e
theorem DirPlay.snoc {L : List EntD} {R : List Row} {nm : List (ByteArray × Int)} (h : DirPlay L R nm) {e : EntD} (he : DirE e) (hf : e.kind = 4 ↔ 0 < findR L.reverse e.name) : ∃ R', DirPlay (L ++ [e]) R' (if e.kind = 3 then insRec (e.name, e.ino) nm else dropL nm e.name) := by
  have hh := hadL_find h.is.good e.name
  rw [h.find] at hf
  have hdo : dirOk { zeroN with names := nm } e = true := by
    unfold dirOk
    show (hadL nm e.name == decide (e.kind = 4)) = true
    rw [beq_iff_eq, Bool.eq_iff_iff, hh, decide_eq_true_eq]
    exact hf.symm
  have hok : onOk e (.dir R) = true := by
    rw [dir_ok_eq (n := { zeroN with names := nm }) h.is he.good, hdo, decide_eq_false (by have := he.kind; omega)]; rfl
  obtain ⟨R', h1, h2⟩ := dir_next (n := { zeroN with names := nm }) h.is he.good hok
  have hst : stepErr (.dir R) e = 0 := by unfold stepErr; rw [if_neg (by rw [he.good]; decide), if_neg (by rw [hok]; decide)]
  refine ⟨R', ?_, ?_, ?_, ?_⟩
  · rw [playD_snoc L _ _ e h.play, if_pos hst, h1]
  · unfold dirNames at h2
    by_cases h3 : e.kind = 3
    · rw [if_pos h3] at h2 ⊢
      have hno : hadL nm e.name = false := by
        cases hb : hadL nm e.name
        · rfl
        · have := hf.2 (hh.1 hb); omega
      simp only at h2
      rw [dropL_no hno, insL_eq] at h2
      exact h2
    · rw [if_neg h3] at h2 ⊢
      exact h2
  · intro s
    rw [List.reverse_append]
    show (if e.name = s then e.ino else findR L.reverse s) = _
    by_cases h3 : e.kind = 3
    · rw [if_pos h3]
      have hno : hadL nm e.name = false := by
        cases hb : hadL nm e.name
        · rfl
        · have := hf.2 (hh.1 hb); omega
      rw [findP_ins s (hadL_ne hno), h.find]
    · rw [if_neg h3, findP_drop, h.find, he.drop (by have := he.kind; omega)]
  · unfold thereL
    rw [List.foldl_append]
    show (if e.kind = 3 then thereL 0 L + 1 else thereL 0 L - 1) = _
    rw [h.count]
    by_cases h3 : e.kind = 3
    · rw [if_pos h3, if_pos h3, insRec_length]; push_cast; rfl
    · rw [if_neg h3, if_neg h3]
      have := dropL_length h.is.rises e.name (hh.2 (hf.1 (by have := he.kind; omega)))
      omega
theorem named_playR : ∀ (r : List SeedD), ∃ R nm, DirPlay (nFold [] r.reverse) R nm
  | [] => ⟨_, _, DirPlay.nil⟩
  | x :: r => by
    obtain ⟨R, nm, h⟩ := named_playR r
    rw [List.reverse_cons, nFold_snoc]
    obtain ⟨R', h'⟩ := h.snoc (nEnt_dir (nFold [] r.reverse) x) (by
      unfold nEnt
      split
      · rename_i h0; exact ⟨fun _ => h0, fun _ => rfl⟩
      · rename_i h0; exact ⟨fun e => by simp at e, fun e => absurd e h0⟩)
    exact ⟨R', _, h'⟩
theorem named_play (l : List SeedD) : ∃ R nm, DirPlay (nFold [] l) R nm := by
  have := named_playR l.reverse
  rw [List.reverse_reverse] at this
  exact this
end Go.Proofs.YtabebkffcmajkaaDoor

/-! Plain law: Apply on what Replay gives. -/
namespace Go.Proofs.YtabebkffcmajkaaDoor
open Go.RowKit Go.Maps Go.Shelf

/-- a file has no page behind its size -/
def FitD : SenseD → Prop
  | .file z f => ∀ x : Nat, endOf z ≤ x → f x = 0
  | .dir _ => True
theorem fit_zero (k : Int) : FitD (zeroD k) := by
  unfold zeroD
  split
  · exact fun _ _ => rfl
  · exact trivial
theorem fit_step (D : SenseD) (e : EntD) (h : WfD D) (he : stepErr D e = 0) : FitD (onD e D) := by
  obtain ⟨hg, ho⟩ := step_ok he
  cases D with
  | file z f =>
    intro x hx
    show cutF _ _ x = 0
    unfold cutF
    exact if_pos hx
  | dir R =>
    obtain ⟨l, hl⟩ := h
    obtain ⟨R', h1, _⟩ := dir_next (n := { zeroN with names := l }) hl hg ho
    rw [h1]; exact trivial
theorem end_le {z : Int} (h : 0 ≤ z ∧ z ≤ 262144) : endOf z ≤ 512 := by unfold endOf; omega
theorem node_good {D : SenseD} {j : Nat} (hw : WfD D) (hf : FitD D) : nodeGood (nodeOf D j) = true := by
  rw [← refGood_eq]
  unfold refGood
  cases D with
  | file z f =>
    rw [if_pos (show (nodeOf (.file z f) j).kind = 1 from rfl)]
    unfold refFile
    rw [nodeOf_map]
    have hr := runs_good hw.2
    have hz : (nodeOf (.file z f) j).size = z := rfl
    have hn : (nodeOf (.file z f) j).names = [] := rfl
    rw [hz, hn]
    have hi := (runs_items hw.2.inr 512 (Nat.le_refl _)).1
    have e1 : (runsT f).all (refEnd z) = true := by
      rw [List.all_eq_true]
      intro r hr'
      unfold refEnd
      rw [hr r hr', Bool.true_and, decide_eq_true_eq]
      have hr2 := (refRun_iff r).1 (hr r hr')
      have hm : (r.off + (r.count - 1), r.page + (r.count - 1)) ∈ itemsTo f 512 := by
        rw [← hi]
        refine List.mem_flatMap.2 ⟨r, hr', ?_⟩
        unfold runItems
        refine List.mem_map.2 ⟨(r.count - 1).toNat, List.mem_range.2 (by omega), ?_⟩
        rw [Prod.mk.injEq]
        omega
      obtain ⟨y, hy, e, hy0⟩ := items_mem hm
      rw [Prod.mk.injEq] at e
      rcases Int.lt_or_le y (endOf z) with hlt | hge
      · omega
      · exact absurd (hf y hge) hy0
    have e2 : runsT f = runsT (tableOf (runsT f)) := runsT_congr fun i hi => (table_runs hw.2.inr i hi).symm
    rw [e1, ← e2, decide_eq_true hw.1]
    simp
  | dir R =>
    obtain ⟨l, hl⟩ := hw
    rw [if_neg (show ¬ (nodeOf (.dir R) j).kind = 1 from by show ¬ (2 : Int) = 1; decide), if_pos (show (nodeOf (.dir R) j).kind = 2 from rfl)]
    unfold refDir
    have hn : (nodeOf (.dir R) j).names = l := hl.names
    rw [hn, show (nodeOf (.dir R) j).size = 0 from rfl, show (nodeOf (.dir R) j).map = [] from rfl, decide_eq_true hl.rises]
    simp only [decide_true, List.length_nil, Bool.true_and, Bool.and_true, List.all_eq_true]
    exact hl.good
theorem applyErr_node {D : SenseD} {j : Nat} (hw : WfD D) (hf : FitD D) (e : EntD) : applyErr (nodeOf D j) e = stepErr D e := by
  rw [apply_err]
  unfold errA
  rw [if_pos (node_good hw hf), step_err e j hw]
theorem applyN_node {D : SenseD} {j : Nat} (hw : WfD D) (hf : FitD D) {e : EntD} (he : stepErr D e = 0) (hj : j ≤ 1000000) : applyN (nodeOf D j) e = nodeOf (onD e D) (j + 1) := by
  rw [apply_node]
  unfold nodeA
  rw [if_pos (node_good hw hf), step_node hw he hj]
theorem applyN_bad {n : NodeD} {e : EntD} (h : applyErr n e ≠ 0) : applyN n e = zeroN := by unfold applyN; rw [if_neg h]
theorem play_fit : ∀ (L : List EntD) (D : SenseD), WfD D → FitD D → (playD D L).1 = 0 → WfD (playD D L).2 ∧ FitD (playD D L).2
  | [], _, h1, h2, _ => ⟨h1, h2⟩
  | e :: L, D, h1, h2, h => by
    have e1 : playD D (e :: L) = if stepErr D e = 0 then playD (onD e D) L else (stepErr D e, D) := rfl
    rw [e1] at h ⊢
    by_cases h0 : stepErr D e = 0
    · rw [if_pos h0] at h ⊢
      exact play_fit L _ (step_wf h1 h0) (fit_step D e h1 h0) h
    · rw [if_neg h0] at h
      exact absurd h h0
theorem replay_ok {k : Int} {L : List EntD} {D : SenseD} (hk : k = 1 ∨ k = 2) (h : playD (zeroD k) L = (0, D)) : replayErr k L = 0 ∧ replayN k L = nodeOf D L.length ∧ WfD D ∧ FitD D := by
  have h1 : replayErr k L = 0 := by unfold replayErr; rw [if_pos hk, h]
  have h2 := play_fit L (zeroD k) (wf_zero k) (fit_zero k) (by rw [h])
  rw [h] at h2
  refine ⟨h1, ?_, h2.1, h2.2⟩
  unfold replayN
  rw [if_pos h1, h]
  rfl
/-- the sequence number says nothing -/
theorem stepErr_seq (D : SenseD) (e : EntD) (q : Int) : stepErr D { e with seq := q } = stepErr D e := by
  cases D <;> rfl
theorem onD_seq (D : SenseD) (e : EntD) (q : Int) : onD { e with seq := q } D = onD e D := by
  cases D <;> rfl
theorem written_replay (l : List SeedD) : ∃ f, playD (zeroD 1) (writtenL l) = (0, .file (lastSize 0 (writtenL l)) f) ∧ (∀ x : Nat, f x = atR (writtenL l).reverse x) :=
  ⟨_, play_file (writtenL l) 0 _ (written_file l), fun x => at_play x _ (written_file l)⟩
theorem named_replay (l : List SeedD) : ∃ R nm, DirPlay (namedL l) R nm := named_play (l.take 60)
/-- what a file's page and the runs of it say -/
theorem map_at {z : Int} {f : Nat → Int} {j : Nat} (h : PageF f) {x : Nat} (hx : x < 512) : mapGo (nodeOf (.file z f) j).map x 0 = (f x, true) := by rw [nodeOf_map]; exact mapGo_runs h.inr hx
end Go.Proofs.YtabebkffcmajkaaDoor

/-! Walks of the law's own: mod, ends. -/
namespace Go.Proofs.YtabebkffcmajkaaDoor
open Go.RowKit Go.Maps Go.Shelf
attribute [local go_sem] quietV loudUpon Oper.semAt_some

theorem mod_any (v n : Int) (w : World) (hv : I64 v) (h0 : 0 < n) (h1 : n ≤ 1000000) : Calls Tryd.prog 27 #[.int .i64 v, .int .i64 n] w fun e w' => e = .returned (.int .i64 (v % n)) ∧ w = w' := by
  have hz : (n == 0) = false := by simp; omega
  have hm0 := Int.emod_nonneg v (b := n) (by omega)
  have hm1 := Int.emod_lt_of_pos v (b := n) h0
  by_cases hc : 0 ≤ v ∨ v % n = 0
  · have ht : v.tmod n = v % n := by
      rw [Int.tmod_eq_emod]
      rcases hc with hc | hc
      · simp [hc]
      · have : n ∣ v := Int.dvd_of_emod_eq_zero hc
        simp [this]
    have hge : decide (v % n < 0) = false := decide_eq_false (by omega)
    generalize v % n = r at *
    go_enter Tryd.func27, Tryd.ntmps27
    go_wp2
    go_ret
    exact ⟨rfl, rfl⟩
  · have ht : v.tmod n = v % n - n := by
      rw [Int.tmod_eq_emod]
      have h1 : ¬ 0 ≤ v := fun h => hc (.inl h)
      have : ¬ n ∣ v := fun h => hc (.inr (Int.emod_eq_zero_of_dvd h))
      simp [h1, this]; omega
    obtain ⟨q, hq⟩ : ∃ q, q = v % n - n := ⟨_, rfl⟩
    have hge : decide (q < 0) = true := decide_eq_true (by omega)
    have HE : Hid (q + n = v % n) := hide (by omega)
    have hq1 : -1000000 ≤ q := by omega
    have hq2 : q < 0 := by omega
    rw [← hq] at ht
    clear hq hc hm0 hm1
    go_enter Tryd.func27, Tryd.ntmps27
    go_wp2
    go_ret
    refine ⟨?_, rfl⟩
    show Ending.returned (.int .i64 (q + n)) = _
    rw [HE.out]
theorem ends_any (n : Int) (w : World) (h0 : 0 ≤ n) (h1 : n ≤ 262144) : Calls Tryd.prog 29 #[.int .i64 n] w fun e w' => e = .returned (.int .i64 ((n + 511) / 512)) ∧ w = w' := by
  go_enter Tryd.func29, Tryd.ntmps29
  go_wp2
  go_ret
  simp
end Go.Proofs.YtabebkffcmajkaaDoor

/-! Walks of the law's own: at, mapped, longest, find. -/
namespace Go.Proofs.YtabebkffcmajkaaDoor
open Go.RowKit Go.Maps Go.Shelf
attribute [local go_sem] quietV loudUpon Oper.semAt_some

theorem take_rev {α : Type} {L : List α} {j : Nat} (h : j < L.length) : (L.take (j + 1)).reverse = L[j] :: (L.take j).reverse := by
  rw [List.take_succ_eq_append_getElem h, List.reverse_append]; rfl

set_option maxRecDepth 100000 in
set_option maxHeartbeats 2000000 in
theorem at_any (w : World) (v : Value) (L : List EntD) (h : ListAt encEntry 8 w v L) (hF : ∀ e ∈ L, FileE e) (off : Int) (ho : 0 ≤ off) (ho2 : off ≤ 100000) : Calls Tryd.prog 19 #[v, .int .i64 off] w fun e w' => e = .returned (.int .i64 (atR L.reverse off)) ∧ Mod None_ w w' := by
  obtain ⟨A, c, rfl, hc1, hc2, hA⟩ := h
  unfold maxLen at hc2
  have hll : ∀ w, (Builtin.len_ #[22] 3 #[.slice A L.length c]).run Tryd.prog w = .ok (.int .i64 L.length) w := fun w => by simp [Builtin.len_, run_underlying Tryd.underlying22]; rfl
  have HA := hide hA
  have HF := hide hF
  clear hA hF
  go_enter Tryd.func19, Tryd.ntmps19
  go_wp2_with fail
  go_loopw [5] (fun s5 wr => ∃ (k : Nat) (z : Int), k ≤ L.length ∧ s5 = .int .i64 z ∧ z = (k : Int) - 1 ∧ atR L.reverse off = atR (L.take k).reverse off ∧ Mod None_ w wr) (fun s5 _ => (intOf s5 + 1).toNat)
  case atStart => exact ⟨L.length, _, Nat.le_refl _, rfl, rfl, by rw [List.take_length], Mod.refl _ _⟩
  obtain ⟨k, z, hk, rfl, hz, hat, hM⟩ := hrel
  cases k with
  | zero =>
    have hz1 : z = -1 := by omega
    subst hz1
    have HT : Hid (atR L.reverse off = 0) := hide (by rw [hat]; rfl)
    clear hat hz
    go_wp2
    go_ret
    exact ⟨by rw [HT.out]; rfl, hM⟩
  | succ j =>
    have hz1 : z = (j : Int) := by omega
    subst hz1
    have hji : ¬ (j : Int) < 0 := by omega
    have hji2 : (j : Int) < L.length := by omega
    have hj : j < L.length := by omega
    rw [take_rev hj] at hat
    obtain ⟨g, o, rfl, hg, hc⟩ := HA.out (by omega)
    have hx := hc j hj
    have hf := HF.out L[j] (List.getElem_mem hj)
    obtain ⟨e, he⟩ : ∃ e, e = L[j] := ⟨_, rfl⟩
    rw [← he] at hx hf hat
    have x0 : wr.cell? ⟨g, o + j * 8, none⟩ = some (.int .i64 e.kind) := (World.cell?_of_block (hM.block g hg id)).trans (hx 0 _ rfl)
    have x2 : wr.cell? ⟨g, o + j * 8 + 2, none⟩ = some (.int .i64 e.off) := (World.cell?_of_block (hM.block g hg id)).trans (hx 2 _ rfl)
    have x3 : wr.cell? ⟨g, o + j * 8 + 3, none⟩ = some (.int .i64 e.count) := (World.cell?_of_block (hM.block g hg id)).trans (hx 3 _ rfl)
    have x4 : wr.cell? ⟨g, o + j * 8 + 4, none⟩ = some (.int .i64 e.page) := (World.cell?_of_block (hM.block g hg id)).trans (hx 4 _ rfl)
    have x5 : wr.cell? ⟨g, o + j * 8 + 5, none⟩ = some (.int .i64 e.size) := (World.cell?_of_block (hM.block g hg id)).trans (hx 5 _ rfl)
    obtain ⟨hs1, hs2⟩ := hf.size
    obtain ⟨hp1, hp2⟩ := hf.off
    obtain ⟨hq1, hq2⟩ := hf.count
    obtain ⟨hr1, hr2⟩ := hf.page
    have hgr : g < wr.heap.size := Nat.lt_of_lt_of_le hg hM.size
    have ew1 : IntKind.i64.wrap (e.off + e.count) = e.off + e.count := IntWalk.i64_in _ (by omega)
    have ew2 : IntKind.i64.wrap (e.page + off) = e.page + off := IntWalk.i64_in _ (by omega)
    have ew3 : IntKind.i64.wrap (e.page + off - e.off) = e.page + off - e.off := IntWalk.i64_in _ (by omega)
    have HAT := hide hat
    clear hz hat hc hx hf he
    go_wp2_with fail
    refine (ends_any e.size wr hs1 hs2).mono ?_
    rintro x w2 ⟨rfl, rfl⟩
    by_cases hen : endOf e.size ≤ off
    · have HT : Hid (atR L.reverse off = 0) := hide (by rw [HAT.out, atR_cons, if_pos hen])
      have hlt : ¬ off < (e.size + 511) / 512 := by unfold endOf at hen; omega
      clear HAT hen
      go_wp2
      go_ret
      exact ⟨by rw [HT.out]; rfl, hM⟩
    · have hlt : off < (e.size + 511) / 512 := by unfold endOf at hen; omega
      have HB : Hid (atR L.reverse off = if e.kind = 1 ∧ e.off ≤ off ∧ off < e.off + e.count then e.page + off - e.off else atR (L.take j).reverse off) := hide (by rw [HAT.out, atR_cons, if_neg hen])
      clear HAT hen
      go_upto_region 6 with fail
      by_cases hin : e.kind = 1 ∧ e.off ≤ off ∧ off < e.off + e.count
      · have HT : Hid (atR L.reverse off = e.page + off - e.off) := hide (by rw [HB.out, if_pos hin])
        obtain ⟨hk1, hlo, hhi⟩ := hin
        have k1 : (e.kind == 1) = true := by simp [hk1]
        clear HB hk1
        refine region_stw (by kernel_rfl) (by kernel_rfl) ?_
        rintro w3 hw3
        have hm3 : Mod None_ wr w3 := by rw [hw3]; exact (Mod.refl _ wr).drew
        replace x0 := (World.cell?_of_block (hm3.block g hgr id)).trans x0
        replace x2 := (World.cell?_of_block (hm3.block g hgr id)).trans x2
        replace x3 := (World.cell?_of_block (hm3.block g hgr id)).trans x3
        replace x4 := (World.cell?_of_block (hm3.block g hgr id)).trans x4
        have hM3 := hM.trans hm3
        have hgr3 : g < w3.heap.size := Nat.lt_of_lt_of_le hgr hm3.size
        clear hw3 hM hm3 x5
        repeat (refine stw_step (fun K hK => ?_); go_simp; refine hK _ ?_; clear hK K)
        refine stw_nil ?_
        go_wp2_with fail
        refine region_stw (by kernel_rfl) (by kernel_rfl) ?_
        rintro w4 hw4
        have hm4 : Mod None_ w3 w4 := by rw [hw4]; exact (Mod.refl _ w3).drew
        replace x2 := (World.cell?_of_block (hm4.block g hgr3 id)).trans x2
        replace x4 := (World.cell?_of_block (hm4.block g hgr3 id)).trans x4
        have HM := hide (hM3.trans hm4)
        clear hw4 hM3 hm4 x0 x3
        repeat (refine stw_step (fun K hK => ?_); go_simp; refine hK _ ?_; clear hK K)
        refine stw_nil ?_
        go_wp2
        go_ret
        exact ⟨by rw [HT.out]; rfl, HM.out⟩
      · have HT : Hid (atR L.reverse off = atR (L.take j).reverse off) := hide (by rw [HB.out, if_neg hin])
        have hcase : (e.kind == 1) = false ∨ ((e.kind == 1) = true ∧ ¬ e.off ≤ off) ∨ ((e.kind == 1) = true ∧ e.off ≤ off ∧ ¬ off < e.off + e.count) := by
          by_cases a : e.kind = 1
          · by_cases b : e.off ≤ off
            · exact .inr (.inr ⟨by simp [a], b, fun c => hin ⟨a, b, c⟩⟩)
            · exact .inr (.inl ⟨by simp [a], b⟩)
          · exact .inl (by simp [a])
        clear HB hin
        rcases hcase with k1 | ⟨k1, k2⟩ | ⟨k1, k2, k3⟩
        all_goals (
          refine region_stw (by kernel_rfl) (by kernel_rfl) ?_
          rintro w3 hw3
          have hm3 : Mod None_ wr w3 := by rw [hw3]; exact (Mod.refl _ wr).drew
          replace x0 := (World.cell?_of_block (hm3.block g hgr id)).trans x0
          replace x2 := (World.cell?_of_block (hm3.block g hgr id)).trans x2
          replace x3 := (World.cell?_of_block (hm3.block g hgr id)).trans x3
          have hM3 := hM.trans hm3
          clear hw3 hM hm3 x5 x4
          repeat (refine stw_step (fun K hK => ?_); go_simp; refine hK _ ?_; clear hK K)
          refine stw_nil ?_
          go_wp2_with fail
          go_roundw
          case rel => exact ⟨j, _, by omega, rfl, by omega, HT.out, hM3⟩
          case measure => simp [intOf])

set_option maxRecDepth 100000 in
set_option maxHeartbeats 2000000 in
theorem find_any (w : World) (v : Value) (L : List EntD) (s : ByteArray) (h : ListAt encEntry 8 w v L) : Calls Tryd.prog 25 #[v, .int .i64 L.length, .string s] w fun e w' => e = .returned (.int .i64 (findR L.reverse s)) ∧ Mod None_ w w' := by
  obtain ⟨A, c, rfl, hc1, hc2, hA⟩ := h
  unfold maxLen at hc2
  have HA := hide hA
  clear hA
  go_enter Tryd.func25, Tryd.ntmps25
  go_wp2_with fail
  go_loopw [7] (fun s5 wr => ∃ (k : Nat) (z : Int), k ≤ L.length ∧ s5 = .int .i64 z ∧ z = (k : Int) - 1 ∧ findR L.reverse s = findR (L.take k).reverse s ∧ Mod None_ w wr) (fun s5 _ => (intOf s5 + 1).toNat)
  case atStart => exact ⟨L.length, _, Nat.le_refl _, rfl, rfl, by rw [List.take_length], Mod.refl _ _⟩
  obtain ⟨k, z, hk, rfl, hz, hat, hM⟩ := hrel
  cases k with
  | zero =>
    have hz1 : z = -1 := by omega
    subst hz1
    have HT : Hid (findR L.reverse s = 0) := hide (by rw [hat]; rfl)
    clear hat hz
    go_wp2
    go_ret
    exact ⟨by rw [HT.out]; rfl, hM⟩
  | succ j =>
    have hz1 : z = (j : Int) := by omega
    subst hz1
    have hji : ¬ (j : Int) < 0 := by omega
    have hji2 : (j : Int) < L.length := by omega
    have hj : j < L.length := by omega
    rw [take_rev hj] at hat
    obtain ⟨g, o, rfl, hg, hc⟩ := HA.out (by omega)
    have hx := hc j hj
    obtain ⟨e, he⟩ : ∃ e, e = L[j] := ⟨_, rfl⟩
    rw [← he] at hx hat
    have x6 : wr.cell? ⟨g, o + j * 8 + 6, none⟩ = some (.int .i64 e.ino) := (World.cell?_of_block (hM.block g hg id)).trans (hx 6 _ rfl)
    have x7 : wr.cell? ⟨g, o + j * 8 + 7, none⟩ = some (.string e.name) := (World.cell?_of_block (hM.block g hg id)).trans (hx 7 _ rfl)
    by_cases hn : e.name = s
    · have HT : Hid (findR L.reverse s = e.ino) := hide (by rw [hat, findR_cons, if_pos hn])
      have k1 : (e.name.toList == s.toList) = true := by rw [eqStr, decide_eq_true hn]
      clear hz hat hc hx he hn
      go_wp2
      go_ret
      exact ⟨by rw [HT.out]; rfl, hM⟩
    · have HT : Hid (findR L.reverse s = findR (L.take j).reverse s) := hide (by rw [hat, findR_cons, if_neg hn])
      have k1 : (e.name.toList == s.toList) = false := by rw [eqStr, decide_eq_false hn]
      clear hz hat hc hx he hn
      go_wp2_with fail
      go_roundw
      case rel => exact ⟨j, _, by omega, rfl, by omega, HT.out, hM⟩
      case measure => simp [intOf]

set_option maxRecDepth 100000 in
set_option maxHeartbeats 2000000 in
theorem mapped_any (w : World) (v : Value) (L : List RunD) (h : ListAt encRun 3 w v L) (hF : ∀ r ∈ L, refRun r = true) (off : Int) (ho : 0 ≤ off) (ho2 : off ≤ 100000) :
    Calls Tryd.prog 18 #[v, .int .i64 off] w fun e w' => e = .returned (.tuple #[.int .i64 (mapGo L off 0).1, .bool (mapGo L off 0).2]) ∧ Mod None_ w w' := by
  obtain ⟨A, c, rfl, hc1, hc2, hA⟩ := h
  unfold maxLen at hc2
  have hll : ∀ w, (Builtin.len_ #[27] 3 #[.slice A L.length c]).run Tryd.prog w = .ok (.int .i64 L.length) w := fun w => by simp [Builtin.len_, run_underlying Tryd.underlying27]; rfl
  have HA := hide hA
  have HF := hide hF
  clear hA hF
  go_enter Tryd.func18, Tryd.ntmps18
  go_wp2_with fail
  go_loopw [7, 6] (fun s7 s6 wr => ∃ (k : Nat) (p : Int), k ≤ L.length ∧ s7 = .int .i64 k ∧ s6 = .int .i64 p ∧ (0 ≤ p ∧ p ≤ 1000000) ∧ mapGo L off 0 = mapGo (L.drop k) off p ∧ Mod None_ w wr) (fun s7 _ _ => L.length - (intOf s7).toNat)
  case atStart => exact ⟨0, 0, Nat.zero_le _, rfl, rfl, by omega, rfl, Mod.refl _ _⟩
  obtain ⟨k, p, hk, rfl, rfl, ⟨hp0, hp1⟩, hat, hM⟩ := hrel
  by_cases hlt : k < L.length
  · have hki : (k : Int) < L.length := by omega
    rw [List.drop_eq_getElem_cons hlt] at hat
    obtain ⟨g, o, rfl, hg, hc⟩ := HA.out (by omega)
    have hx := hc k hlt
    have hr := (refRun_iff L[k]).1 (HF.out L[k] (List.getElem_mem hlt))
    obtain ⟨r, he⟩ : ∃ r, r = L[k] := ⟨_, rfl⟩
    rw [← he] at hx hr hat
    have x0 : wr.cell? ⟨g, o + k * 3, none⟩ = some (.int .i64 r.off) := (World.cell?_of_block (hM.block g hg id)).trans (hx 0 _ rfl)
    have x1 : wr.cell? ⟨g, o + k * 3 + 1, none⟩ = some (.int .i64 r.page) := (World.cell?_of_block (hM.block g hg id)).trans (hx 1 _ rfl)
    have x2 : wr.cell? ⟨g, o + k * 3 + 2, none⟩ = some (.int .i64 r.count) := (World.cell?_of_block (hM.block g hg id)).trans (hx 2 _ rfl)
    obtain ⟨r1, r2, r3, r4, r5, r6, r7⟩ := hr
    have hgr : g < wr.heap.size := Nat.lt_of_lt_of_le hg hM.size
    have ew1 : IntKind.i64.wrap (off - r.off) = off - r.off := IntWalk.i64_in _ (by omega)
    have ew2 : IntKind.i64.wrap (r.page + off) = r.page + off := IntWalk.i64_in _ (by omega)
    have ew3 : IntKind.i64.wrap (r.page + off - r.off) = r.page + off - r.off := IntWalk.i64_in _ (by omega)
    have HAT := hide hat
    clear hat hc hx he
    go_upto_region 5 with fail
    by_cases hin : hasPage r off
    · have hgo : mapGo L off 0 = if 0 < p then (0, false) else mapGo (L.drop (k + 1)) off (r.page + off - r.off) := by
        rw [HAT.out, mapGo_cons, if_pos hin]
      have HG := hide hgo
      unfold hasPage at hin
      obtain ⟨hin1, hin2⟩ := hin
      clear HAT hgo
      refine region_stw (by kernel_rfl) (by kernel_rfl) ?_
      rintro w3 hw3
      have hm3 : Mod None_ wr w3 := by rw [hw3]; exact (Mod.refl _ wr).drew
      replace x0 := (World.cell?_of_block (hm3.block g hgr id)).trans x0
      replace x1 := (World.cell?_of_block (hm3.block g hgr id)).trans x1
      replace x2 := (World.cell?_of_block (hm3.block g hgr id)).trans x2
      have hM3 := hM.trans hm3
      have hgr3 : g < w3.heap.size := Nat.lt_of_lt_of_le hgr hm3.size
      clear hw3 hM hm3
      repeat (refine stw_step (fun K hK => ?_); go_simp; refine hK _ ?_; clear hK K)
      refine stw_nil ?_
      by_cases hpp : 0 < p
      · have HT : Hid (mapGo L off 0 = (0, false)) := hide (by rw [HG.out, if_pos hpp])
        clear HG
        go_wp2
        go_ret2
        exact ⟨by rw [HT.out]; rfl, hM3⟩
      · have HT : Hid (mapGo L off 0 = mapGo (L.drop (k + 1)) off (r.page + off - r.off)) := hide (by rw [HG.out, if_neg hpp])
        clear HG
        go_wp2_with fail
        refine region_stw (by kernel_rfl) (by kernel_rfl) ?_
        rintro w4 hw4
        have hm4 : Mod None_ w3 w4 := by rw [hw4]; exact (Mod.refl _ w3).drew
        replace x0 := (World.cell?_of_block (hm4.block g hgr3 id)).trans x0
        replace x1 := (World.cell?_of_block (hm4.block g hgr3 id)).trans x1
        have HM := hide (hM3.trans hm4)
        clear hw4 hM3 hm4 x2
        repeat (refine stw_step (fun K hK => ?_); go_simp; refine hK _ ?_; clear hK K)
        refine stw_nil ?_
        go_wp2_with fail
        go_roundw
        case rel => exact ⟨k + 1, _, by omega, by simp, rfl, by omega, HT.out, HM.out⟩
        case measure => simp [intOf]; omega
    · have HT : Hid (mapGo L off 0 = mapGo (L.drop (k + 1)) off p) := hide (by
        rw [HAT.out, mapGo_cons, if_neg hin])
      have hcase : ¬ r.off ≤ off ∨ (r.off ≤ off ∧ ¬ off - r.off < r.count) := by
        unfold hasPage at hin
        by_cases b : r.off ≤ off
        · exact .inr ⟨b, fun c => hin ⟨b, c⟩⟩
        · exact .inl b
      clear HAT hin
      rcases hcase with k1 | ⟨k1, k2⟩
      all_goals (
        refine region_stw (by kernel_rfl) (by kernel_rfl) ?_
        rintro w3 hw3
        have hm3 : Mod None_ wr w3 := by rw [hw3]; exact (Mod.refl _ wr).drew
        replace x0 := (World.cell?_of_block (hm3.block g hgr id)).trans x0
        replace x2 := (World.cell?_of_block (hm3.block g hgr id)).trans x2
        have hM3 := hM.trans hm3
        clear hw3 hM hm3 x1
        repeat (refine stw_step (fun K hK => ?_); go_simp; refine hK _ ?_; clear hK K)
        refine stw_nil ?_
        go_wp2_with fail
        go_roundw
        case rel => exact ⟨k + 1, _, by omega, by simp, rfl, by omega, HT.out, hM3⟩
        case measure => simp [intOf]; omega)
  · have hki : ¬ (k : Int) < L.length := by omega
    have HT : Hid (mapGo L off 0 = (p, true)) := hide (by rw [hat, List.drop_of_length_le (by omega)]; rfl)
    clear hat
    go_wp2
    go_ret2
    exact ⟨by rw [HT.out]; rfl, hM⟩

end Go.Proofs.YtabebkffcmajkaaDoor

/-! Walk of the law's own: longest. -/
namespace Go.Proofs.YtabebkffcmajkaaDoor
open Go.RowKit Go.Maps Go.Shelf
attribute [local go_sem] quietV loudUpon Oper.semAt_some

set_option maxRecDepth 100000 in
set_option maxHeartbeats 2000000 in
theorem longest_any (w : World) (v : Value) (L : List RunD) (h : ListAt encRun 3 w v L) (hF : ∀ r ∈ L, refRun r = true) (hA2 : L.Pairwise Apart2) :
    Calls Tryd.prog 17 #[v] w (BoolPost w true) := by
  obtain ⟨A, c, rfl, hc1, hc2, hA⟩ := h
  unfold maxLen at hc2
  have hll : ∀ w, (Builtin.len_ #[27] 3 #[.slice A L.length c]).run Tryd.prog w = .ok (.int .i64 L.length) w := fun w => by simp [Builtin.len_, run_underlying Tryd.underlying27]; rfl
  have HA := hide hA
  have HF := hide hF
  have HP := hide hA2
  clear hA hF hA2
  go_enter Tryd.func17, Tryd.ntmps17
  go_wp2_with fail
  go_loopw [3] (fun s3 wr => ∃ (k : Nat), k ≤ L.length ∧ s3 = .int .i64 k ∧ Mod None_ w wr) (fun s3 _ => L.length - (intOf s3).toNat)
  case atStart => exact ⟨0, Nat.zero_le _, rfl, Mod.refl _ _⟩
  obtain ⟨k, hk, rfl, hM⟩ := hrel
  by_cases hlt : k < L.length
  · have hki : (k : Int) < L.length := by omega
    obtain ⟨g, o, rfl, hg, hc⟩ := HA.out (by omega)
    have hx := hc k hlt
    have hr := (refRun_iff L[k]).1 (HF.out L[k] (List.getElem_mem hlt))
    obtain ⟨r, he⟩ : ∃ r, r = L[k] := ⟨_, rfl⟩
    rw [← he] at hx hr
    have x0 : wr.cell? ⟨g, o + k * 3, none⟩ = some (.int .i64 r.off) := (World.cell?_of_block (hM.block g hg id)).trans (hx 0 _ rfl)
    have x1 : wr.cell? ⟨g, o + k * 3 + 1, none⟩ = some (.int .i64 r.page) := (World.cell?_of_block (hM.block g hg id)).trans (hx 1 _ rfl)
    have x2 : wr.cell? ⟨g, o + k * 3 + 2, none⟩ = some (.int .i64 r.count) := (World.cell?_of_block (hM.block g hg id)).trans (hx 2 _ rfl)
    obtain ⟨r1, r2, r3, r4, r5, r6, r7⟩ := hr
    have hgr : g < wr.heap.size := Nat.lt_of_lt_of_le hg hM.size
    have HE := hide he
    have HC := hide hc
    have d1 : ¬ r.count < 1 := by omega
    have d2 : ¬ r.off < 0 := by omega
    have ew1 : IntKind.i64.wrap (r.off + r.count) = r.off + r.count := IntWalk.i64_in _ (by omega)
    have d3 : decide (512 < r.off + r.count) = false := decide_eq_false (by omega)
    clear hx he hc
    go_upto_region 4 with fail
    refine region_stw (by kernel_rfl) (by kernel_rfl) ?_
    rintro w3 hw3
    have hm3 : Mod None_ wr w3 := by rw [hw3]; exact (Mod.refl _ wr).drew
    replace x0 := (World.cell?_of_block (hm3.block g hgr id)).trans x0
    replace x1 := (World.cell?_of_block (hm3.block g hgr id)).trans x1
    replace x2 := (World.cell?_of_block (hm3.block g hgr id)).trans x2
    have hM3 := hM.trans hm3
    have hgr3 : g < w3.heap.size := Nat.lt_of_lt_of_le hgr hm3.size
    clear hw3 hM hm3
    repeat (refine stw_step (fun K hK => ?_); go_simp; refine hK _ ?_; clear hK K)
    refine stw_nil ?_
    clear d1 d2 d3
    cases k with
    | zero =>
      go_wp2_with fail
      go_roundw
      case rel => exact ⟨1, by omega, by simp, hM3⟩
      case measure => simp [intOf]; omega
    | succ j =>
      have hj : j < L.length := by omega
      have hy := HC.out j hj
      have hrj := (refRun_iff L[j]).1 (HF.out L[j] (List.getElem_mem hj))
      have hap := (List.pairwise_iff_getElem.1 HP.out) j (j + 1) hj hlt (by omega)
      rw [← HE.out] at hap
      obtain ⟨q, hq⟩ : ∃ q, q = L[j] := ⟨_, rfl⟩
      rw [← hq] at hy hrj hap
      obtain ⟨ha1, ha2⟩ := hap
      obtain ⟨q1, q2, q3, q4, q5, q6, q7⟩ := hrj
      have k0 : (((j + 1 : Nat) : Int) == 0) = false := by simp; omega
      have y0 : w3.cell? ⟨g, o + j * 3, none⟩ = some (.int .i64 q.off) := (World.cell?_of_block (hM3.block g hg id)).trans (hy 0 _ rfl)
      have y1 : w3.cell? ⟨g, o + j * 3 + 1, none⟩ = some (.int .i64 q.page) := (World.cell?_of_block (hM3.block g hg id)).trans (hy 1 _ rfl)
      have y2 : w3.cell? ⟨g, o + j * 3 + 2, none⟩ = some (.int .i64 q.count) := (World.cell?_of_block (hM3.block g hg id)).trans (hy 2 _ rfl)
      have ewj : IntKind.i64.wrap (j : Int) = j := IntWalk.i64_in _ (by omega)
      have ewq : IntKind.i64.wrap (q.off + q.count) = q.off + q.count := IntWalk.i64_in _ (by omega)
      have ewp : IntKind.i64.wrap (q.page + q.count) = q.page + q.count := IntWalk.i64_in _ (by omega)
      have hjl : (j : Int) < L.length := by omega
      have hjl1 : (j : Int) + 1 < L.length := by omega
      have hj0 : (0 : Int) ≤ (j : Int) + 1 := by omega
      have e0 : ¬ r.off < q.off + q.count := by omega
      clear hq hy
      go_upto_region 7 with fail
      refine region_stw (by kernel_rfl) (by kernel_rfl) ?_
      rintro w4 hw4
      have hm4 : Mod None_ w3 w4 := by rw [hw4]; exact (Mod.refl _ w3).drew
      replace x0 := (World.cell?_of_block (hm4.block g hgr3 id)).trans x0
      replace x1 := (World.cell?_of_block (hm4.block g hgr3 id)).trans x1
      replace x2 := (World.cell?_of_block (hm4.block g hgr3 id)).trans x2
      replace y0 := (World.cell?_of_block (hm4.block g hgr3 id)).trans y0
      replace y1 := (World.cell?_of_block (hm4.block g hgr3 id)).trans y1
      replace y2 := (World.cell?_of_block (hm4.block g hgr3 id)).trans y2
      have hM4 := hM3.trans hm4
      have hgr4 : g < w4.heap.size := Nat.lt_of_lt_of_le hgr3 hm4.size
      clear hw4 hM3 hm4
      repeat (refine stw_step (fun K hK => ?_); go_simp; refine hK _ ?_; clear hK K)
      refine stw_nil ?_
      have hcase : (r.off == q.off + q.count) = false ∨ ((r.off == q.off + q.count) = true ∧ (r.page == q.page + q.count) = false) := by
        by_cases e : r.off = q.off + q.count
        · refine .inr ⟨by simp [e], ?_⟩
          rw [beq_eq_false_iff_ne]
          exact fun e2 => ha2 ⟨e.symm, e2.symm⟩
        · exact .inl (by simp [e])
      go_upto_region 8 with fail
      rcases hcase with k1 | ⟨k1, k2⟩
      all_goals (
        refine region_stw (by kernel_rfl) (by kernel_rfl) ?_
        rintro w5 hw5
        have hm5 : Mod None_ w4 w5 := by rw [hw5]; exact (Mod.refl _ w4).drew
        replace x0 := (World.cell?_of_block (hm5.block g hgr4 id)).trans x0
        replace x1 := (World.cell?_of_block (hm5.block g hgr4 id)).trans x1
        replace y1 := (World.cell?_of_block (hm5.block g hgr4 id)).trans y1
        replace y2 := (World.cell?_of_block (hm5.block g hgr4 id)).trans y2
        have hM5 := hM4.trans hm5
        clear hw5 hM4 hm5
        repeat (refine stw_step (fun K hK => ?_); go_simp; refine hK _ ?_; clear hK K)
        refine stw_nil ?_
        go_wp2_with fail
        go_roundw
        case rel => exact ⟨j + 2, by omega, by simp; omega, hM5⟩
        case measure => simp [intOf]; omega)
  · have hki : ¬ (k : Int) < L.length := by omega
    go_wp2
    go_ret
    exact ⟨rfl, hM⟩
end Go.Proofs.YtabebkffcmajkaaDoor

/-! Law walks: copyEntries. -/
namespace Go.Proofs.YtabebkffcmajkaaDoor
open Go.RowKit Go.Maps Go.Shelf
attribute [local go_sem] quietV loudUpon Oper.semAt_some

theorem oneEntryL : ∀ (e : EntD), ∀ u ∈ encEntry e, u.oneCell' = true := by
  intro e u hu
  simp only [encEntry, List.mem_cons, List.not_mem_nil, or_false] at hu
  rcases hu with rfl | rfl | rfl | rfl | rfl | rfl | rfl | rfl <;> rfl
set_option maxRecDepth 100000 in
set_option maxHeartbeats 1000000 in
theorem copyEntries_any (w : World) (v : Value) (l : List EntD) (h : ListAt encEntry 8 w v l) (hl : l.length ≤ 1000000) : Calls Tryd.prog 11 #[v] w fun e w' => ∃ v', e = .returned v' ∧ w'.ownsRow w.heap.size 26 8 v' l.length (rowOf encEntry l) ∧ Mod None_ w w' := by
  obtain ⟨A, c, rfl, hc1, hc2, hA⟩ := id h
  obtain ⟨ii, hii, hzi, hsi, hbi⟩ := info_parts infoEntry
  have HRD := hide (ListAt.reads (enc := encEntry) (sz := 8) (fun _ => rfl) (by omega) h)
  clear hA h
  have hlt : w.heap.size ≤ w.heap.size := Nat.le_refl _
  go_enter Tryd.func11, Tryd.ntmps11
  go_wp2_with ((with_reducible refine at_slot 6 ?_); refine wpList_append_any _ rfl (.tmp 4) (.tmp 5) 22 rfl w.heap.size 26 ii _ 8 72 Tryd.underlying22 hii hzi hsi hbi rfl (by omega) (.slice none 0 0) 0 [] rfl ⟨rfl, .inl ⟨rfl, rfl⟩⟩ w.heap.size A l.length c _ rfl HRD.out (rowOf_one oneEntryL l) (by unfold maxLen; omega) (by omega) hlt ?_; intro v' w' hown' hg' hat'; go_frame)
  rw [Nat.zero_add, List.nil_append] at hown'
  have hM : Mod None_ w w' := (Mod.of_grown hg').mono (fun k _ e => by cases e)
  have HF := hide (And.intro hown' hM)
  clear hown' hM hg' hat'
  go_ret
  exact ⟨_, rfl, HF.out⟩
end Go.Proofs.YtabebkffcmajkaaDoor

/-! Walk of the law's own: written. -/
namespace Go.Proofs.YtabebkffcmajkaaDoor
open Go.RowKit Go.Maps Go.Shelf
attribute [local go_sem] quietV loudUpon Oper.semAt_some

def encSeed (x : SeedD) : List Value := [.int .i64 x.k, .int .i64 x.a, .int .i64 x.b, .int .i64 x.c, .int .i64 x.d, .string x.name]
structure SeedD.Ok (x : SeedD) : Prop where
  name : x.name.size ≤ 9223372036854775807
  k : I64 x.k
  a : I64 x.a
  b : I64 x.b
  c : I64 x.c
  d : I64 x.d
def zeroSeed : Array Value := #[.int .i64 0, .int .i64 0, .int .i64 0, .int .i64 0, .int .i64 0, .string ⟨#[]⟩]
theorem zeroSeedV (w : World) : (zeroValue 77).run Tryd.prog w = .ok (.agg zeroSeed) w := by kernel_rfl
theorem infoSeed (x : SeedD) : (Tryd.prog.info? 77).map (·.size) = some (encSeed x).toArray.size := by show _ = some 6; kernel_rfl
theorem oneSeed (x : SeedD) : (encSeed x).toArray.all Value.oneCell' = true := by simp [encSeed, Value.oneCell']
/-- a list of one's own, as the loops make it -/
def OwnE (w wr : World) (v : Value) (L : List EntD) : Prop := wr.ownsRow w.heap.size 26 8 v L.length (rowOf encEntry L)
def EntsPost (w : World) (L : List EntD) : Ending → World → Prop := fun e w' => ∃ v, e = .returned v ∧ OwnE w w' v L ∧ Mod None_ w w'
theorem take_60 {α : Type} {l : List α} {k : Nat} (h1 : k ≤ l.length) (h2 : k ≤ 60) (h : ¬ (k < l.length ∧ k < 60)) : l.take k = l.take 60 := by
  by_cases e : k = 60
  · rw [e]
  · rw [List.take_of_length_le (by omega), List.take_of_length_le (by omega)]
theorem wFrom_take {l : List SeedD} {k : Nat} (h : k < l.length) : wFrom 0 (l.take (k + 1)) = wFrom 0 (l.take k) ++ [wEnt k l[k]] := by
  rw [List.take_succ_eq_append_getElem h, wFrom_snoc, List.length_take, Nat.min_eq_left (by omega), Nat.zero_add]

set_option maxRecDepth 100000 in
set_option maxHeartbeats 4000000 in
theorem written_any (w : World) (v : Value) (l : List SeedD) (h : ListAt encSeed 6 w v l) (hO : ∀ x ∈ l, x.Ok) : Calls Tryd.prog 16 #[v] w (EntsPost w (writtenL l)) := by
  obtain ⟨A, c, rfl, hc1, hc2, hA⟩ := h
  unfold maxLen at hc2
  have hll : ∀ w, (Builtin.len_ #[38] 3 #[.slice A l.length c]).run Tryd.prog w = .ok (.int .i64 l.length) w := fun w => by simp [Builtin.len_, run_underlying Tryd.underlying38]; rfl
  have HA := hide hA
  have HO := hide hO
  clear hA hO
  go_enter Tryd.func16, Tryd.ntmps16
  go_wp2_with fail
  go_loopw [4, 3] (fun s4 s3 wr => ∃ (k : Nat) (v3 : Value), v3 = s3 ∧ k ≤ l.length ∧ k ≤ 60 ∧ s4 = .int .i64 k ∧ OwnE w wr v3 (wFrom 0 (l.take k)) ∧ Mod None_ w wr) (fun s4 _ _ => l.length - (intOf s4).toNat)
  case atStart => exact ⟨0, _, rfl, Nat.zero_le _, Nat.zero_le _, rfl, ⟨rfl, .inl ⟨rfl, rfl⟩⟩, Mod.refl _ _⟩
  obtain ⟨k, v3, rfl, hk, hk60, rfl, hown, hM⟩ := hrel
  by_cases hlt : k < l.length ∧ k < 60
  · obtain ⟨hlt, hlt60⟩ := hlt
    have hki : (k : Int) < l.length := by omega
    have hki60 : (k : Int) < 60 := by omega
    have hsn := wFrom_take hlt
    have hEl := wFrom_length (l.take k) 0
    rw [List.length_take, Nat.min_eq_left hk] at hEl
    obtain ⟨g, o, rfl, hg, hc⟩ := HA.out (by omega)
    have hx := hc k hlt
    have hok := HO.out l[k] (List.getElem_mem hlt)
    obtain ⟨x, he⟩ : ∃ x, x = l[k] := ⟨_, rfl⟩
    obtain ⟨E, hE⟩ : ∃ E, E = wFrom 0 (l.take k) := ⟨_, rfl⟩
    rw [← he] at hx hok hsn
    rw [← hE] at hsn hEl hown
    obtain ⟨_, oK, oA, oB, oC, oD⟩ := hok
    have HX := hide (run_loadAt_mid wr g (o + k * 6) 77 (encSeed x) _ (fun i u h => (World.cell?_of_block (hM.block g hg id)).trans (hx i u h)) Tryd.underlying77 rfl (by kernel_rfl))
    have HSN := hide hsn
    have HEL := hide hEl
    obtain ⟨m, hm⟩ : ∃ m, m = wr.heap.size := ⟨_, rfl⟩
    obtain ⟨w1, hw1⟩ : ∃ w1, w1 = wr.alloc (.cells (encSeed x).toArray 77) := ⟨_, rfl⟩
    have hm1 : Mod None_ wr w1 := by rw [hw1]; exact (Mod.refl _ wr).alloc _
    have b1 : Blk w1 m 77 (encSeed x).toArray := by rw [hw1, hm]; exact Blk.new wr _ _
    have hwm : w.heap.size ≤ m := by rw [hm]; exact hM.size
    have hM1 := hM.trans hm1
    have hown1 := own_mod hown hm1 (fun _ _ f => f)
    have HW1 := hide hw1
    have HMM := hide hm
    clear hc hx he hE hsn hEl hown hM hm1 hw1 hm
    have c0 : w1.cell? ⟨m, 0, none⟩ = some (.int .i64 x.k) := b1.cell 0
    have c1 : w1.cell? ⟨m, 1, none⟩ = some (.int .i64 x.a) := b1.cell 1
    have c2 : w1.cell? ⟨m, 2, none⟩ = some (.int .i64 x.b) := b1.cell 2
    have c3 : w1.cell? ⟨m, 3, none⟩ = some (.int .i64 x.c) := b1.cell 3
    have c4 : w1.cell? ⟨m, 4, none⟩ = some (.int .i64 x.d) := b1.cell 4
    go_wp2_with (first
      | ((with_reducible refine at_slot 20 ?_); refine wpList_val rfl (ex_load rfl HX.out) ?_; go_frame)
      | ((with_reducible refine at_slot 5 ?_); refine wpList_declare rfl rfl 77 5 (.tmp 20) rfl rfl rfl zeroSeed (encSeed x).toArray zeroSeedV (infoSeed x) rfl (oneSeed x) (by simp) rfl ?_; go_frame; rw [← HW1.out, ← HMM.out]))
    clear HW1 HMM HX
    refine (mod_any x.d 262145 w1 oD (by omega) (by omega)).mono ?_
    rintro e w1' ⟨rfl, rfl⟩
    obtain ⟨dd, hdd⟩ : ∃ dd, dd = x.d % 262145 := ⟨_, rfl⟩
    rw [← hdd]
    obtain ⟨q, hq⟩ : ∃ q, q = w1.heap.size := ⟨_, rfl⟩
    obtain ⟨w2, hw2⟩ : ∃ w2, w2 = w1.alloc (.cells (encEntry ⟨2, k + 1, 0, 0, 0, dd, 0, ⟨#[]⟩⟩).toArray 26) := ⟨_, rfl⟩
    have hm2 : Mod None_ w1 w2 := by rw [hw2]; exact (Mod.refl _ w1).alloc _
    have hM2 := hM1.trans hm2
    have b2 := b1.mod hm2 id
    have x2_ : Blk w2 q 26 (encEntry ⟨2, k + 1, 0, 0, 0, dd, 0, ⟨#[]⟩⟩).toArray := by rw [hw2, hq]; exact Blk.new w1 _ _
    have hmq : m < q := by rw [hq]; exact b1.lt
    have hown2 := own_mod hown1 hm2 (fun _ _ f => f)
    have HNE : Hid (∀ g, v3.ownBlock = some g → g < q) := hide fun g hg => by
      obtain ⟨_, cur, hh⟩ := own_blk hown1 hg
      rw [hq]
      exact (Array.getElem?_eq_some_iff.1 hh).1
    have HDD := hide hdd
    have HW2 := hide hw2
    have HQ := hide hq
    have ewk : IntKind.u64.wrap ((k : Int) + 1) = k + 1 := IntWalk.u64_in _ (by omega)
    clear hw2 hq hdd hm2 hM1 b1 hown1 c0 c1 c2 c3 c4
    have c0 : w2.cell? ⟨m, 0, none⟩ = some (.int .i64 x.k) := b2.cell 0
    go_upto_region 7 with ((with_reducible refine at_slot 6 ?_); refine wpList_declare rfl rfl 26 6 (.tmp 27) rfl rfl rfl zeroEnt (encEntry ⟨2, k + 1, 0, 0, 0, dd, 0, ⟨#[]⟩⟩).toArray zeroEntV (infoEnt _) rfl (oneEnt _) (by simp) rfl ?_; go_frame; rw [← HW2.out, ← HQ.out])
    clear HW2 HQ
    go_wp2_with fail
    refine (mod_any x.k 4 w2 oK (by omega) (by omega)).mono ?_
    rintro e w2' ⟨rfl, rfl⟩
    by_cases hk4 : 0 < x.k % 4
    · have d4 : decide (0 < x.k % 4) = true := decide_eq_true hk4
      have HK4 := hide hk4
      clear hk4 c0
      have f2 : w2.frozen? ⟨q, 0, none⟩ = false := x2_.frozen _
      have g2 : w2.cell? ⟨q, 0, none⟩ = some (.int .i64 2) := x2_.cell 0
      go_upto_region 8 with fail
      go_upto_region 9 with fail
      obtain ⟨w3, hw3⟩ : ∃ y, y = w2.setCell ⟨q, 0, none⟩ (.int .i64 1) := ⟨_, rfl⟩
      rw [← hw3]
      have hs3 : Mod (· = q) w2 w3 := by rw [hw3]; exact (Mod.refl (· = q) w2).setCell (p := ⟨q, 0, none⟩) (.inr rfl) _
      have x3_ : Blk w3 q 26 (encEntry ⟨1, k + 1, 0, 0, 0, dd, 0, ⟨#[]⟩⟩).toArray := by
        have := x2_.set_ 0 (.int .i64 1)
        rw [← hw3] at this
        exact this
      have b3 := b2.mod hs3 (by omega)
      have hM3 : Mod None_ w w3 := hM2.trans' hs3 (fun g hg e => by omega)
      have hown3 := own_mod hown2 hs3 (fun g hg e => by have := HNE.out g hg; omega)
      clear hw3 hs3 x2_ b2 hM2 hown2 f2 g2
      have c2 : w3.cell? ⟨m, 2, none⟩ = some (.int .i64 x.b) := b3.cell 2
      have f3 : w3.frozen? ⟨q, 3, none⟩ = false := x3_.frozen _
      have g3 : w3.cell? ⟨q, 3, none⟩ = some (.int .i64 0) := x3_.cell 3
      go_wp2_with fail
      refine (mod_any x.b 16 w3 oB (by omega) (by omega)).mono ?_
      rintro e w3' ⟨rfl, rfl⟩
      have hbb : 0 ≤ x.b % 16 ∧ x.b % 16 < 16 := by omega
      obtain ⟨bb, hbe⟩ : ∃ bb, bb = x.b % 16 := ⟨_, rfl⟩
      rw [← hbe] at hbb ⊢
      obtain ⟨hb0, hb1⟩ := hbb
      have HBB := hide hbe
      have ewb : IntKind.i64.wrap (1 + bb) = 1 + bb := IntWalk.i64_in _ (by omega)
      clear hbe c2
      go_upto_region 10 with fail
      obtain ⟨w4, hw4⟩ : ∃ y, y = w3.setCell ⟨q, 3, none⟩ (.int .i64 (1 + bb)) := ⟨_, rfl⟩
      rw [← hw4]
      have hs4 : Mod (· = q) w3 w4 := by rw [hw4]; exact (Mod.refl (· = q) w3).setCell (p := ⟨q, 3, none⟩) (.inr rfl) _
      have x4_ : Blk w4 q 26 (encEntry ⟨1, k + 1, 0, 1 + bb, 0, dd, 0, ⟨#[]⟩⟩).toArray := by
        have := x3_.set_ 3 (.int .i64 (1 + bb))
        rw [← hw4] at this
        exact this
      have b4 := b3.mod hs4 (by omega)
      have hM4 : Mod None_ w w4 := hM3.trans' hs4 (fun g hg e => by omega)
      have hown4 := own_mod hown3 hs4 (fun g hg e => by have := HNE.out g hg; omega)
      clear hw4 hs4 x3_ b3 hM3 hown3 f3 g3
      have c1 : w4.cell? ⟨m, 1, none⟩ = some (.int .i64 x.a) := b4.cell 1
      have e3 : w4.cell? ⟨q, 3, none⟩ = some (.int .i64 (1 + bb)) := x4_.cell 3
      have ew5 : 512 - (1 + bb) + 1 = 513 - (1 + bb) := by omega
      have EW5 := hide ew5
      clear ew5
      have f4 : w4.frozen? ⟨q, 2, none⟩ = false := x4_.frozen _
      have g4 : w4.cell? ⟨q, 2, none⟩ = some (.int .i64 0) := x4_.cell 2
      go_wp2_with fail
      rw [EW5.out]
      refine (mod_any x.a (513 - (1 + bb)) w4 oA (by omega) (by omega)).mono ?_
      rintro e w4' ⟨rfl, rfl⟩
      obtain ⟨aa, hae⟩ : ∃ aa, aa = x.a % (513 - (1 + bb)) := ⟨_, rfl⟩
      rw [← hae]
      have HAA := hide hae
      clear hae c1 e3
      go_upto_region 11 with fail
      obtain ⟨w5, hw5⟩ : ∃ y, y = w4.setCell ⟨q, 2, none⟩ (.int .i64 aa) := ⟨_, rfl⟩
      rw [← hw5]
      have hs5 : Mod (· = q) w4 w5 := by rw [hw5]; exact (Mod.refl (· = q) w4).setCell (p := ⟨q, 2, none⟩) (.inr rfl) _
      have x5_ : Blk w5 q 26 (encEntry ⟨1, k + 1, aa, 1 + bb, 0, dd, 0, ⟨#[]⟩⟩).toArray := by
        have := x4_.set_ 2 (.int .i64 aa)
        rw [← hw5] at this
        exact this
      have b5 := b4.mod hs5 (by omega)
      have hM5 : Mod None_ w w5 := hM4.trans' hs5 (fun g hg e => by omega)
      have hown5 := own_mod hown4 hs5 (fun g hg e => by have := HNE.out g hg; omega)
      clear hw5 hs5 x4_ b4 hM4 hown4 f4 g4
      have c3 : w5.cell? ⟨m, 3, none⟩ = some (.int .i64 x.c) := b5.cell 3
      have e3 : w5.cell? ⟨q, 3, none⟩ = some (.int .i64 (1 + bb)) := x5_.cell 3
      have ew6 : 1019 - (1 + bb) + 1 = 1020 - (1 + bb) := by omega
      have EW6 := hide ew6
      clear ew6
      have f5 : w5.frozen? ⟨q, 4, none⟩ = false := x5_.frozen _
      have g5 : w5.cell? ⟨q, 4, none⟩ = some (.int .i64 0) := x5_.cell 4
      go_wp2_with fail
      rw [EW6.out]
      refine (mod_any x.c (1020 - (1 + bb)) w5 oC (by omega) (by omega)).mono ?_
      rintro e w5' ⟨rfl, rfl⟩
      have hcc0 := Int.emod_nonneg x.c (b := 1020 - (1 + bb)) (by omega)
      have hcc1 := Int.emod_lt_of_pos x.c (b := 1020 - (1 + bb)) (by omega)
      obtain ⟨cc, hce⟩ : ∃ cc, cc = x.c % (1020 - (1 + bb)) := ⟨_, rfl⟩
      rw [← hce] at hcc0 hcc1 ⊢
      have HCC := hide hce
      have ewc : IntKind.i64.wrap (5 + cc) = 5 + cc := IntWalk.i64_in _ (by omega)
      clear hce c3 e3
      go_upto_region 12 with fail
      obtain ⟨w6, hw6⟩ : ∃ y, y = w5.setCell ⟨q, 4, none⟩ (.int .i64 (5 + cc)) := ⟨_, rfl⟩
      rw [← hw6]
      have hs6 : Mod (· = q) w5 w6 := by rw [hw6]; exact (Mod.refl (· = q) w5).setCell (p := ⟨q, 4, none⟩) (.inr rfl) _
      have x6_ : Blk w6 q 26 (encEntry ⟨1, k + 1, aa, 1 + bb, 5 + cc, dd, 0, ⟨#[]⟩⟩).toArray := by
        have := x5_.set_ 4 (.int .i64 (5 + cc))
        rw [← hw6] at this
        exact this
      have b6 := b5.mod hs6 (by omega)
      have hM6 : Mod None_ w w6 := hM5.trans' hs6 (fun g hg e => by omega)
      have hown6 := own_mod hown5 hs6 (fun g hg e => by have := HNE.out g hg; omega)
      clear hw6 hs6 x5_ b5 hM5 hown5 f5 g5
      clear ewb ewc hcc0 hcc1
      have HI := hide (infoEnt (⟨1, k + 1, aa, 1 + bb, 5 + cc, dd, 0, ⟨#[]⟩⟩ : EntD))
      have hbz := hM6.size
      have hEl : E.length ≤ 100 := by have := HEL.out; omega
      have HY : Hid ((⟨1, k + 1, aa, 1 + bb, 5 + cc, dd, 0, ⟨#[]⟩⟩ : EntD) = wEnt k x) := hide (by unfold wEnt; rw [if_pos HK4.out, HAA.out, HCC.out, HBB.out, HDD.out])
      generalize (⟨1, k + 1, aa, 1 + bb, 5 + cc, dd, 0, ⟨#[]⟩⟩ : EntD) = y at x6_ HI HY
      have hy8 : (encEntry y).length = 8 := rfl
      go_wp2_with (first
        | ((with_reducible refine at_slot 56 ?_); refine wpList_val rfl (ex_load rfl (run_loadRow x6_ Tryd.underlying26 rfl HI.out)) ?_; go_frame)
        | ((with_reducible refine at_slot 58 ?_); refine wpList_append_row encEntry 22 26 (.agg #[.int .i64 0, .int .u64 0, .int .i64 0, .int .i64 0, .int .i64 0, .int .i64 0, .int .i64 0, .string ⟨#[]⟩]) 8 72 Tryd.underlying22 infoEntry rfl (by decide) (fun _ => rfl) oneEntry rfl (.tmp 55) (.tmp 57) rfl w6 w.heap.size v3 E y rfl rfl w6.heap.size rfl rfl hown6 hbz (by unfold maxLen; omega) (by omega) ?_; intro v8 w8 hown8 hm8 hat8
           have hM8 := hM6.trans' hm8 (fun k hk e => by have := (own_blk hown6 e.symm).1; omega)
           have L1 := hide hown8
           have L2 := hide hM8
           clear hown8 hm8 hat8 hM8 hown6 hM6
           go_frame))
      go_roundw
      case rel => exact ⟨k + 1, _, rfl, by omega, by omega, by simp, by rw [HSN.out, ← HY.out]; exact L1.out, L2.out⟩
      case measure => simp [intOf]; omega
    · have d4 : decide (0 < x.k % 4) = false := decide_eq_false hk4
      have HK4 := hide hk4
      clear hk4 c0
      go_upto_region 12 with fail
      have HI := hide (infoEnt (⟨2, k + 1, 0, 0, 0, dd, 0, ⟨#[]⟩⟩ : EntD))
      have hbz := hM2.size
      have hEl : E.length ≤ 100 := by have := HEL.out; omega
      have HY : Hid ((⟨2, k + 1, 0, 0, 0, dd, 0, ⟨#[]⟩⟩ : EntD) = wEnt k x) := hide (by unfold wEnt; rw [if_neg (Int.not_lt.2 HK4.out), HDD.out])
      generalize (⟨2, k + 1, 0, 0, 0, dd, 0, ⟨#[]⟩⟩ : EntD) = y at x2_ HI HY
      have hy8 : (encEntry y).length = 8 := rfl
      go_wp2_with (first
        | ((with_reducible refine at_slot 56 ?_); refine wpList_val rfl (ex_load rfl (run_loadRow x2_ Tryd.underlying26 rfl HI.out)) ?_; go_frame)
        | ((with_reducible refine at_slot 58 ?_); refine wpList_append_row encEntry 22 26 (.agg #[.int .i64 0, .int .u64 0, .int .i64 0, .int .i64 0, .int .i64 0, .int .i64 0, .int .i64 0, .string ⟨#[]⟩]) 8 72 Tryd.underlying22 infoEntry rfl (by decide) (fun _ => rfl) oneEntry rfl (.tmp 55) (.tmp 57) rfl w2 w.heap.size v3 E y rfl rfl w2.heap.size rfl rfl hown2 hbz (by unfold maxLen; omega) (by omega) ?_; intro v8 w8 hown8 hm8 hat8
           have hM8 := hM2.trans' hm8 (fun k hk e => by have := (own_blk hown2 e.symm).1; omega)
           have L1 := hide hown8
           have L2 := hide hM8
           clear hown8 hm8 hat8 hM8 hown2 hM2
           go_frame))
      go_roundw
      case rel => exact ⟨k + 1, _, rfl, by omega, by omega, by simp, by rw [HSN.out, ← HY.out]; exact L1.out, L2.out⟩
      case measure => simp [intOf]; omega
  · have HT : Hid (l.take k = l.take 60) := hide (take_60 hk hk60 hlt)
    have HF : Hid (EntsPost w (writtenL l) (.returned v3) wr) := hide ⟨v3, rfl, by unfold writtenL; rw [← HT.out]; exact hown, hM⟩
    clear HT hown hM
    by_cases h1 : k < l.length
    · have h2 : ¬ (k : Int) < 60 := by omega
      have h1i : (k : Int) < l.length := by omega
      clear hlt
      go_wp2
      go_ret
      exact HF.out
    · have h1i : ¬ (k : Int) < l.length := by omega
      clear hlt
      go_wp2
      go_ret
      exact HF.out
end Go.Proofs.YtabebkffcmajkaaDoor

/-! A list of entries as an argument. -/
namespace Go.Proofs.YtabebkffcmajkaaDoor
open Go.RowKit Go.Maps Go.ChangeShapes Go.WideShapes Go.Deep
section
variable {H : Type} {ec : TypeId × Value → H} {W : World} {base : Nat} {spare : Nat → Bool} {held : Bool}
theorem cellsU64 : Tryd.prog.cellsOf 24 = 1 := by kernel_rfl
theorem cellsEntry : Tryd.prog.cellsOf 26 = 8 := by kernel_rfl
theorem cellsLE : Tryd.prog.cellsOf 22 = 1 := by kernel_rfl
set_option maxRecDepth 100000 in
theorem dec_entry {n : Nat} {cs : List Value} {x : DataW H × List MemPlace} (h : DataW.trod ec Tryd.prog W base spare held n 26 cs = some x) : ∃ y : EntD, cs = encEntry y ∧ True := by
  obtain ⟨ys, n', hn', hy, hlen, hyl, hf⟩ := DataW.trod_struct Tryd.underlying26 h
  rw [cellsEntry] at hlen
  match cs, hlen with
  | [a, b, c, d, e, f, g, i], _ =>
    have t0 := hf 0 _ rfl
    have t1 := hf 1 _ rfl
    have t2 := hf 2 _ rfl
    have t3 := hf 3 _ rfl
    have t4 := hf 4 _ rfl
    have t5 := hf 5 _ rfl
    have t6 := hf 6 _ rfl
    have t7 := hf 7 _ rfl
    simp only [List.getElem_toArray, List.getElem_cons_zero, List.getElem_cons_succ, cellsInt, cellsStr, cellsU64, List.drop_zero, List.take_succ_cons, List.take_zero, List.drop_succ_cons] at t0 t1 t2 t3 t4 t5 t6 t7
    match ys, hyl with
    | [y0, y1, y2, y3, y4, y5, y6, y7], _ =>
      obtain ⟨x0, q0, w0⟩ := dec_int (t0.trans rfl)
      obtain ⟨x1, q1, _, w1⟩ := DataW.trod_int Tryd.underlying24 (t1.trans rfl)
      obtain ⟨x2, q2, w2⟩ := dec_int (t2.trans rfl)
      obtain ⟨x3, q3, w3⟩ := dec_int (t3.trans rfl)
      obtain ⟨x4, q4, w4⟩ := dec_int (t4.trans rfl)
      obtain ⟨x5, q5, w5⟩ := dec_int (t5.trans rfl)
      obtain ⟨x6, q6, w6⟩ := dec_int (t6.trans rfl)
      obtain ⟨x7, q7, _, _⟩ := DataW.trod_string Tryd.underlying9 (t7.trans rfl)
      simp only [encInt, List.cons.injEq, and_true] at q0 q1 q2 q3 q4 q5 q6 q7
      subst q0 q1 q2 q3 q4 q5 q6 q7
      exact ⟨⟨x0, x1, x2, x3, x4, x5, x6, x7⟩, rfl, trivial⟩
end
theorem open_entries {H : Type} {ec : TypeId × Value → H} {W : World} {v : Value} {d : DataW H} {p : List MemPlace} (h : DataW.Trod ec Tryd.prog W 0 (fun _ => true) true 22 v d p) (hv : v.cells.toList = [v]) :
    ∃ l : List EntD, ListAt encEntry 8 W v l := by
  obtain ⟨fuel, hf⟩ := h
  rw [hv] at hf
  obtain ⟨l, h1, _, _⟩ := open_list encEntry (fun _ => True) 8 (by omega) Tryd.underlying22 cellsEntry (fun _ => rfl) (fun n cs x hx => dec_entry hx) hf
  exact ⟨l, h1⟩
end Go.Proofs.YtabebkffcmajkaaDoor

/-! A list of seeds, an entry, as arguments. -/
namespace Go.Proofs.YtabebkffcmajkaaDoor
open Go.RowKit Go.Maps Go.ChangeShapes Go.WideShapes Go.Deep
section
variable {H : Type} {ec : TypeId × Value → H} {W : World} {base : Nat} {spare : Nat → Bool} {held : Bool}
theorem cellsSeed : Tryd.prog.cellsOf 77 = 6 := by kernel_rfl
set_option maxRecDepth 100000 in
theorem dec_seed {n : Nat} {cs : List Value} {x : DataW H × List MemPlace} (h : DataW.trod ec Tryd.prog W base spare held n 77 cs = some x) : ∃ y : SeedD, cs = encSeed y ∧ y.Ok := by
  obtain ⟨ys, n', hn', hy, hlen, hyl, hf⟩ := DataW.trod_struct Tryd.underlying77 h
  rw [cellsSeed] at hlen
  match cs, hlen with
  | [a, b, c, d, e, f], _ =>
    have t0 := hf 0 _ rfl
    have t1 := hf 1 _ rfl
    have t2 := hf 2 _ rfl
    have t3 := hf 3 _ rfl
    have t4 := hf 4 _ rfl
    have t5 := hf 5 _ rfl
    simp only [List.getElem_toArray, List.getElem_cons_zero, List.getElem_cons_succ, cellsInt, cellsStr, List.drop_zero, List.take_succ_cons, List.take_zero, List.drop_succ_cons] at t0 t1 t2 t3 t4 t5
    match ys, hyl with
    | [y0, y1, y2, y3, y4, y5], _ =>
      obtain ⟨x0, q0, w0⟩ := dec_int (t0.trans rfl)
      obtain ⟨x1, q1, w1⟩ := dec_int (t1.trans rfl)
      obtain ⟨x2, q2, w2⟩ := dec_int (t2.trans rfl)
      obtain ⟨x3, q3, w3⟩ := dec_int (t3.trans rfl)
      obtain ⟨x4, q4, w4⟩ := dec_int (t4.trans rfl)
      obtain ⟨x5, q5, _, w5⟩ := DataW.trod_string Tryd.underlying9 (t5.trans rfl)
      simp only [encInt, List.cons.injEq, and_true] at q0 q1 q2 q3 q4 q5
      subst q0 q1 q2 q3 q4 q5
      exact ⟨⟨x0, x1, x2, x3, x4, x5⟩, rfl, (by unfold maxLen at w5; show x5.size ≤ 9223372036854775807; omega), w0, w1, w2, w3, w4⟩
end
theorem open_seeds {H : Type} {ec : TypeId × Value → H} {W : World} {v : Value} {d : DataW H} {p : List MemPlace} (h : DataW.Trod ec Tryd.prog W 0 (fun _ => true) true 38 v d p) (hv : v.cells.toList = [v]) :
    ∃ l : List SeedD, ListAt encSeed 6 W v l ∧ ∀ x ∈ l, x.Ok := by
  obtain ⟨fuel, hf⟩ := h
  rw [hv] at hf
  obtain ⟨l, h1, h2, _⟩ := open_list encSeed SeedD.Ok 6 (by omega) Tryd.underlying38 cellsSeed (fun _ => rfl) (fun n cs x hx => dec_seed hx) hf
  exact ⟨l, h1, h2⟩
theorem open_entry {H : Type} {ec : TypeId × Value → H} {W : World} {v : Value} {d : DataW H} {p : List MemPlace} (hv : ∃ cs, v = .agg cs ∧ cs.size = Tryd.prog.cellsOf 26) (h : DataW.Trod ec Tryd.prog W 0 (fun _ => true) true 26 v d p) :
    ∃ y : EntD, v = .agg (encEntry y).toArray := by
  obtain ⟨cs, rfl, _⟩ := hv
  obtain ⟨fuel, hf⟩ := h
  obtain ⟨y, e, _⟩ := dec_entry hf
  refine ⟨y, ?_⟩
  have : cs.toList = encEntry y := e
  rw [← this]
end Go.Proofs.YtabebkffcmajkaaDoor
