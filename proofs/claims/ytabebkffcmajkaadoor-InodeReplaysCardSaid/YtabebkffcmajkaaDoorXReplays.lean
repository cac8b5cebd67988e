/-
  InodeReplays: for every kind and list of entries the law returns true, and its arguments read as they did. (The table of the sums is laid by the program's text.)
-/
import Derived.Test.YtabebkffcmajkaaDoorCards
import Derived.Test.YtabebkffcmajkaaDoorTie
import Derived.WalkKit
import Derived.ProofKit
import Derived.OpenShut
import Derived.Deep.DeepHandedRow
import Derived.Lib.LaidTab
import Derived.Test.YtabebkffcmajkaaDoorG9
import Derived.Test.YtabebkffcmajkaaDoorG6
set_option linter.unusedVariables false
set_option linter.unusedSimpArgs false
/-! Reference walk: Replay. -/
namespace Go.Proofs.YtabebkffcmajkaaDoor
open Go.RowKit Go.Maps Go.Shelf
attribute [local go_sem] quietV loudUpon Oper.semAt_some

section
variable {P : Program} {D : List Nat} {I : World → Prop} {R : Nat → World → Prop} {Q : Act → World → Prop} {k : Nat} {o : Oper} {os : List Oper} {l : List (Bool × Nat)} {done : List Nat} {a : Act} {w : World}
theorem jxw_qv {v : Value} (ho : os[k]? = some o) (hk : D.contains k = false) (ds : List Nat) (hds : ds.all (fun d => D.contains d && waits .any os.toArray k os.toArray.size d) = true) (hg : o.guard = none) (hr : ∀ w', I w' → (∀ d ∈ ds, R d w') → (execOp a.eval o).run P w' = .ok (.value v) w')
    (hn : JxW P os.toArray D I R Q l done (a.put o.dst v) w) : JxW P os.toArray D I R Q ((true, k) :: l) done a w :=
  jxw_quiet ho hk ds hds (fun w' hI hR K hK => by rw [if_pos (by simp [Region.wanted, hg]), hr w' hI hR]; exact ⟨rfl, hK⟩) hn
theorem jxw_storeRow (ho : os[k]? = some o) (hgd : o.guard = none) (ty : TypeId) (x y : Operand) (hop : o.op = .store ty x y) (g : Nat) (cells : Array Value) (hx : a.eval x = .pointer (some ⟨g, 0, none⟩)) (hy : a.eval y = .agg cells)
    (t : TypeId) (old : Array Value) (hg : w.heap[g]? = some (.cells old t (0, 0))) (hi : (P.info? ty).map (·.size) = some cells.size) (hold : old.size = cells.size) (h1 : cells.all (·.oneCell') = true)
    (hI : JD D I R (k :: done) (w.setRow g cells)) (hn : JxW P os.toArray D I R Q l (k :: done) (a.put o.dst undef) (w.setRow g cells)) : JxW P os.toArray D I R Q ((false, k) :: l) done a w :=
  jxw_loud ho fun K hK => by
    have hrun : (execOp a.eval o).run P w = .ok .skip (w.setRow g cells) := by
      refine ex_store hop ?_
      rw [hx, hy]
      simp only [Instr.storeAt, Instr.sureAddr, Sem.run_bind, Sem.run_pure, Result.andThen_ok, run_storeVar_row w g t ty old cells hg hi hold h1]
    rw [if_pos (by simp [Region.wanted, hgd]), hrun]
    exact ⟨hI, hK _ _ hn⟩
end
/-- a list whose block lies from b on -/
def ListY {α : Type} (enc : α → List Value) (sz : Nat) (w : World) (b : Nat) (v : Value) (l : List α) : Prop := ListAt enc sz w v l ∧ (0 < l.length → ∀ g, v.ownBlock = some g → b ≤ g)
theorem ListY.mod {α : Type} {enc : α → List Value} {sz : Nat} {S : Nat → Prop} {w w' : World} {b : Nat} {v : Value} {l : List α} (h : ListY enc sz w b v l) (hm : Mod S w w') (hs : ∀ g, S g → g < b) : ListY enc sz w' b v l :=
  ⟨h.1.modX hm fun h0 g hg e => by have := h.2 h0 g hg; have := hs g e; omega, h.2⟩
theorem listY_fresh {α : Type} {enc : α → List Value} {sz : Nat} {w w' w3 : World} {b : Nat} {v0 v : Value} {l0 l : List α} (h0 : ListY enc sz w b v0 l0) (h : ListAt enc sz w' v l) (hF : Fresh w3 v0 v l.length) (hb : b ≤ w3.heap.size) : ListY enc sz w' b v l :=
  ⟨h, fun hl g hg => (hF hl).elim (fun e => by
      subst e
      obtain ⟨A, c, rfl, _⟩ := h0.1
      obtain ⟨A', c', e2, _⟩ := h
      simp only [Value.slice.injEq] at e2
      exact h0.2 (by omega) g hg) (fun e => Nat.le_trans hb (e g hg))⟩
/-- what the reference's Replay leaves -/
def ReplayRPost (w : World) (k : Int) (l : List EntD) : Ending → World → Prop := fun x w' => ∃ vm vn vl, x = .returned (.tuple #[.agg (nodeC (replayN k l) vm vn vl), .int .i64 (replayErr k l)]) ∧
  ListAt encRun 3 w' vm (replayN k l).map ∧ ListAt encDent 2 w' vn (replayN k l).names ∧ ListAt encInt 1 w' vl (replayN k l).log ∧ Mod None_ w w'
theorem ReplayRPost.bad {w w' : World} {k : Int} {l : List EntD} {c : Int} (h : replayErr k l = c) (hc : c ≠ 0) (hm : Mod None_ w w') : ReplayRPost w k l (.returned (.tuple #[.agg zeroNode, .int .i64 c])) w' := by
  have h2 : replayN k l = zeroN := by unfold replayN; rw [if_neg (by rw [h]; exact hc)]
  unfold ReplayRPost
  rw [h2, h]
  exact ⟨_, _, _, rfl, nilList _ _ _, nilList _ _ _, nilList _ _ _, hm⟩
/-- what holds in its loop: the node at block q says what the entries so far mean -/
def RefI (w : World) (m : Nat) (k : Int) (l : List EntD) (j : Nat) (wr : World) : Prop :=
  ∃ D vm vn vl, playD (zeroD k) (l.take j) = (0, D) ∧ WfD D ∧ lenD D ≤ j ∧ Blk wr m 31 zeroNode ∧ Blk wr (m + 1) 31 (nodeC (nodeOf D j) vm vn vl) ∧
    ListY encRun 3 wr (m + 2) vm (nodeOf D j).map ∧ ListY encDent 2 wr (m + 2) vn (nodeOf D j).names ∧ ListY encInt 1 wr (m + 2) vl (nodeOf D j).log ∧ Mod None_ w wr
set_option maxRecDepth 100000 in
theorem runsT_zero : runsT (fun _ => 0) = [] := by
  unfold runsT
  rw [itemsOf_none (fun x _ => .inl rfl)]
  rfl
set_option maxRecDepth 100000 in
theorem refI_zero {w wr : World} {m : Nat} {k : Int} {l : List EntD} (hk : k = 1 ∨ k = 2) (bo : Blk wr m 31 zeroNode) (bq : Blk wr (m + 1) 31 #[.int .i64 0, .int .i64 k, .int .i64 0, .int .i64 0, .slice none 0 0, .slice none 0 0, .int .i64 0, .int .i64 0, .slice none 0 0, .int .i64 0]) (hM : Mod None_ w wr) : RefI w m k l 0 wr := by
  have hmap : (nodeOf (zeroD k) 0).map = [] := by
    rcases hk with rfl | rfl
    · rw [show zeroD 1 = .file 0 (fun _ => 0) from by simp [zeroD]]
      exact runsT_zero
    · rfl
  have hnam : (nodeOf (zeroD k) 0).names = [] := by
    rcases hk with rfl | rfl
    · rfl
    · exact DirIs.names (R := []) ⟨.refl _, (fun _ h => by cases h), List.Pairwise.nil⟩
  refine ⟨zeroD k, .slice none 0 0, .slice none 0 0, .slice none 0 0, rfl, wf_zero k, by unfold zeroD; split <;> exact Nat.le_refl _, bo, ?_, ?_, ?_, ?_, hM⟩
  · rcases hk with rfl | rfl <;> exact bq
  · rw [hmap]; exact ⟨nilList _ _ _, fun h => by cases h⟩
  · rw [hnam]; exact ⟨nilList _ _ _, fun h => by cases h⟩
  · exact ⟨nilList _ _ _, fun h => by cases h⟩

set_option maxRecDepth 100000 in
set_option maxHeartbeats 4000000 in
theorem refReplay_any (w : World) (k : Int) (v : Value) (l : List EntD) (h : ListAt encEntry 8 w v l) (hl : l.length ≤ 2000) :
    Calls Tryd.prog 12 #[.int .i64 k, v] w (ReplayRPost w k l) := by
  obtain ⟨A, c, rfl, hc1, hc2, hA⟩ := h
  have HA := hide hA
  clear hA
  have hln : ∀ w, (Builtin.len_ #[22] 3 #[.slice A l.length c]).run Tryd.prog w = .ok (.int .i64 l.length) w := fun w => by simp [Builtin.len_, run_underlying Tryd.underlying22]; rfl
  obtain ⟨m, hm⟩ : ∃ m, m = w.heap.size := ⟨_, rfl⟩
  obtain ⟨w0, hw0⟩ : ∃ w0, w0 = w.alloc (.cells zeroNode 31) := ⟨_, rfl⟩
  have hM0 : Mod None_ w w0 := by rw [hw0]; exact (Mod.refl _ w).alloc _
  have bo : Blk w0 m 31 zeroNode := by rw [hw0, hm]; exact Blk.new w 31 _
  have hsz0 : w0.heap.size = m + 1 := by rw [hw0, hm]; simp
  have hem : w.heap.size ≤ m := by omega
  have hem2 : m ≤ w.heap.size := by omega
  have HW0 := hide hw0
  have HMM := hide hm
  have HSZ := hide hsz0
  clear hw0 hm hsz0
  go_enter Tryd.func12, Tryd.ntmps12
  go_upto_region 1 with ((with_reducible refine at_slot 4 ?_); refine wpList_alloc rfl 31 rfl (.agg zeroNode) zeroNodeV ?_; go_frame)
  rw [← HMM.out, show (Value.agg zeroNode).cells = zeroNode from rfl, ← HW0.out]
  clear HMM HW0
  by_cases hk : k = 1 ∨ k = 2
  · have hk2 : (k != 1 && k != 2) = false := by rcases hk with rfl | rfl <;> rfl
    have HK := hide hk
    obtain ⟨w1, hw1⟩ : ∃ w1, w1 = w0.alloc (.cells #[.int .i64 0, .int .i64 k, .int .i64 0, .int .i64 0, .slice none 0 0, .slice none 0 0, .int .i64 0, .int .i64 0, .slice none 0 0, .int .i64 0] 31) := ⟨_, rfl⟩
    have hm1 : Mod None_ w0 w1 := by rw [hw1]; exact (Mod.refl _ w0).alloc _
    have bq : Blk w1 (m + 1) 31 #[.int .i64 0, .int .i64 k, .int .i64 0, .int .i64 0, .slice none 0 0, .slice none 0 0, .int .i64 0, .int .i64 0, .slice none 0 0, .int .i64 0] := by rw [hw1, ← HSZ.out]; exact Blk.new w0 _ _
    have h0 := refI_zero (l := l) hk (bo.mod hm1 id) bq (hM0.trans hm1)
    have HW1 := hide hw1
    clear hw1 hm1 bq bo hM0
    rcases hk with rfl | rfl
    all_goals (
      go_upto_region 4 with fail
      rw [← HW1.out, HSZ.out]
      clear HW1
      go_wp2_with fail
      go_loopw [8, 7] (fun s8 s7 wr => ∃ j : Nat, j ≤ l.length ∧ s8 = .int .i64 j ∧ s7 = .int .i64 0 ∧ RefI w m _ l j wr) (fun s8 _ _ => l.length - (intOf s8).toNat)
      case atStart => exact ⟨0, Nat.zero_le _, rfl, rfl, h0⟩
      obtain ⟨j, hj, rfl, rfl, hR⟩ := hrel
      clear h0
      by_cases hlt : j < l.length
      · have hji : (j : Int) < l.length := by omega
        obtain ⟨D, vm, vn, vl, hpl, hwf, hld, bo, bq, hLm, hLn, hLl, hM⟩ := hR
        obtain ⟨g, o, rfl, hg, hcell⟩ := HA.out (by omega)
        have hc := hcell j hlt
        have htk : l.take (j + 1) = l.take j ++ [l[j]] := List.take_succ_eq_append_getElem hlt
        have hdr : l = l.take (j + 1) ++ l.drop (j + 1) := (List.take_append_drop (j + 1) l).symm
        obtain ⟨x, hx⟩ : ∃ x, x = l[j] := ⟨_, rfl⟩
        rw [← hx] at hc htk
        have hsn := playD_snoc (l.take j) _ D x hpl
        rw [← htk] at hsn
        have HSN := hide hsn
        have HDR := hide hdr
        have HWF := hide hwf
        have hrg : wr.rangeAt g (o + j * 8) (encEntry x) := fun i u h => (World.cell?_of_block (hM.block g hg id)).trans (hc i u h)
        clear hpl hc htk hdr hsn hx hcell hwf
        go_upto_region 8 with fail
        refine region_jxw [(true, 0), (true, 1), (true, 2), (true, 3), (true, 4), (false, 5), (true, 6), (true, 7), (true, 8), (false, 9), (true, 10)] [9] (fun w' => w'.rangeAt g (o + j * 8) (encEntry x)) (fun _ w' => Blk w' (m + 1) 31 (nodeC (nodeOf D j) vm vn vl)) (by kernel_rfl) (by kernel_rfl) ?_
        rintro w3 hw3
        have hm3 : Mod None_ wr w3 := by rw [hw3]; exact (Mod.refl _ wr).drew
        replace bo := bo.mod hm3 id
        replace bq := bq.mod hm3 id
        replace hLm := hLm.mod hm3 (fun g e => e.elim)
        replace hLn := hLn.mod hm3 (fun g e => e.elim)
        replace hLl := hLl.mod hm3 (fun g e => e.elim)
        have hM3 := hM.trans hm3
        have hrg3 : w3.rangeAt g (o + j * 8) (encEntry x) := fun i u h => (World.cell?_of_block (hm3.block g (Nat.lt_of_lt_of_le hg hM.size) id)).trans (hrg i u h)
        clear hw3 hm3 hM hrg
        refine ⟨hrg3, fun _ _ => bq, ?_⟩
        have HIN := hide (infoNode (nodeOf D j) vm vn vl)
        refine jxw_qv rfl rfl [9] (by kernel_rfl) rfl (fun w' hI hR => ex_load rfl (run_loadRow (hR 9 (by simp)) Tryd.underlying31 rfl HIN.out)) ?_
        try go_frame
        iterate 3 (refine jxw_quiet rfl rfl [] (by kernel_rfl) (fun w' i1 i2 K hK => by go_simp; exact hK) ?_; go_frame)
        refine jxw_qv rfl rfl [] (by kernel_rfl) rfl (fun w' hI hR => ex_load rfl (run_loadAt_mid w' g (o + j * 8) 26 (encEntry x) _ hI Tryd.underlying26 rfl (by kernel_rfl))) ?_
        try go_frame
        have HP := hide (refStep_any w3 (nodeOf D j) vm vn vl x ⟨hLm.1, hLn.1, hLl.1, node_ok HWF.out, (node_i64 HWF.out).1, (node_i64 HWF.out).2⟩ (node_small (by omega)) (node_runs HWF.out))
        have bq3 := bq
        refine jxw_loud rfl (fun K hK => ?_)
        go_simp
        refine Calls.mono HP.out ?_
        rintro y w4 ⟨vm1, vn1, vl1, rfl, h1, h2, h3, hm4, hF1, hF2, hF3⟩
        rw [step_err x j HWF.out]
        replace bo := bo.mod hm4 id
        replace bq := bq.mod hm4 id
        have hM4 := hM3.trans hm4
        have hrg4 : w4.rangeAt g (o + j * 8) (encEntry x) := fun i u h => (World.cell?_of_block (hm4.block g (Nat.lt_of_lt_of_le hg hM3.size) id)).trans (hrg3 i u h)
        have hw3s : m + 2 ≤ w3.heap.size := bq3.lt
        have hv1 : vm1.oneCell' = true := by obtain ⟨A, c, rfl, _⟩ := h1; rfl
        have hv2 : vn1.oneCell' = true := by obtain ⟨A, c, rfl, _⟩ := h2; rfl
        have hv3 : vl1.oneCell' = true := by obtain ⟨A, c, rfl, _⟩ := h3; rfl
        obtain ⟨NR, hNR⟩ : ∃ NR, NR = nodeR (nodeOf D j) x := ⟨_, rfl⟩
        rw [← hNR] at h1 h2 h3 hF1 hF2 hF3 ⊢
        obtain ⟨er, her⟩ : ∃ er, er = stepErr D x := ⟨_, rfl⟩
        rw [← her]
        have HNR := hide hNR
        have HER := hide her
        clear hNR her
        refine ⟨_, rfl, ⟨hrg4, fun _ _ _ => bq⟩, hK _ _ ?_⟩
        clear hK K HP
        try go_frame
        iterate 3 (refine jxw_quiet rfl rfl [] (by kernel_rfl) (fun w' i1 i2 K hK => by go_simp; exact hK) ?_; go_frame)
        have HI2 := hide (infoNode NR vm1 vn1 vl1)
        have HO2 := hide (nodeC_one NR vm1 vn1 vl1 hv1 hv2 hv3)
        have hms : Mod (· = m + 1) w4 (w4.setRow (m + 1) (nodeC NR vm1 vn1 vl1)) := (Mod.refl (· = m + 1) w4).setRow (.inr rfl) _
        refine jxw_storeRow rfl rfl 31 (.tmp 6) (.tmp 31) rfl (m + 1) (nodeC NR vm1 vn1 vl1) rfl rfl 31 (nodeC (nodeOf D j) vm vn vl) bq HI2.out rfl HO2.out ⟨fun i u h => (World.cell?_of_block (hms.block g (Nat.lt_of_lt_of_le hg hM4.size) (by omega))).trans (hrg4 i u h), fun d hd hn => absurd (by simp at hd; simp [hd]) hn⟩ ?_
        try go_frame
        refine jxw_quiet rfl rfl [] (by kernel_rfl) (fun w' i1 i2 K hK => by go_simp; exact hK) ?_
        go_frame
        refine jxw_nil ?_
        obtain ⟨w5, hw5⟩ : ∃ w5, w5 = w4.setRow (m + 1) (nodeC NR vm1 vn1 vl1) := ⟨_, rfl⟩
        rw [← hw5] at hms ⊢
        have bq5 : Blk w5 (m + 1) 31 (nodeC NR vm1 vn1 vl1) := by rw [hw5]; exact bq.row _
        have bo5 := bo.mod hms (by omega)
        have hM5 := hM4.trans' hms (fun g hg e => by omega)
        have y1 := (listY_fresh hLm h1 hF1 hw3s).mod hms (fun g e => by omega)
        have y2 := (listY_fresh hLn h2 hF2 hw3s).mod hms (fun g e => by omega)
        have y3 := (listY_fresh hLl h3 hF3 hw3s).mod hms (fun g e => by omega)
        clear hw5 hms bq bo hM4 hM3 hrg3 hrg4 h1 h2 h3 hF1 hF2 hF3 hLm hLn hLl hm4 HI2 HO2 HIN
        by_cases hz : er = 0
        · have hse : stepErr D x = 0 := by rw [← HER.out]; exact hz
          have hnr : NR = nodeOf (onD x D) (j + 1) := by rw [HNR.out]; exact step_node HWF.out hse (by omega)
          have hld2 := lenD_on x D
          rw [hnr] at bq5 y1 y2 y3
          have hnx : RefI w m _ l (j + 1) w5 := ⟨onD x D, vm1, vn1, vl1, by rw [HSN.out, if_pos hse], step_wf HWF.out hse, by omega, bo5, bq5, y1, y2, y3, hM5⟩
          have HNX := hide hnx
          have d6 : (er != 0) = false := by rw [hz]; rfl
          have HZ := hide hz
          clear hnx hse hnr bq5 y1 y2 y3 hM5 bo5 HDR HSN hz
          go_wp2_with fail
          go_roundw
          case rel => exact ⟨j + 1, by omega, by simp, by rw [HZ.out], HNX.out⟩
          case measure => simp [intOf]; omega
        · have hse : stepErr D x = er := HER.out.symm
          have herr : ∀ k, playD (zeroD k) (l.take (j + 1)) = (if stepErr D x = 0 then (0, onD x D) else (stepErr D x, D)) → k = 1 ∨ k = 2 → replayErr k l = er := fun k h hk => by
            unfold replayErr
            rw [if_pos hk, HDR.out]
            have h3 : (playD (zeroD k) (l.take (j + 1))).1 = er := by rw [h, if_neg (by rw [hse]; exact hz)]; exact hse
            rw [playD_stop _ _ _ (by rw [h3]; exact hz)]
            exact h3
          have hmr : Mod (· = m) w5 (w5.setRow m zeroNode) := (Mod.refl (· = m) w5).setRow (.inr rfl) _
          have HF := hide (ReplayRPost.bad (herr _ HSN.out (by first | exact Or.inl rfl | exact Or.inr rfl)) hz (hM5.trans' hmr (fun g hg e => by omega)))
          have HB := hide (bo5.row zeroNode)
          have d6 : (er != 0) = true := by simpa using hz
          clear hmr herr hse bq5 y1 y2 y3 hM5 HDR HSN hz HA
          go_wp2_with (first
            | ((with_reducible refine at_slot 35 ?_); refine wpList_val rfl (ex_build (ps := []) rfl (run_build31 _)) ?_; go_frame)
            | ((with_reducible refine at_none 31 4 35 ?_); refine wpList_store_row rfl 31 (.tmp 4) (.tmp 35) rfl m zeroNode rfl rfl 31 zeroNode bo5 infoZero rfl oneZero ?_; go_frame))
          have hl := run_loadVar_row (P := Tryd.prog) _ m 31 31 _ (0, 0) _ HB.out Tryd.underlying31 rfl infoZero
          exact ⟨rfl, .tuple #[.agg zeroNode, .int .i64 er], by simp [results, Tryd.results12, asAddr, hl], HF.out⟩
      · obtain rfl : j = l.length := by omega
        have hji : ¬ (l.length : Int) < l.length := by omega
        obtain ⟨D, vm, vn, vl, hpl, hwf, hld, bo, bq, hLm, hLn, hLl, hM⟩ := hR
        rw [List.take_length] at hpl
        have hfin0 : ∀ k, playD (zeroD k) l = (0, D) → k = 1 ∨ k = 2 → replayErr k l = 0 ∧ replayN k l = nodeOf D l.length := fun k h hk => by
          have h1 : replayErr k l = 0 := by unfold replayErr; rw [if_pos hk, h]
          refine ⟨h1, ?_⟩
          unfold replayN
          rw [if_pos h1, h]
          rfl
        obtain ⟨e1, e2⟩ := hfin0 _ hpl (by first | exact Or.inl rfl | exact Or.inr rfl)
        have hv1 : vm.oneCell' = true := by obtain ⟨A, c, rfl, _⟩ := hLm.1; rfl
        have hv2 : vn.oneCell' = true := by obtain ⟨A, c, rfl, _⟩ := hLn.1; rfl
        have hv3 : vl.oneCell' = true := by obtain ⟨A, c, rfl, _⟩ := hLl.1; rfl
        obtain ⟨N, hN⟩ : ∃ N, N = nodeOf D l.length := ⟨_, rfl⟩
        rw [← hN] at e2 bq hLm hLn hLl
        have hmr : Mod (· = m) wr (wr.setRow m (nodeC N vm vn vl)) := (Mod.refl (· = m) wr).setRow (.inr rfl) _
        have hfin : ∀ k, replayErr k l = 0 → replayN k l = N → ReplayRPost w k l (.returned (.tuple #[.agg (nodeC N vm vn vl), .int .i64 0])) (wr.setRow m (nodeC N vm vn vl)) := fun k e1 e2 => by
          refine ⟨vm, vn, vl, by rw [e1, e2], by rw [e2]; exact (hLm.mod hmr (fun g e => by omega)).1, by rw [e2]; exact (hLn.mod hmr (fun g e => by omega)).1, by rw [e2]; exact (hLl.mod hmr (fun g e => by omega)).1, hM.trans' hmr (fun g hg e => by omega)⟩
        have HF := hide (hfin _ e1 e2)
        have HB := hide (bo.row (nodeC N vm vn vl))
        have HI2 := hide (infoNode N vm vn vl)
        have HO2 := hide (nodeC_one N vm vn vl hv1 hv2 hv3)
        clear hfin hmr hN e1 e2 hLm hLn hLl hM hpl hwf hfin0 HA
        go_wp2_with (first
          | ((with_reducible refine at_slot 37 ?_); refine wpList_val rfl (ex_load rfl (run_loadRow bq Tryd.underlying31 rfl HI2.out)) ?_; go_frame)
          | ((with_reducible refine at_none 31 4 37 ?_); refine wpList_store_row rfl 31 (.tmp 4) (.tmp 37) rfl m (nodeC N vm vn vl) rfl rfl 31 zeroNode bo HI2.out rfl HO2.out ?_; go_frame))
        have hl := run_loadVar_row (P := Tryd.prog) _ m 31 31 _ (0, 0) _ HB.out Tryd.underlying31 rfl HI2.out
        exact ⟨rfl, .tuple #[.agg (nodeC N vm vn vl), .int .i64 0], by simp [results, Tryd.results12, asAddr, hl], HF.out⟩)
  · have hk1 : ¬ k = 1 := fun e => hk (.inl e)
    have hk2 : ¬ k = 2 := fun e => hk (.inr e)
    have k1 : (k != 1) = true := by simpa using hk1
    have k2 : (k != 2) = true := by simpa using hk2
    have k3 : (k == 1) = false := by simpa using hk1
    have k4 : (k == 2) = false := by simpa using hk2
    have hmr : Mod (· = m) w0 (w0.setRow m zeroNode) := (Mod.refl (· = m) w0).setRow (.inr rfl) _
    have HF := hide (ReplayRPost.bad (k := k) (l := l) (c := 90) (by unfold replayErr; rw [if_neg hk]) (by decide) (hM0.trans' hmr (fun g hg e => by omega)))
    have HB := hide (bo.row zeroNode)
    clear hmr hM0 hk HSZ HA
    go_wp2_with (first
      | ((with_reducible refine at_slot 15 ?_); refine wpList_val rfl (ex_build (ps := []) rfl (run_build31 _)) ?_; go_frame)
      | ((with_reducible refine at_none 31 4 15 ?_); refine wpList_store_row rfl 31 (.tmp 4) (.tmp 15) rfl m zeroNode rfl rfl 31 zeroNode bo infoZero rfl oneZero ?_; go_frame))
    have hl := run_loadVar_row (P := Tryd.prog) _ m 31 31 _ (0, 0) _ HB.out Tryd.underlying31 rfl infoZero
    exact ⟨rfl, .tuple #[.agg zeroNode, .int .i64 90], by simp [results, Tryd.results12, asAddr, hl], HF.out⟩
end Go.Proofs.YtabebkffcmajkaaDoor

/-! Law walks: copyEntries. -/
namespace Go.Proofs.YtabebkffcmajkaaDoor
open Go.RowKit Go.Maps Go.Shelf
attribute [local go_sem] quietV loudUpon Oper.semAt_some

theorem oneEntryL : ∀ (e : EntD), ∀ u ∈ encEntry e, u.oneCell' = true := by
  intro e u hu
  simp only [encEntry, List.mem_cons, List.not_mem_nil, or_false] at hu
  rcases hu with rfl | rfl | rfl | rfl | rfl | rfl | rfl | rfl <;> rfl
set_option maxRecDepth 100000 in
set_option maxHeartbeats 1000000 in
theorem copyEntries_any (w : World) (v : Value) (l : List EntD) (h : ListAt encEntry 8 w v l) (hl : l.length ≤ 1000000) : Calls Tryd.prog 11 #[v] w fun e w' => ∃ v', e = .returned v' ∧ w'.ownsRow w.heap.size 26 8 v' l.length (rowOf encEntry l) ∧ Mod None_ w w' := by
  obtain ⟨A, c, rfl, hc1, hc2, hA⟩ := id h
  obtain ⟨ii, hii, hzi, hsi, hbi⟩ := info_parts infoEntry
  have HRD := hide (ListAt.reads (enc := encEntry) (sz := 8) (fun _ => rfl) (by omega) h)
  clear hA h
  have hlt : w.heap.size ≤ w.heap.size := Nat.le_refl _
  go_enter Tryd.func11, Tryd.ntmps11
  go_wp2_with ((with_reducible refine at_slot 6 ?_); refine wpList_append_any _ rfl (.tmp 4) (.tmp 5) 22 rfl w.heap.size 26 ii _ 8 72 Tryd.underlying22 hii hzi hsi hbi rfl (by omega) (.slice none 0 0) 0 [] rfl ⟨rfl, .inl ⟨rfl, rfl⟩⟩ w.heap.size A l.length c _ rfl HRD.out (rowOf_one oneEntryL l) (by unfold maxLen; omega) (by omega) hlt ?_; intro v' w' hown' hg' hat'; go_frame)
  rw [Nat.zero_add, List.nil_append] at hown'
  have hM : Mod None_ w w' := (Mod.of_grown hg').mono (fun k _ e => by cases e)
  have HF := hide (And.intro hown' hM)
  clear hown' hM hg' hat'
  go_ret
  exact ⟨_, rfl, HF.out⟩
end Go.Proofs.YtabebkffcmajkaaDoor

/-! Law walk: InodeReplays. -/
namespace Go.Proofs.YtabebkffcmajkaaDoor
open Go.RowKit Go.Maps Go.Shelf
attribute [local go_sem] quietV loudUpon Oper.semAt_some

theorem ListAt.front {α : Type} {enc : α → List Value} {sz : Nat} {w : World} {A : Option Addr} {c : Nat} {l m : List α} (h : ListAt enc sz w (.slice A (l ++ m).length c) (l ++ m)) : ListAt enc sz w (.slice A l.length c) l := by
  obtain ⟨A', c', e, h1, h2, h3⟩ := h
  simp only [Value.slice.injEq, true_and] at e
  obtain ⟨rfl, rfl⟩ := e
  have hlen : (l ++ m).length = l.length + m.length := by simp
  refine ⟨A, c, rfl, by omega, h2, fun h0 => ?_⟩
  obtain ⟨g, o, e2, hg, hc⟩ := h3 (by omega)
  refine ⟨g, o, e2, hg, fun i hi => ?_⟩
  have := hc i (by omega)
  rw [List.getElem_append_left hi] at this
  exact this
theorem play_wf : ∀ (l : List EntD) (D : SenseD), WfD D → WfD (playD D l).2
  | [], _, h => h
  | e :: l, D, h => by
    show WfD (if stepErr D e = 0 then playD (onD e D) l else (stepErr D e, D)).2
    split
    · rename_i he; exact play_wf l _ (step_wf h he)
    · exact h
theorem replay_node (k : Int) (l : List EntD) : (∀ r ∈ (replayN k l).map, r.Ok) ∧ I64 (replayN k l).kind ∧ I64 (replayN k l).size := by
  unfold replayN
  split
  · have hw := play_wf l _ (wf_zero k)
    have h1 := node_ok (j := l.length) hw
    have h2 := node_i64 (j := l.length) hw
    exact ⟨h1, h2.1, h2.2⟩
  · exact ⟨(fun r hr => by cases hr), ⟨by show -9223372036854775808 ≤ (0 : Int); omega, by show (0 : Int) ≤ 9223372036854775807; omega⟩, ⟨by show -9223372036854775808 ≤ (0 : Int); omega, by show (0 : Int) ≤ 9223372036854775807; omega⟩⟩
def markE (k : Int) : EntD := ⟨k, 0, 0, 0, 0, 0, 0, ⟨#[]⟩⟩
set_option maxRecDepth 100000 in
set_option maxHeartbeats 4000000 in
theorem lawReplays (w : World) (k : Int) (v : Value) (l : List EntD) (hs : Steps w) (h : ListAt encEntry 8 w v l) :
    Calls Tryd.prog 3 #[.int .i64 k, v] w (BoolPost w true) := by
  obtain ⟨A, c, rfl, hc1, hc2, hA⟩ := id h
  have hln : ∀ w, (Builtin.len_ #[22] 3 #[.slice A l.length c]).run Tryd.prog w = .ok (.int .i64 l.length) w := fun w => by simp [Builtin.len_, run_underlying Tryd.underlying22]; rfl
  clear hA
  have HL := hide h
  have HS := hide hs
  clear h hs
  go_enter Tryd.func3, Tryd.ntmps3
  by_cases hbig : 2000 < l.length
  · have d1 : decide ((2000 : Int) < l.length) = true := decide_eq_true (by omega)
    go_wp2
    go_ret
    exact ⟨rfl, Mod.refl _ w⟩
  · have d1 : decide ((2000 : Int) < l.length) = false := decide_eq_false (by omega)
    have hl : l.length ≤ 2000 := by omega
    go_wp2_with fail
    refine (copyEntries_any w _ l HL.out (by omega)).mono ?_
    rintro x w1 ⟨v1, rfl, hown, hM1⟩
    have hsz := hM1.size
    obtain ⟨A1, c1, rfl⟩ := own_slice hown
    obtain ⟨ii, hii, hzi, hsi, hbi⟩ := info_parts infoEntry
    obtain ⟨wb, hwb⟩ : ∃ wb, wb = w1.alloc (.cells #[.int .i64 5, .int .u64 0, .int .i64 0, .int .i64 0, .int .i64 0, .int .i64 0, .int .i64 0, .string ⟨#[]⟩, .int .i64 6, .int .u64 0, .int .i64 0, .int .i64 0, .int .i64 0, .int .i64 0, .int .i64 0, .string ⟨#[]⟩] 26) := ⟨_, rfl⟩
    have hmb : Mod None_ w1 wb := by rw [hwb]; exact (Mod.refl _ w1).alloc _
    have hmk : wb.ownsRow w1.heap.size 26 8 (.slice (some ⟨w1.heap.size, 0, none⟩) 2 2) 2 (rowOf encEntry [markE 5, markE 6]) := by
      have hb : Blk wb w1.heap.size 26 (rowOf encEntry [markE 5, markE 6]).toArray := by rw [hwb]; exact Blk.new w1 _ _
      exact ⟨rfl, .inr ⟨w1.heap.size, 2, _, rfl, Nat.le_refl _, hb, Nat.le_refl _, by unfold maxLen; omega, rfl, rfl⟩⟩
    have hrd := ListAt.reads (enc := encEntry) (sz := 8) (l := [markE 5, markE 6]) (fun _ => rfl) (by omega) (list_of_ownRow (enc := encEntry) (l := [markE 5, markE 6]) (fun _ => rfl) hmk)
    have HOW := hide (own_mod hown hmb (fun _ _ f => f))
    have HRD := hide hrd
    have HWB := hide hwb
    have hwsz : w.heap.size ≤ wb.heap.size := Nat.le_trans hsz hmb.size
    have hMb := hM1.trans hmb
    clear hown hmk hrd hwb hmb
    go_upto_region 5 with ((with_reducible refine at_slot 21 ?_); rw [← HWB.out]; refine wpList_append_any _ rfl (.tmp 17) (.tmp 20) 22 rfl w.heap.size 26 ii _ 8 72 Tryd.underlying22 hii hzi hsi hbi rfl (by omega) _ l.length _ rfl HOW.out wb.heap.size (some ⟨w1.heap.size, 0, none⟩) 2 2 _ rfl HRD.out (rowOf_one oneEntryL _) (by unfold maxLen; omega) (by omega) hwsz ?_; intro v2 w2 hown2 hg2 hat2; go_frame)
    have hM2 : Mod None_ w w2 := hMb.trans' (Mod.of_grown hg2) (fun q hq e => by
      have := (own_blk HOW.out e.symm).1
      omega)
    have hR : rowOf encEntry l ++ rowOf encEntry [markE 5, markE 6] = rowOf encEntry (l ++ [markE 5, markE 6]) := by simp [rowOf]
    have hlen2 : l.length + 2 = (l ++ [markE 5, markE 6]).length := by simp
    rw [hR, hlen2] at hown2
    obtain ⟨A2, c2, rfl⟩ := own_slice hown2
    have HOW2 := hide hown2
    have hsz2 := hM2.size
    clear hown2 hg2 hat2 hMb hR hlen2 HOW HRD HWB
    have HP := hide (refReplay_any w2 k _ l (HL.out.kept hM2) hl)
    go_wp2_with fail
    refine HP.out.mono ?_
    rintro x w3 ⟨vm, vn, vl, rfl, hLm, hLn, hLl, hM3⟩
    have hsz3 := hM3.size
    have hM3t := hM2.trans hM3
    obtain ⟨q, hq⟩ : ∃ q, q = w3.heap.size := ⟨_, rfl⟩
    have hv1 : vm.oneCell' = true := by obtain ⟨A, c, rfl, _⟩ := hLm; rfl
    have hv2 : vn.oneCell' = true := by obtain ⟨A, c, rfl, _⟩ := hLn; rfl
    have hv3 : vl.oneCell' = true := by obtain ⟨A, c, rfl, _⟩ := hLl; rfl
    obtain ⟨w4, hw4⟩ : ∃ w4, w4 = w3.alloc (.cells (nodeC (replayN k l) vm vn vl) 31) := ⟨_, rfl⟩
    have hm4 : Mod None_ w3 w4 := by rw [hw4]; exact (Mod.refl _ w3).alloc _
    have bb : Blk w4 q 31 (nodeC (replayN k l) vm vn vl) := by rw [hw4, hq]; exact Blk.new w3 _ _
    have hM4 := hM3t.trans hm4
    replace hLm := hLm.kept hm4
    replace hLn := hLn.kept hm4
    replace hLl := hLl.kept hm4
    have hown4 := own_mod HOW2.out (hM3.trans hm4) (fun _ _ f => f)
    have hfull := list_of_ownRow (enc := encEntry) (fun _ => rfl) hown4
    have hcap : l.length ≤ c2 := by
      obtain ⟨A', c', e, h1, _⟩ := hfull
      simp only [Value.slice.injEq, true_and] at e
      have : (l ++ [markE 5, markE 6]).length = l.length + 2 := by simp
      omega
    have HI1 := hide (infoNode (replayN k l) vm vn vl)
    have HO1 := hide (nodeC_one (replayN k l) vm vn vl hv1 hv2 hv3)
    have HW4 := hide hw4
    have HQ := hide hq
    have HFU := hide hfull
    have HRP := hide (replay_any w4 k _ l (HS.out.kept hM4) hfull.front (by omega))
    clear hw4 hq hM3 hm4 hM2 HP HOW2 hown4 hfull
    go_upto_region 6 with ((with_reducible refine at_slot 7 ?_); refine wpList_declare rfl rfl 31 7 (.tmp 26) rfl rfl rfl zeroNode (nodeC (replayN k l) vm vn vl) zeroNodeV HI1.out (nodeC_size _ _ _ _) HO1.out (by simp) rfl ?_; go_frame; rw [← HW4.out, ← HQ.out])
    clear HW4 HQ
    go_wp2_with fail
    refine HRP.out.mono ?_
    rintro x w5 ⟨vm2, vn2, vl2, rfl, hOw, hM5⟩
    have hOm := list_of_ownRow (enc := encRun) (fun _ => rfl) hOw.map
    have hOn := list_of_ownRow (enc := encDent) (fun _ => rfl) hOw.names
    have hOl := list_of_ownRow (enc := encInt) (fun _ => rfl) hOw.log
    have hu1 : vm2.oneCell' = true := by obtain ⟨A, c, rfl, _⟩ := hOm; rfl
    have hu2 : vn2.oneCell' = true := by obtain ⟨A, c, rfl, _⟩ := hOn; rfl
    have hu3 : vl2.oneCell' = true := by obtain ⟨A, c, rfl, _⟩ := hOl; rfl
    replace bb := bb.mod hM5 id
    replace hLm := hLm.kept hM5
    replace hLn := hLn.kept hM5
    replace hLl := hLl.kept hM5
    have HFU5 := hide (HFU.out.kept hM5)
    have hM5t := hM4.trans hM5
    obtain ⟨N, hN⟩ : ∃ N, N = replayN k l := ⟨_, rfl⟩
    obtain ⟨er, her⟩ : ∃ er, er = replayErr k l := ⟨_, rfl⟩
    rw [← hN, ← her]
    rw [← hN] at bb hLm hLn hLl hOm hOn hOl
    have hok := replay_node k l
    rw [← hN] at hok
    clear hN her hOw hM5 HRP HFU hM4 hv1 hv2 hv3 HI1 HO1
    obtain ⟨r, hr⟩ : ∃ r, r = w5.heap.size := ⟨_, rfl⟩
    obtain ⟨w6, hw6⟩ : ∃ w6, w6 = w5.alloc (.cells (nodeC N vm2 vn2 vl2) 31) := ⟨_, rfl⟩
    have hm6 : Mod None_ w5 w6 := by rw [hw6]; exact (Mod.refl _ w5).alloc _
    have br : Blk w6 r 31 (nodeC N vm2 vn2 vl2) := by rw [hw6, hr]; exact Blk.new w5 _ _
    replace bb := bb.mod hm6 id
    have hM6 := hM5t.trans hm6
    have HFU6 := hide (HFU5.out.kept hm6)
    have hIn1 : NodeIn w6 N vm2 vn2 vl2 := ⟨hOm.kept hm6, hOn.kept hm6, hOl.kept hm6, hok.1, hok.2.1, hok.2.2⟩
    have hIn2 : NodeIn w6 N vm vn vl := ⟨hLm.kept hm6, hLn.kept hm6, hLl.kept hm6, hok.1, hok.2.1, hok.2.2⟩
    have HSN := hide (lawSameNode w6 N vm2 vn2 vl2 vm vn vl hIn1 hIn2)
    have HI2 := hide (infoNode N vm2 vn2 vl2)
    have HO2 := hide (nodeC_one N vm2 vn2 vl2 hu1 hu2 hu3)
    have HW6 := hide hw6
    have HR := hide hr
    clear hw6 hr hm6 hM5t HFU5 hLm hLn hLl hOm hOn hOl hIn1 hIn2 hok
    go_upto_region 7 with ((with_reducible refine at_slot 9 ?_); refine wpList_declare rfl rfl 31 9 (.tmp 34) rfl rfl rfl zeroNode (nodeC N vm2 vn2 vl2) zeroNodeV HI2.out (nodeC_size _ _ _ _) HO2.out (by simp) rfl ?_; go_frame; rw [← HW6.out, ← HR.out])
    clear HW6 HR
    have b0 : w6.cell? ⟨q, 0, none⟩ = some (.int .i64 N.ino) := bb.cell 0
    have b1 : w6.cell? ⟨q, 1, none⟩ = some (.int .i64 N.kind) := bb.cell 1
    have b2 : w6.cell? ⟨q, 2, none⟩ = some (.int .i64 N.links) := bb.cell 2
    have b3 : w6.cell? ⟨q, 3, none⟩ = some (.int .i64 N.size) := bb.cell 3
    have b4 : w6.cell? ⟨q, 4, none⟩ = some vm := bb.cell 4
    have b5 : w6.cell? ⟨q, 5, none⟩ = some vn := bb.cell 5
    have b6 : w6.cell? ⟨q, 6, none⟩ = some (.int .i64 N.head) := bb.cell 6
    have b7 : w6.cell? ⟨q, 7, none⟩ = some (.int .i64 N.tail) := bb.cell 7
    have b8 : w6.cell? ⟨q, 8, none⟩ = some vl := bb.cell 8
    have b9 : w6.cell? ⟨q, 9, none⟩ = some (.int .i64 N.entries) := bb.cell 9
    have r0 : w6.cell? ⟨r, 0, none⟩ = some (.int .i64 N.ino) := br.cell 0
    have r1 : w6.cell? ⟨r, 1, none⟩ = some (.int .i64 N.kind) := br.cell 1
    have r2 : w6.cell? ⟨r, 2, none⟩ = some (.int .i64 N.links) := br.cell 2
    have r3 : w6.cell? ⟨r, 3, none⟩ = some (.int .i64 N.size) := br.cell 3
    have r4 : w6.cell? ⟨r, 4, none⟩ = some vm2 := br.cell 4
    have r5 : w6.cell? ⟨r, 5, none⟩ = some vn2 := br.cell 5
    have r6 : w6.cell? ⟨r, 6, none⟩ = some (.int .i64 N.head) := br.cell 6
    have r7 : w6.cell? ⟨r, 7, none⟩ = some (.int .i64 N.tail) := br.cell 7
    have r8 : w6.cell? ⟨r, 8, none⟩ = some vl2 := br.cell 8
    have r9 : w6.cell? ⟨r, 9, none⟩ = some (.int .i64 N.entries) := br.cell 9
    clear bb br HI2 HO2
    go_wp2_with fail
    refine Calls.mono HSN.out ?_
    rintro x w7 ⟨rfl, hm7⟩
    have hM7 := hM6.trans hm7
    have HFU7 := hide (HFU6.out.kept hm7)
    clear b0 b1 b2 b3 b4 b5 b6 b7 b8 b9 r0 r1 r2 r3 r4 r5 r6 r7 r8 r9 HSN hm7 HFU6 hM6
    go_wp2_with fail
    have HSE := hide (lawSameEntries w7 (.slice A2 l.length c2) (.slice A l.length c) l l HFU7.out.front (HL.out.kept hM7))
    refine Calls.mono HSE.out ?_
    rintro x w8 ⟨hx, hm8⟩
    rw [decide_eq_true rfl] at hx
    obtain rfl := hx
    have hM8 := hM7.trans hm8
    obtain ⟨_, _, hcv, _, _, hcell⟩ := HFU7.out.kept hm8
    simp only [Value.slice.injEq, true_and] at hcv
    obtain ⟨rfl, rfl⟩ := hcv
    have hl2 : (l ++ [markE 5, markE 6]).length = l.length + 2 := by simp
    obtain ⟨g, o, rfl, hg, hc⟩ := hcell (by omega)
    have e5 : (l ++ [markE 5, markE 6])[l.length]'(by omega) = markE 5 := by rw [List.getElem_append_right (Nat.le_refl _)]; simp
    have e6 : (l ++ [markE 5, markE 6])[l.length + 1]'(by omega) = markE 6 := by rw [List.getElem_append_right (by omega)]; simp
    have x5 : w8.cell? ⟨g, o + l.length * 8, none⟩ = some (.int .i64 5) := by
      have := hc l.length (by omega) 0 (.int .i64 5) (by rw [e5]; rfl)
      simpa using this
    have x6 : w8.cell? ⟨g, o + (l.length + 1) * 8, none⟩ = some (.int .i64 6) := by
      have := hc (l.length + 1) (by omega) 0 (.int .i64 6) (by rw [e6]; rfl)
      simpa using this
    have hi5 : (l.length : Int) < l.length + 2 := by omega
    have HMF := hide hM8
    clear hc hcell hg e5 e6 hl2 hM8 hm8 hM7 HFU7 HSE
    go_wp2
    go_ret
    exact ⟨rfl, HMF.out⟩
end Go.Proofs.YtabebkffcmajkaaDoor

/-! A list of entries as an argument. -/
namespace Go.Proofs.YtabebkffcmajkaaDoor
open Go.RowKit Go.Maps Go.ChangeShapes Go.WideShapes Go.Deep
section
variable {H : Type} {ec : TypeId × Value → H} {W : World} {base : Nat} {spare : Nat → Bool} {held : Bool}
theorem cellsU64 : Tryd.prog.cellsOf 24 = 1 := by kernel_rfl
theorem cellsEntry : Tryd.prog.cellsOf 26 = 8 := by kernel_rfl
theorem cellsLE : Tryd.prog.cellsOf 22 = 1 := by kernel_rfl
set_option maxRecDepth 100000 in
theorem dec_entry {n : Nat} {cs : List Value} {x : DataW H × List MemPlace} (h : DataW.trod ec Tryd.prog W base spare held n 26 cs = some x) : ∃ y : EntD, cs = encEntry y ∧ True := by
  obtain ⟨ys, n', hn', hy, hlen, hyl, hf⟩ := DataW.trod_struct Tryd.underlying26 h
  rw [cellsEntry] at hlen
  match cs, hlen with
  | [a, b, c, d, e, f, g, i], _ =>
    have t0 := hf 0 _ rfl
    have t1 := hf 1 _ rfl
    have t2 := hf 2 _ rfl
    have t3 := hf 3 _ rfl
    have t4 := hf 4 _ rfl
    have t5 := hf 5 _ rfl
    have t6 := hf 6 _ rfl
    have t7 := hf 7 _ rfl
    simp only [List.getElem_toArray, List.getElem_cons_zero, List.getElem_cons_succ, cellsInt, cellsStr, cellsU64, List.drop_zero, List.take_succ_cons, List.take_zero, List.drop_succ_cons] at t0 t1 t2 t3 t4 t5 t6 t7
    match ys, hyl with
    | [y0, y1, y2, y3, y4, y5, y6, y7], _ =>
      obtain ⟨x0, q0, w0⟩ := dec_int (t0.trans rfl)
      obtain ⟨x1, q1, _, w1⟩ := DataW.trod_int Tryd.underlying24 (t1.trans rfl)
      obtain ⟨x2, q2, w2⟩ := dec_int (t2.trans rfl)
      obtain ⟨x3, q3, w3⟩ := dec_int (t3.trans rfl)
      obtain ⟨x4, q4, w4⟩ := dec_int (t4.trans rfl)
      obtain ⟨x5, q5, w5⟩ := dec_int (t5.trans rfl)
      obtain ⟨x6, q6, w6⟩ := dec_int (t6.trans rfl)
      obtain ⟨x7, q7, _, _⟩ := DataW.trod_string Tryd.underlying9 (t7.trans rfl)
      simp only [encInt, List.cons.injEq, and_true] at q0 q1 q2 q3 q4 q5 q6 q7
      subst q0 q1 q2 q3 q4 q5 q6 q7
      exact ⟨⟨x0, x1, x2, x3, x4, x5, x6, x7⟩, rfl, trivial⟩
end
theorem open_entries {H : Type} {ec : TypeId × Value → H} {W : World} {v : Value} {d : DataW H} {p : List MemPlace} (h : DataW.Trod ec Tryd.prog W 0 (fun _ => true) true 22 v d p) (hv : v.cells.toList = [v]) :
    ∃ l : List EntD, ListAt encEntry 8 W v l := by
  obtain ⟨fuel, hf⟩ := h
  rw [hv] at hf
  obtain ⟨l, h1, _, _⟩ := open_list encEntry (fun _ => True) 8 (by omega) Tryd.underlying22 cellsEntry (fun _ => rfl) (fun n cs x hx => dec_entry hx) hf
  exact ⟨l, h1⟩
end Go.Proofs.YtabebkffcmajkaaDoor

namespace Go.Proofs.YtabebkffcmajkaaDoor
open Go.ChangeShapes Go.WideShapes Go.ChangeAt Go.RowKit
theorem ownG : ownKnob Tryd.prog.godebug = none := by kernel_rfl
theorem gSteps : Tryd.prog.globalNamed "furrow/codec.steps" = some 0 := by kernel_rfl
theorem gStepsType : (Tryd.prog.globals[0]?).map (·.type) = some 170 := by kernel_rfl
theorem cellsT16 : Tryd.prog.cellsOf 170 = 16 := by kernel_rfl
theorem cellsU32 : Tryd.prog.cellsOf 150 = 1 := by kernel_rfl
theorem steps_tab {W : World} (h : laidMetH Tryd.prog Rows.inodeReplaysRow.laid W) : Lib.TabIs Tryd.prog W "furrow/codec.steps" .u32 sumTab :=
  Lib.tabIs_of_head (rest := []) gSteps gStepsType Tryd.underlying170 Tryd.underlying150 cellsU32 cellsT16 h
theorem steps_of {W : World} (h : laidMetH Tryd.prog Rows.inodeReplaysRow.laid W) : Steps W := by
  have ht := steps_tab h
  have hc : ∀ i : Nat, i < 16 → W.cell? ⟨0, i, none⟩ = some (.int .u32 (sumTab.getD i 0)) := fun i hi => ht.cell gSteps i hi
  exact ⟨block_lt_of_cell (hc 0 (by omega)), hc⟩
namespace inodeReplays
set_option maxRecDepth 100000 in
theorem contract (H : Type) (enc : TypeId × Value → H) (W : World) (base : Nat) (args : Array Value) (ds gs : List (DataW H)) (before : List MemPlace)
    (hval : ∀ (j : Nat) t v, Tryd.f3.params[j]? = some t → args[j]? = some v → Value.okWide Tryd.prog W .any base t v)
    (hW : DataW.Whole enc Tryd.prog Tryd.f3.params.toList Rows.inodeReplaysSpec.vars false W args.toList ds gs before) (hL : laidMetH Tryd.prog Rows.inodeReplaysRow.laid W) :
    Calls Tryd.prog 3 args W fun e W' => ∃ v, e = .returned v ∧ Rows.inodeReplaysSpec.post enc Tryd.prog Tryd.f3 false true false false W args v W' := by
  have hW' := hW
  obtain ⟨p, q, hA0, hV, rfl, hfz, hnd⟩ := hW
  have hA : DataW.TrodAll enc Tryd.prog W 0 (fun _ => true) true Tryd.f3.params.toList args.toList ds p := hA0
  rw [Tryd.params3] at hA hval
  obtain ⟨v0, vs0, d0, ds0, p0, q0, hargs, rfl, rfl, h0, r0⟩ := trodAll_cons hA
  obtain ⟨v1, vs1, d1, ds1, p1, q1, rfl, rfl, rfl, h1, r1⟩ := trodAll_cons r0
  obtain ⟨rfl, rfl, rfl⟩ := trodAll_nil r1
  obtain rfl : args = #[v0, v1] := by cases args; simp_all
  obtain ⟨rfl, rfl⟩ := trodVars_none hV
  have k0 := h0
  have k1 := h1
  have lt0 : ∀ x ∈ p0, x.block < W.heap.size := by obtain ⟨m, hm⟩ := k0; exact DataW.trod_lt m _ _ _ hm
  have lt1 : ∀ x ∈ p1, x.block < W.heap.size := by obtain ⟨m, hm⟩ := k1; exact DataW.trod_lt m _ _ _ hm
  obtain ⟨a0, rfl, rfl, rfl, w0⟩ := open_int Tryd.underlying3 (hval 0 3 v0 rfl rfl) h0
  have hs := okWide_slice Tryd.underlying22 (hval 1 22 v1 rfl rfl)
  obtain ⟨sa, sl, sc, rfl⟩ := hs
  obtain ⟨l, hl⟩ := open_entries h1 rfl
  clear hA0
  refine (lawReplays W a0 _ l (steps_of hL) hl).mono fun e W' ⟨he, hm⟩ => ?_
  subst he
  have bel := hm.below
  exact ⟨_, rfl, _, _, _, [], _, [], hW', trodAll_mk1 (shut_bool Tryd.underlying4 _),
    (trodAll_cons_mk (shut_int Tryd.underlying3 w0) (trodAll_cons_mk (Below.trod laidOut (by kernel_rfl) (of_decide_eq_true (by kernel_rfl)) k1 bel lt1) trodAll_mk0)),
    rfl, bel.frame _, fun h => by cases h⟩

/-- a world for the witness: the settled one, the table (block 0) holding what its initialiser lays -/
noncomputable def laidWorld (os : Os) : World :=
  { World.holding Tryd.prog os ⟨#[], #[], []⟩ with heap := (World.holding Tryd.prog os ⟨#[], #[], []⟩).heap.modify 0 fun
      | .cells _ t frozen => .cells (sumTab.map (Value.int .u32)).toArray t frozen
      | o => o }
theorem laid_met (os : Os) : laidMet Tryd.prog Rows.inodeReplaysRow.laid ((laidWorld os).forCall (fun _ _ => 0) ⟨#[], #[.int .i64 0, .slice none 0 0], []⟩).memory :=
  laidMet_of_run' 8 (by kernel_rfl) (by kernel_rfl)
theorem reads (os : Os) {H : Type} (enc : TypeId × Value → H) : ∃ places, DataW.whole enc Tryd.prog ((laidWorld os).forCall (fun _ _ => 0) ⟨#[], #[.int .i64 0, .slice none 0 0], []⟩).memory Tryd.f3.params.toList Rows.inodeReplaysSpec.vars false #[Value.int .i64 0, .slice none 0 0].toList 8 = some ([.lit (.int .i64 0), .nil], [], places) :=
  ⟨[], by kernel_rfl⟩
set_option maxRecDepth 100000 in
theorem lifted (os : Os) (started : os.Started) (H : Type) (enc : TypeId × Value → H) (F : Stop.Interp) :
    ReturnsInHanded {} Tryd.checked os 3 .any ((OpenSpec.ofChange Rows.inodeReplaysSpec).preRow enc Tryd.prog Tryd.f3 Rows.inodeReplaysRow.domain false Rows.inodeReplaysRow.laid) (((OpenSpec.ofChange Rows.inodeReplaysSpec).at F).post enc Tryd.prog Tryd.f3 false true false false) := by
  obtain ⟨places, hx⟩ := reads os enc
  refine returnsInHanded_of_row (C := Tryd.checked) (s := OpenSpec.ofChange Rows.inodeReplaysSpec) ownG started (by kernel_rfl) Tryd.func3
    (witness_row_at (enc := enc) (C := Tryd.checked) false (laidWorld os) #[.int .i64 0, .slice none 0 0] rfl (by kernel_rfl) (by kernel_rfl) (by kernel_rfl)
      (OpenSpec.preRow_of_cond 8 hx (by kernel_rfl) (fun k hk => by cases hk) (by kernel_rfl) (laid_met os))) ?_
  intro W base args ds gs before hval hW _ _ _ hL _ _
  exact contract H enc W base args ds gs before hval hW hL
theorem said : Rows.InodeReplaysSaid :=
  OpenClaim.holds_of_cond 3 Tryd.f3 rfl rfl rfl rfl rfl rfl rfl ⟨rfl, rfl, rfl, rfl, rfl⟩ rfl rfl rfl rfl rfl (by kernel_rfl) Tryd.func3 (by kernel_rfl)
    (of_decide_eq_true (by kernel_rfl)) (by unfold Func.isWrapper; first | (rw [if_pos (by decide +kernel)]; kernel_rfl) | (rw [if_neg (by decide +kernel)]; exact ⟨rfl, rfl⟩))
    (fun os started H enc _ F => by rw [OpenClaim.pre_eq_preRow]; exact lifted os started H enc F)
theorem plain (f : FuncId) (fn : Func) (hf : Tryd.pinned.checked.prog.funcNamed "furrow/furrowlaw09.InodeReplays" = some f) (hfn : Tryd.pinned.checked.prog.funcs[f]? = some fn) :
    true = Tryd.pinned.checked.prog.looks [] ∧ ∀ (j : Nat) t, fn.params[j]? = some t → Tryd.pinned.checked.prog.wantsStandIn t = false := by
  obtain rfl : f = 3 := Option.some.inj ((show Tryd.prog.funcNamed "furrow/furrowlaw09.InodeReplays" = some 3 by kernel_rfl).symm.trans hf) |>.symm
  obtain rfl : fn = Tryd.f3 := (Option.some.inj (Tryd.func3.symm.trans hfn)).symm
  refine ⟨by kernel_rfl, fun j t ht => ?_⟩
  rw [Tryd.params3] at ht
  have hm := Array.mem_of_getElem? ht
  simp only [List.mem_toArray, List.mem_cons, List.not_mem_nil, or_false] at hm
  rcases hm with rfl | rfl
  · exact (show Tryd.prog.wantsStandIn 3 = false by kernel_rfl)
  · exact (show Tryd.prog.wantsStandIn 22 = false by kernel_rfl)
theorem card : Rows.InodeReplaysCardSaid :=
  Claim7.holds_tied_plain_at .later [] _ _ _ _ said (fun _ h => by cases h) (by kernel_rfl) (fun _ h => by cases h) inodeReplays_row_tie rfl ⟨rfl, rfl⟩ (by kernel_rfl) rfl plain (by kernel_rfl)
end inodeReplays
theorem inodeReplays_holds : Rows.InodeReplaysCardSaid := inodeReplays.card
#print axioms inodeReplays_holds
end Go.Proofs.YtabebkffcmajkaaDoor
