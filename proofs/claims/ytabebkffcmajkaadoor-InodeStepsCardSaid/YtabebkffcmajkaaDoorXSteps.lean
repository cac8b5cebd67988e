/-
  InodeSteps: for every truth value, list of seeds, place to cut and first number the law returns true, and its arguments read as they did. (The table of the sums is laid by the program's text.)
-/
import Derived.Test.YtabebkffcmajkaaDoorCards
import Derived.Test.YtabebkffcmajkaaDoorTie
import Derived.WalkKit
import Derived.ProofKit
import Derived.OpenShut
import Derived.ShutString
import Derived.Deep.DeepHandedRow
import Derived.Lib.LaidTab
import Derived.Test.YtabebkffcmajkaaDoorG11
import Derived.Test.YtabebkffcmajkaaDoorG10
set_option linter.unusedVariables false
set_option linter.unusedSimpArgs false
/-! Plain law: the logs of either kind, their beginnings. -/
namespace Go.Proofs.YtabebkffcmajkaaDoor
open Go.RowKit Go.Maps Go.Shelf

def logOf (dir : Bool) (l : List SeedD) : List EntD := match dir with | true => namedL l | false => writtenL l
def kindOf (dir : Bool) : Int := match dir with | true => 2 | false => 1
theorem kindOf_two (dir : Bool) : kindOf dir = 1 ∨ kindOf dir = 2 := by cases dir <;> simp [kindOf]
theorem logOf_length (dir : Bool) (l : List SeedD) : (logOf dir l).length ≤ 60 := by
  cases dir
  · show (writtenL l).length ≤ 60; rw [writtenL_length]; omega
  · show (namedL l).length ≤ 60; rw [namedL_length]; omega
theorem log_play (dir : Bool) (l : List SeedD) : ∃ D, playD (zeroD (kindOf dir)) (logOf dir l) = (0, D) := by
  cases dir
  · obtain ⟨f, h, _⟩ := written_replay l; exact ⟨_, h⟩
  · obtain ⟨R, nm, h⟩ := named_replay l; exact ⟨_, h.play⟩
theorem play_take {L : List EntD} {D0 D : SenseD} (h : playD D0 L = (0, D)) (k : Nat) : ∃ Dk, playD D0 (L.take k) = (0, Dk) := by
  have hs := playD_stop (L.take k) (L.drop k) D0
  rw [List.take_append_drop, h] at hs
  by_cases h0 : (playD D0 (L.take k)).1 = 0
  · exact ⟨(playD D0 (L.take k)).2, by rw [← h0]⟩
  · exact absurd (hs h0).symm h0
theorem play_at {L : List EntD} {D0 D Dk : SenseD} (h : playD D0 L = (0, D)) {k : Nat} (hk : playD D0 (L.take k) = (0, Dk)) (hl : k < L.length) : stepErr Dk L[k] = 0 ∧ playD D0 (L.take (k + 1)) = (0, onD L[k] Dk) := by
  obtain ⟨D2, h2⟩ := play_take h (k + 1)
  have hs := playD_snoc (L.take k) D0 Dk L[k] hk
  rw [← List.take_succ_eq_append_getElem hl] at hs
  rw [hs] at h2
  by_cases h0 : stepErr Dk L[k] = 0
  · rw [if_pos h0] at hs
    exact ⟨h0, hs⟩
  · rw [if_neg h0, Prod.mk.injEq] at h2
    exact absurd h2.1 h0
theorem play_len : ∀ (L : List EntD) (D0 D : SenseD), playD D0 L = (0, D) → lenD D ≤ lenD D0 + L.length
  | [], D0, D, h => by
    have : D0 = D := by injection h
    subst this
    exact Nat.le_add_right _ _
  | e :: L, D0, D, h => by
    have e1 : playD D0 (e :: L) = if stepErr D0 e = 0 then playD (onD e D0) L else (stepErr D0 e, D0) := rfl
    rw [e1] at h
    by_cases h0 : stepErr D0 e = 0
    · rw [if_pos h0] at h
      have := play_len L _ _ h
      have := lenD_on e D0
      simp only [List.length_cons]; omega
    · rw [if_neg h0, Prod.mk.injEq] at h
      exact absurd h.1 h0
/-- a sense that a log of the laws gives -/
structure LogD (D : SenseD) : Prop where
  wf : WfD D
  fit : FitD D
  len : lenD D ≤ 100
theorem lenD_zero (k : Int) : lenD (zeroD k) = 0 := by
  unfold zeroD
  split <;> rfl
theorem log_ok {k : Int} {L : List EntD} {D : SenseD} (hk : k = 1 ∨ k = 2) (hl : L.length ≤ 60) (h : playD (zeroD k) L = (0, D)) : replayErr k L = 0 ∧ replayN k L = nodeOf D L.length ∧ LogD D := by
  obtain ⟨h1, h2, h3, h4⟩ := replay_ok hk h
  have h5 := play_len L _ _ h
  rw [lenD_zero] at h5
  exact ⟨h1, h2, h3, h4, by omega⟩
theorem LogD.small {D : SenseD} (h : LogD D) (j : Nat) : smallB (nodeOf D j) = true := node_small (by have := h.len; omega)
theorem LogD.apply {D : SenseD} (h : LogD D) {e : EntD} (q : Int) (he : stepErr D e = 0) {j : Nat} (hj : j ≤ 1000000) : applyErr (nodeOf D j) { e with seq := q } = 0 ∧ applyN (nodeOf D j) { e with seq := q } = nodeOf (onD e D) (j + 1) := by
  have he' : stepErr D { e with seq := q } = 0 := by rw [stepErr_seq]; exact he
  refine ⟨by rw [applyErr_node h.wf h.fit, he'], ?_⟩
  rw [applyN_node h.wf h.fit he' hj, onD_seq]
end Go.Proofs.YtabebkffcmajkaaDoor

/-! What is alike in the laws over logs of either kind. -/
namespace Go.Proofs.YtabebkffcmajkaaDoor
open Go.RowKit Go.Maps Go.Shelf

theorem LogD.in_ {D : SenseD} (h : LogD D) {j : Nat} {b : Nat} {w : World} {vm vn vl : Value} (ho : NodeOwn b w (nodeOf D j) vm vn vl) : NodeIn w (nodeOf D j) vm vn vl := node_in h.wf ho
end Go.Proofs.YtabebkffcmajkaaDoor

/-! Law walk: InodeReplays. -/
namespace Go.Proofs.YtabebkffcmajkaaDoor
open Go.RowKit Go.Maps Go.Shelf
attribute [local go_sem] quietV loudUpon Oper.semAt_some

theorem ListAt.front {α : Type} {enc : α → List Value} {sz : Nat} {w : World} {A : Option Addr} {c : Nat} {l m : List α} (h : ListAt enc sz w (.slice A (l ++ m).length c) (l ++ m)) : ListAt enc sz w (.slice A l.length c) l := by
  obtain ⟨A', c', e, h1, h2, h3⟩ := h
  simp only [Value.slice.injEq, true_and] at e
  obtain ⟨rfl, rfl⟩ := e
  have hlen : (l ++ m).length = l.length + m.length := by simp
  refine ⟨A, c, rfl, by omega, h2, fun h0 => ?_⟩
  obtain ⟨g, o, e2, hg, hc⟩ := h3 (by omega)
  refine ⟨g, o, e2, hg, fun i hi => ?_⟩
  have := hc i (by omega)
  rw [List.getElem_append_left hi] at this
  exact this
theorem play_wf : ∀ (l : List EntD) (D : SenseD), WfD D → WfD (playD D l).2
  | [], _, h => h
  | e :: l, D, h => by
    show WfD (if stepErr D e = 0 then playD (onD e D) l else (stepErr D e, D)).2
    split
    · rename_i he; exact play_wf l _ (step_wf h he)
    · exact h
theorem replay_node (k : Int) (l : List EntD) : (∀ r ∈ (replayN k l).map, r.Ok) ∧ I64 (replayN k l).kind ∧ I64 (replayN k l).size := by
  unfold replayN
  split
  · have hw := play_wf l _ (wf_zero k)
    have h1 := node_ok (j := l.length) hw
    have h2 := node_i64 (j := l.length) hw
    exact ⟨h1, h2.1, h2.2⟩
  · exact ⟨(fun r hr => by cases hr), ⟨by show -9223372036854775808 ≤ (0 : Int); omega, by show (0 : Int) ≤ 9223372036854775807; omega⟩, ⟨by show -9223372036854775808 ≤ (0 : Int); omega, by show (0 : Int) ≤ 9223372036854775807; omega⟩⟩
def markE (k : Int) : EntD := ⟨k, 0, 0, 0, 0, 0, 0, ⟨#[]⟩⟩
set_option maxRecDepth 100000 in
set_option maxHeartbeats 4000000 in
theorem lawReplays (w : World) (k : Int) (v : Value) (l : List EntD) (hs : Steps w) (h : ListAt encEntry 8 w v l) :
    Calls Tryd.prog 3 #[.int .i64 k, v] w (BoolPost w true) := by
  obtain ⟨A, c, rfl, hc1, hc2, hA⟩ := id h
  have hln : ∀ w, (Builtin.len_ #[22] 3 #[.slice A l.length c]).run Tryd.prog w = .ok (.int .i64 l.length) w := fun w => by simp [Builtin.len_, run_underlying Tryd.underlying22]; rfl
  clear hA
  have HL := hide h
  have HS := hide hs
  clear h hs
  go_enter Tryd.func3, Tryd.ntmps3
  by_cases hbig : 2000 < l.length
  · have d1 : decide ((2000 : Int) < l.length) = true := decide_eq_true (by omega)
    go_wp2
    go_ret
    exact ⟨rfl, Mod.refl _ w⟩
  · have d1 : decide ((2000 : Int) < l.length) = false := decide_eq_false (by omega)
    have hl : l.length ≤ 2000 := by omega
    go_wp2_with fail
    refine (copyEntries_any w _ l HL.out (by omega)).mono ?_
    rintro x w1 ⟨v1, rfl, hown, hM1⟩
    have hsz := hM1.size
    obtain ⟨A1, c1, rfl⟩ := own_slice hown
    obtain ⟨ii, hii, hzi, hsi, hbi⟩ := info_parts infoEntry
    obtain ⟨wb, hwb⟩ : ∃ wb, wb = w1.alloc (.cells #[.int .i64 5, .int .u64 0, .int .i64 0, .int .i64 0, .int .i64 0, .int .i64 0, .int .i64 0, .string ⟨#[]⟩, .int .i64 6, .int .u64 0, .int .i64 0, .int .i64 0, .int .i64 0, .int .i64 0, .int .i64 0, .string ⟨#[]⟩] 26) := ⟨_, rfl⟩
    have hmb : Mod None_ w1 wb := by rw [hwb]; exact (Mod.refl _ w1).alloc _
    have hmk : wb.ownsRow w1.heap.size 26 8 (.slice (some ⟨w1.heap.size, 0, none⟩) 2 2) 2 (rowOf encEntry [markE 5, markE 6]) := by
      have hb : Blk wb w1.heap.size 26 (rowOf encEntry [markE 5, markE 6]).toArray := by rw [hwb]; exact Blk.new w1 _ _
      exact ⟨rfl, .inr ⟨w1.heap.size, 2, _, rfl, Nat.le_refl _, hb, Nat.le_refl _, by unfold maxLen; omega, rfl, rfl⟩⟩
    have hrd := ListAt.reads (enc := encEntry) (sz := 8) (l := [markE 5, markE 6]) (fun _ => rfl) (by omega) (list_of_ownRow (enc := encEntry) (l := [markE 5, markE 6]) (fun _ => rfl) hmk)
    have HOW := hide (own_mod hown hmb (fun _ _ f => f))
    have HRD := hide hrd
    have HWB := hide hwb
    have hwsz : w.heap.size ≤ wb.heap.size := Nat.le_trans hsz hmb.size
    have hMb := hM1.trans hmb
    clear hown hmk hrd hwb hmb
    go_upto_region 5 with ((with_reducible refine at_slot 21 ?_); rw [← HWB.out]; refine wpList_append_any _ rfl (.tmp 17) (.tmp 20) 22 rfl w.heap.size 26 ii _ 8 72 Tryd.underlying22 hii hzi hsi hbi rfl (by omega) _ l.length _ rfl HOW.out wb.heap.size (some ⟨w1.heap.size, 0, none⟩) 2 2 _ rfl HRD.out (rowOf_one oneEntryL _) (by unfold maxLen; omega) (by omega) hwsz ?_; intro v2 w2 hown2 hg2 hat2; go_frame)
    have hM2 : Mod None_ w w2 := hMb.trans' (Mod.of_grown hg2) (fun q hq e => by
      have := (own_blk HOW.out e.symm).1
      omega)
    have hR : rowOf encEntry l ++ rowOf encEntry [markE 5, markE 6] = rowOf encEntry (l ++ [markE 5, markE 6]) := by simp [rowOf]
    have hlen2 : l.length + 2 = (l ++ [markE 5, markE 6]).length := by simp
    rw [hR, hlen2] at hown2
    obtain ⟨A2, c2, rfl⟩ := own_slice hown2
    have HOW2 := hide hown2
    have hsz2 := hM2.size
    clear hown2 hg2 hat2 hMb hR hlen2 HOW HRD HWB
    have HP := hide (refReplay_any w2 k _ l (HL.out.kept hM2) hl)
    go_wp2_with fail
    refine HP.out.mono ?_
    rintro x w3 ⟨vm, vn, vl, rfl, hLm, hLn, hLl, hM3⟩
    have hsz3 := hM3.size
    have hM3t := hM2.trans hM3
    obtain ⟨q, hq⟩ : ∃ q, q = w3.heap.size := ⟨_, rfl⟩
    have hv1 : vm.oneCell' = true := by obtain ⟨A, c, rfl, _⟩ := hLm; rfl
    have hv2 : vn.oneCell' = true := by obtain ⟨A, c, rfl, _⟩ := hLn; rfl
    have hv3 : vl.oneCell' = true := by obtain ⟨A, c, rfl, _⟩ := hLl; rfl
    obtain ⟨w4, hw4⟩ : ∃ w4, w4 = w3.alloc (.cells (nodeC (replayN k l) vm vn vl) 31) := ⟨_, rfl⟩
    have hm4 : Mod None_ w3 w4 := by rw [hw4]; exact (Mod.refl _ w3).alloc _
    have bb : Blk w4 q 31 (nodeC (replayN k l) vm vn vl) := by rw [hw4, hq]; exact Blk.new w3 _ _
    have hM4 := hM3t.trans hm4
    replace hLm := hLm.kept hm4
    replace hLn := hLn.kept hm4
    replace hLl := hLl.kept hm4
    have hown4 := own_mod HOW2.out (hM3.trans hm4) (fun _ _ f => f)
    have hfull := list_of_ownRow (enc := encEntry) (fun _ => rfl) hown4
    have hcap : l.length ≤ c2 := by
      obtain ⟨A', c', e, h1, _⟩ := hfull
      simp only [Value.slice.injEq, true_and] at e
      have : (l ++ [markE 5, markE 6]).length = l.length + 2 := by simp
      omega
    have HI1 := hide (infoNode (replayN k l) vm vn vl)
    have HO1 := hide (nodeC_one (replayN k l) vm vn vl hv1 hv2 hv3)
    have HW4 := hide hw4
    have HQ := hide hq
    have HFU := hide hfull
    have HRP := hide (replay_any w4 k _ l (HS.out.kept hM4) hfull.front (by omega))
    clear hw4 hq hM3 hm4 hM2 HP HOW2 hown4 hfull
    go_upto_region 6 with ((with_reducible refine at_slot 7 ?_); refine wpList_declare rfl rfl 31 7 (.tmp 26) rfl rfl rfl zeroNode (nodeC (replayN k l) vm vn vl) zeroNodeV HI1.out (nodeC_size _ _ _ _) HO1.out (by simp) rfl ?_; go_frame; rw [← HW4.out, ← HQ.out])
    clear HW4 HQ
    go_wp2_with fail
    refine HRP.out.mono ?_
    rintro x w5 ⟨vm2, vn2, vl2, rfl, hOw, hM5⟩
    have hOm := list_of_ownRow (enc := encRun) (fun _ => rfl) hOw.map
    have hOn := list_of_ownRow (enc := encDent) (fun _ => rfl) hOw.names
    have hOl := list_of_ownRow (enc := encInt) (fun _ => rfl) hOw.log
    have hu1 : vm2.oneCell' = true := by obtain ⟨A, c, rfl, _⟩ := hOm; rfl
    have hu2 : vn2.oneCell' = true := by obtain ⟨A, c, rfl, _⟩ := hOn; rfl
    have hu3 : vl2.oneCell' = true := by obtain ⟨A, c, rfl, _⟩ := hOl; rfl
    replace bb := bb.mod hM5 id
    replace hLm := hLm.kept hM5
    replace hLn := hLn.kept hM5
    replace hLl := hLl.kept hM5
    have HFU5 := hide (HFU.out.kept hM5)
    have hM5t := hM4.trans hM5
    obtain ⟨N, hN⟩ : ∃ N, N = replayN k l := ⟨_, rfl⟩
    obtain ⟨er, her⟩ : ∃ er, er = replayErr k l := ⟨_, rfl⟩
    rw [← hN, ← her]
    rw [← hN] at bb hLm hLn hLl hOm hOn hOl
    have hok := replay_node k l
    rw [← hN] at hok
    clear hN her hOw hM5 HRP HFU hM4 hv1 hv2 hv3 HI1 HO1
    obtain ⟨r, hr⟩ : ∃ r, r = w5.heap.size := ⟨_, rfl⟩
    obtain ⟨w6, hw6⟩ : ∃ w6, w6 = w5.alloc (.cells (nodeC N vm2 vn2 vl2) 31) := ⟨_, rfl⟩
    have hm6 : Mod None_ w5 w6 := by rw [hw6]; exact (Mod.refl _ w5).alloc _
    have br : Blk w6 r 31 (nodeC N vm2 vn2 vl2) := by rw [hw6, hr]; exact Blk.new w5 _ _
    replace bb := bb.mod hm6 id
    have hM6 := hM5t.trans hm6
    have HFU6 := hide (HFU5.out.kept hm6)
    have hIn1 : NodeIn w6 N vm2 vn2 vl2 := ⟨hOm.kept hm6, hOn.kept hm6, hOl.kept hm6, hok.1, hok.2.1, hok.2.2⟩
    have hIn2 : NodeIn w6 N vm vn vl := ⟨hLm.kept hm6, hLn.kept hm6, hLl.kept hm6, hok.1, hok.2.1, hok.2.2⟩
    have HSN := hide (lawSameNode w6 N vm2 vn2 vl2 vm vn vl hIn1 hIn2)
    have HI2 := hide (infoNode N vm2 vn2 vl2)
    have HO2 := hide (nodeC_one N vm2 vn2 vl2 hu1 hu2 hu3)
    have HW6 := hide hw6
    have HR := hide hr
    clear hw6 hr hm6 hM5t HFU5 hLm hLn hLl hOm hOn hOl hIn1 hIn2 hok
    go_upto_region 7 with ((with_reducible refine at_slot 9 ?_); refine wpList_declare rfl rfl 31 9 (.tmp 34) rfl rfl rfl zeroNode (nodeC N vm2 vn2 vl2) zeroNodeV HI2.out (nodeC_size _ _ _ _) HO2.out (by simp) rfl ?_; go_frame; rw [← HW6.out, ← HR.out])
    clear HW6 HR
    have b0 : w6.cell? ⟨q, 0, none⟩ = some (.int .i64 N.ino) := bb.cell 0
    have b1 : w6.cell? ⟨q, 1, none⟩ = some (.int .i64 N.kind) := bb.cell 1
    have b2 : w6.cell? ⟨q, 2, none⟩ = some (.int .i64 N.links) := bb.cell 2
    have b3 : w6.cell? ⟨q, 3, none⟩ = some (.int .i64 N.size) := bb.cell 3
    have b4 : w6.cell? ⟨q, 4, none⟩ = some vm := bb.cell 4
    have b5 : w6.cell? ⟨q, 5, none⟩ = some vn := bb.cell 5
    have b6 : w6.cell? ⟨q, 6, none⟩ = some (.int .i64 N.head) := bb.cell 6
    have b7 : w6.cell? ⟨q, 7, none⟩ = some (.int .i64 N.tail) := bb.cell 7
    have b8 : w6.cell? ⟨q, 8, none⟩ = some vl := bb.cell 8
    have b9 : w6.cell? ⟨q, 9, none⟩ = some (.int .i64 N.entries) := bb.cell 9
    have r0 : w6.cell? ⟨r, 0, none⟩ = some (.int .i64 N.ino) := br.cell 0
    have r1 : w6.cell? ⟨r, 1, none⟩ = some (.int .i64 N.kind) := br.cell 1
    have r2 : w6.cell? ⟨r, 2, none⟩ = some (.int .i64 N.links) := br.cell 2
    have r3 : w6.cell? ⟨r, 3, none⟩ = some (.int .i64 N.size) := br.cell 3
    have r4 : w6.cell? ⟨r, 4, none⟩ = some vm2 := br.cell 4
    have r5 : w6.cell? ⟨r, 5, none⟩ = some vn2 := br.cell 5
    have r6 : w6.cell? ⟨r, 6, none⟩ = some (.int .i64 N.head) := br.cell 6
    have r7 : w6.cell? ⟨r, 7, none⟩ = some (.int .i64 N.tail) := br.cell 7
    have r8 : w6.cell? ⟨r, 8, none⟩ = some vl2 := br.cell 8
    have r9 : w6.cell? ⟨r, 9, none⟩ = some (.int .i64 N.entries) := br.cell 9
    clear bb br HI2 HO2
    go_wp2_with fail
    refine Calls.mono HSN.out ?_
    rintro x w7 ⟨rfl, hm7⟩
    have hM7 := hM6.trans hm7
    have HFU7 := hide (HFU6.out.kept hm7)
    clear b0 b1 b2 b3 b4 b5 b6 b7 b8 b9 r0 r1 r2 r3 r4 r5 r6 r7 r8 r9 HSN hm7 HFU6 hM6
    go_wp2_with fail
    have HSE := hide (lawSameEntries w7 (.slice A2 l.length c2) (.slice A l.length c) l l HFU7.out.front (HL.out.kept hM7))
    refine Calls.mono HSE.out ?_
    rintro x w8 ⟨hx, hm8⟩
    rw [decide_eq_true rfl] at hx
    obtain rfl := hx
    have hM8 := hM7.trans hm8
    obtain ⟨_, _, hcv, _, _, hcell⟩ := HFU7.out.kept hm8
    simp only [Value.slice.injEq, true_and] at hcv
    obtain ⟨rfl, rfl⟩ := hcv
    have hl2 : (l ++ [markE 5, markE 6]).length = l.length + 2 := by simp
    obtain ⟨g, o, rfl, hg, hc⟩ := hcell (by omega)
    have e5 : (l ++ [markE 5, markE 6])[l.length]'(by omega) = markE 5 := by rw [List.getElem_append_right (Nat.le_refl _)]; simp
    have e6 : (l ++ [markE 5, markE 6])[l.length + 1]'(by omega) = markE 6 := by rw [List.getElem_append_right (by omega)]; simp
    have x5 : w8.cell? ⟨g, o + l.length * 8, none⟩ = some (.int .i64 5) := by
      have := hc l.length (by omega) 0 (.int .i64 5) (by rw [e5]; rfl)
      simpa using this
    have x6 : w8.cell? ⟨g, o + (l.length + 1) * 8, none⟩ = some (.int .i64 6) := by
      have := hc (l.length + 1) (by omega) 0 (.int .i64 6) (by rw [e6]; rfl)
      simpa using this
    have hi5 : (l.length : Int) < l.length + 2 := by omega
    have HMF := hide hM8
    clear hc hcell hg e5 e6 hl2 hM8 hm8 hM7 HFU7 HSE
    go_wp2
    go_ret
    exact ⟨rfl, HMF.out⟩
end Go.Proofs.YtabebkffcmajkaaDoor

/-! Law walk: InodeSteps. (Printed by mk_LS1.py.) -/
namespace Go.Proofs.YtabebkffcmajkaaDoor
open Go.RowKit Go.Maps Go.Shelf
attribute [local go_sem] quietV loudUpon Oper.semAt_some

theorem NodeOwn.mod_ {b : Nat} {w w' : World} {n : NodeD} {vm vn vl : Value} (h : NodeOwn b w n vm vn vl) {q : Nat} {cs : Array Value} (hq : Blk w q 31 cs) (hm : Mod (· = q) w w') : NodeOwn b w' n vm vn vl :=
  ⟨own_mod h.map hm (fun g hg e => own_ne h.map hq (by decide) hg e.symm), own_mod h.names hm (fun g hg e => own_ne h.names hq (by decide) hg e.symm), own_mod h.log hm (fun g hg e => own_ne h.log hq (by decide) hg e.symm)⟩

set_option maxRecDepth 100000 in
set_option maxHeartbeats 8000000 in
theorem lawSteps (w : World) (dir : Bool) (v : Value) (l : List SeedD) (a sq : Int) (hs : Steps w) (h : ListAt encSeed 6 w v l) (hO : ∀ x ∈ l, x.Ok) (ha : I64 a) (_ : (Lit.int .u64 sq).wf = true) : Calls Tryd.prog 7 #[.bool dir, v, .int .i64 a, .int .u64 sq] w (BoolPost w true) := by
  have hv1 : v.oneCell' = true := by obtain ⟨A, c, rfl, _⟩ := h; rfl
  have HW := hide (written_any w v l h hO)
  have HWN := hide (fun w1 hm => named_any w1 v l (ListAt.kept h hm) hO)
  have HS := hide hs
  clear h hO hs
  go_enter Tryd.func7, Tryd.ntmps7
  go_wp2_with fail
  refine Calls.mono (HW.out) ?_
  rintro x w1 ⟨v1, rfl, hown1, hM⟩
  replace HS := hide (HS.out.kept hM)
  have HWN1 := hide (HWN.out w1 hM)
  have HM1 := hide hM
  clear HWN HW
  go_upto_if 20 with fail
  go_cut [9, 10] from 20 to 22 (fun s9 s10 wx => s9 = .int .i64 (kindOf dir) ∧ OwnE w wx s10 (logOf dir l) ∧ Mod None_ w1 wx)
  case first =>
    cases dir with
    | false =>
      go_wp2_with fail
      go_meet
      exact ⟨rfl, hown1, Mod.refl _ _⟩
    | true =>
      go_wp2_with fail
      refine Calls.mono HWN1.out ?_
      rintro x w2 ⟨v2, rfl, hown2, hm2⟩
      have hsz := HM1.out.size
      have HO2 : Hid (OwnE w w2 v2 (namedL l)) := hide (own_base hown2 hsz)
      clear hown2 hown1
      go_wp2_with fail
      go_meet
      exact ⟨rfl, HO2.out, hm2⟩
  obtain ⟨rfl, hown, hm⟩ := hcut
  clear hown1 HWN1
  have HM := hide (HM1.out.trans hm)
  replace HS := hide (HS.out.kept hm)
  clear hm HM1
  obtain ⟨D, hpl⟩ := log_play dir l
  have hl60 := logOf_length dir l
  have hkd := kindOf_two dir
  obtain ⟨hre, hrn, hLD⟩ := log_ok hkd hl60 hpl
  obtain ⟨kd, hkde⟩ : ∃ kd, kd = kindOf dir := ⟨_, rfl⟩
  rw [← hkde] at hpl hre hrn hkd ⊢
  obtain ⟨E, hE⟩ : ∃ E, E = logOf dir l := ⟨_, rfl⟩
  rw [← hE] at hown hpl hl60 hre hrn
  clear hkde hE
  obtain ⟨A1, c1, rfl⟩ := own_slice hown
  have hl1 := list_of_ownRow (enc := encEntry) (fun _ => rfl) hown
  have HL1 := hide hl1
  have HPL := hide hpl
  have HLD := hide hLD
  have HKD := hide hkd
  clear hown hl1 hpl hLD hkd
  obtain ⟨w2, hw2⟩ : ∃ x, x = wc := ⟨_, rfl⟩
  rw [← hw2] at HM HS HL1 ⊢
  clear hw2
  go_wp2_with fail
  refine Calls.mono (copyEntries_any w2 _ E HL1.out (by omega)) ?_
  rintro x w3 ⟨v2, rfl, hown2, hm2⟩
  have hl2 := list_of_ownRow (enc := encEntry) (fun _ => rfl) hown2
  clear hown2
  replace HS := hide (HS.out.kept hm2)
  replace HM := hide (HM.out.trans hm2)
  replace HL1 := hide (HL1.out.kept hm2)
  clear hm2
  go_wp2_with fail
  refine Calls.mono (replay_any w3 kd v2 E HS.out hl2 (by omega)) ?_
  rintro x w4 ⟨vm, vn, vl, rfl, hO3, hm3⟩
  rw [hre, hrn]
  rw [hrn] at hO3
  have HN := hide (HLD.out.in_ hO3)
  clear hO3 hre hrn hl2
  replace HS := hide (HS.out.kept hm3)
  replace HM := hide (HM.out.trans hm3)
  replace HL1 := hide (HL1.out.kept hm3)
  clear hm3
  have HI1 := hide (infoNode (nodeOf D E.length) vm vn vl)
  have HO1 := hide (nodeIn_one HN.out)
  obtain ⟨n, hn⟩ : ∃ n, n = nodeOf D E.length := ⟨_, rfl⟩
  rw [← hn] at HN HI1 HO1 ⊢
  have n9 : n.entries = E.length := by rw [hn]; rfl
  have HNE := hide hn
  clear hn
  obtain ⟨q1_, hq⟩ : ∃ q, q = w4.heap.size := ⟨_, rfl⟩
  obtain ⟨w5, hw⟩ : ∃ y, y = w4.alloc (.cells (nodeC n vm vn vl) 31) := ⟨_, rfl⟩
  have hm5_ : Mod None_ w4 w5 := by rw [hw]; exact (Mod.refl _ w4).alloc _
  have b2_ := hide (show Blk w5 q1_ 31 (nodeC n vm vn vl) by rw [hw, hq]; exact Blk.new w4 _ _)
  have HW3_ := hide hw
  have HQ4_ := hide hq
  clear hw hq
  replace HS := hide (HS.out.kept hm5_)
  replace HM := hide (HM.out.trans hm5_)
  replace HL1 := hide (HL1.out.kept hm5_)
  replace HN := hide (HN.out.kept hm5_)
  clear hm5_
  go_upto_region 5 with ((with_reducible refine at_slot 11 ?_); refine wpList_declare rfl rfl 31 11 (.tmp 28) rfl rfl rfl zeroNode (nodeC n vm vn vl) zeroNodeV HI1.out (nodeC_size _ _ _ _) HO1.out (by simp) rfl ?_; go_frame; rw [← HW3_.out, ← HQ4_.out])
  clear HW3_ HQ4_
  have hle : ∀ w A (n c : Nat), (Builtin.len_ #[22] 3 #[.slice A n c]).run Tryd.prog w = .ok (.int .i64 n) w := fun w A n c => by simp [Builtin.len_, run_underlying Tryd.underlying22]; rfl
  have ewl : IntKind.i64.wrap ((E.length : Int) + 1) = E.length + 1 := IntWalk.i64_in _ (by omega)
  go_wp2_with fail
  refine Calls.mono (mod_any a ((E.length : Int) + 1) w5 ha (by omega) (by omega)) ?_
  rintro x wx ⟨rfl, rfl⟩
  obtain ⟨k, hk⟩ : ∃ k : Nat, a % ((E.length : Int) + 1) = k := ⟨(a % ((E.length : Int) + 1)).toNat, by have := Int.emod_nonneg a (b := (E.length : Int) + 1) (by omega); omega⟩
  have hkl : k ≤ E.length := by have := Int.emod_lt_of_pos a (b := (E.length : Int) + 1) (by omega); omega
  rw [hk]
  clear hk ewl ha
  have hcc : E.length ≤ c1 := by obtain ⟨_, _, hcv, hca, _, _⟩ := HL1.out; simp only [Value.slice.injEq, true_and] at hcv; obtain ⟨rfl, rfl⟩ := hcv; exact hca
  have hkc : k ≤ c1 := by omega
  have hkci : (k : Int) ≤ c1 := by omega
  have HLF : Hid (ListAt encEntry 8 w5 (.slice A1 k c1) (E.take k)) := hide (by
    have h2 : E = E.take k ++ E.drop k := (List.take_append_drop k E).symm
    have h3 := HL1.out
    have hlk : (E.take k).length = k := by rw [List.length_take]; omega
    rw [h2] at h3
    have h4 := ListAt.front h3
    rw [hlk] at h4
    exact h4)
  obtain ⟨Dk, hDk⟩ := play_take HPL.out k
  have hlk : (E.take k).length = k := by rw [List.length_take]; omega
  obtain ⟨hrek, hrnk, hLk⟩ := log_ok HKD.out (by omega) hDk
  rw [hlk] at hrnk
  have HDK := hide hDk
  have HLK := hide hLk
  clear hDk hLk
  have HLKL := hide hlk
  clear hlk
  go_wp2_with fail
  have HCE := hide (copyEntries_any w5 _ (E.take k) HLF.out (by have := HLKL.out; omega))
  refine Calls.mono (HCE.out) ?_
  rintro x w6 ⟨v4, rfl, hown4, hm⟩
  have hl4 := list_of_ownRow (enc := encEntry) (fun _ => rfl) hown4
  clear hown4 HLF HCE
  replace HS := hide (HS.out.kept hm)
  replace HM := hide (HM.out.trans hm)
  replace HL1 := hide (HL1.out.kept hm)
  replace HN := hide (HN.out.kept hm)
  replace b2_ := hide (b2_.out.mod hm id)
  clear hm
  go_wp2_with fail
  have HRE := hide (replay_any w6 kd v4 (E.take k) HS.out hl4 (by have := HLKL.out; omega))
  refine Calls.mono (HRE.out) ?_
  rintro x w7 ⟨ym, yn, yl, rfl, hO4, hm⟩
  rw [hrek, hrnk]
  rw [hrnk] at hO4
  replace hO4 := own_0 hO4
  clear HRE hrek hrnk hl4 HLKL
  replace HS := hide (HS.out.kept hm)
  replace HM := hide (HM.out.trans hm)
  replace HL1 := hide (HL1.out.kept hm)
  replace HN := hide (HN.out.kept hm)
  replace b2_ := hide (b2_.out.mod hm id)
  clear hm
  have HI2 := hide (infoNode (nodeOf Dk k) ym yn yl)
  have HO2 := hide (nodeOwn_one hO4)
  obtain ⟨Q, hQ⟩ : ∃ q, q = w7.heap.size := ⟨_, rfl⟩
  obtain ⟨wq, hw⟩ : ∃ y, y = w7.alloc (.cells (nodeC (nodeOf Dk k) ym yn yl) 31) := ⟨_, rfl⟩
  have hMq : Mod None_ w7 wq := by rw [hw]; exact (Mod.refl _ w7).alloc _
  have bQ : Blk wq Q 31 (nodeC (nodeOf Dk k) ym yn yl) := by rw [hw, hQ]; exact Blk.new w7 _ _
  have hQ1 : w7.heap.size ≤ Q := by omega
  have hO5 := hO4.kept hMq
  have HWQ := hide hw
  have HQQ := hide hQ
  clear hw hQ hO4
  have HQN : Hid (q1_ < Q) := hide (by have := b2_.out.lt; omega)
  go_upto_region 7 with ((with_reducible refine at_slot 14 ?_); refine wpList_declare rfl rfl 31 14 (.tmp 42) rfl rfl rfl zeroNode (nodeC (nodeOf Dk k) ym yn yl) zeroNodeV HI2.out (nodeC_size _ _ _ _) HO2.out (by simp) rfl ?_; go_frame; rw [← HWQ.out, ← HQQ.out])
  clear HWQ HQQ HI2 HO2
  have x9 : wq.cell? ⟨q1_, 9, none⟩ = some (.int .i64 E.length) := by rw [← n9]; exact (b2_.out.mod hMq id).cell 9
  have y9 : wq.cell? ⟨Q, 9, none⟩ = some (.int .i64 k) := bQ.cell 9
  have N9 := hide n9
  clear n9
  go_wp2_with fail
  go_loopw [16] (fun s16 wr => ∃ (j : Nat) (Dj : SenseD) (zm zn zl : Value), j ≤ E.length ∧ s16 = .int .i64 j ∧ playD (zeroD kd) (E.take j) = (0, Dj) ∧ Blk wr Q 31 (nodeC (nodeOf Dj j) zm zn zl) ∧ NodeOwn 0 wr (nodeOf Dj j) zm zn zl ∧ Mod None_ w7 wr) (fun s16 _ => E.length - (intOf s16).toNat)
  case atStart => exact ⟨k, Dk, ym, yn, yl, hkl, rfl, HDK.out, bQ, hO5, hMq⟩
  clear x9 y9 bQ hO5 hMq HDK HLK hkl hkc hkci
  obtain ⟨j, Dj, zm, zn, zl, hj, rfl, hDj, bQ, hOj, hMr⟩ := hrel
  have HDJ := hide hDj
  have hLj : LogD Dj := (log_ok HKD.out (by rw [List.length_take]; omega) hDj).2.2
  have HLJ := hide hLj
  clear hDj hLj
  by_cases hjl : j < E.length
  · have hji : (j : Int) < E.length := by omega
    obtain ⟨hse, hnx⟩ := play_at HPL.out HDJ.out hjl
    obtain ⟨_, _, hcv, _, _, hcell⟩ := HL1.out.kept hMr
    simp only [Value.slice.injEq, true_and] at hcv
    obtain ⟨rfl, rfl⟩ := hcv
    obtain ⟨gb, o, rfl, hgb, hcell⟩ := hcell (by omega)
    have hc := hcell j hjl
    obtain ⟨e, he⟩ : ∃ e, e = E[j] := ⟨_, rfl⟩
    rw [← he] at hc hse hnx
    have HX := hide (run_loadAt_mid wr gb (o + j * 8) 26 (encEntry e) _ hc Tryd.underlying26 rfl (by kernel_rfl))
    have HSE := hide hse
    have HNX := hide hnx
    clear hc hcell he hse hnx hgb
    obtain ⟨m, hm⟩ : ∃ m, m = wr.heap.size := ⟨_, rfl⟩
    obtain ⟨wa, hw⟩ : ∃ y, y = wr.alloc (.cells (encEntry e).toArray 26) := ⟨_, rfl⟩
    have hma : Mod None_ wr wa := by rw [hw]; exact (Mod.refl _ wr).alloc _
    have be : Blk wa m 26 (encEntry e).toArray := by rw [hw, hm]; exact Blk.new wr _ _
    have hQm : Q < m := by rw [hm]; exact bQ.lt
    have hpm : w7.heap.size ≤ m := by omega
    have HWA := hide hw
    have HMM := hide hm
    clear hw hm
    replace bQ := bQ.mod hma id
    replace hOj := hOj.kept hma
    replace hMr := hMr.trans hma
    clear hma
    go_upto_region 13 with (first
      | ((with_reducible refine at_slot 73 ?_); refine wpList_val rfl (ex_load rfl HX.out) ?_; go_frame)
      | ((with_reducible refine at_slot 17 ?_); refine wpList_declare rfl rfl 26 17 (.tmp 73) rfl rfl rfl zeroEnt (encEntry e).toArray zeroEntV (infoEnt e) rfl (oneEnt e) (by simp) rfl ?_; go_frame; rw [← HWA.out, ← HMM.out]))
    clear HX HWA HMM
    have f1 : wa.frozen? ⟨m, 1, none⟩ = false := be.frozen _
    have g1 : wa.cell? ⟨m, 1, none⟩ = some (.int .u64 e.seq) := be.cell 1
    have ewj : IntKind.u64.wrap (j : Int) = j := IntWalk.u64_in _ (by omega)
    obtain ⟨sx, hsx⟩ : ∃ sx, IntKind.u64.wrap (sq + (j : Int)) = sx := ⟨_, rfl⟩
    go_upto_region 14 with fail
    obtain ⟨wb, hw⟩ : ∃ y, y = wa.setCell ⟨m, 1, none⟩ (.int .u64 sx) := ⟨_, rfl⟩
    rw [← hw]
    have hsb : Mod (· = m) wa wb := by rw [hw]; exact (Mod.refl (· = m) wa).setCell (p := ⟨m, 1, none⟩) (.inr rfl) _
    have be2 : Blk wb m 26 (encEntry ({ e with seq := sx } : EntD)).toArray := by
      have := be.set_ 1 (.int .u64 sx)
      rw [← hw] at this
      exact this
    replace bQ := bQ.mod hsb (by omega)
    have hOk : NodeOwn 0 wb (nodeOf Dj j) zm zn zl :=
      ⟨own_mod hOj.map hsb (fun g hg e => own_ne hOj.map be (by decide) hg e.symm), own_mod hOj.names hsb (fun g hg e => own_ne hOj.names be (by decide) hg e.symm), own_mod hOj.log hsb (fun g hg e => own_ne hOj.log be (by decide) hg e.symm)⟩
    replace hMr := hMr.trans' hsb (fun g hg e => by omega)
    clear hw hsb be f1 g1 hOj hsx ewj
    have hap := HLJ.out.apply sx HSE.out (j := j) (by omega)
    have HAP := hide hap
    clear hap
    obtain ⟨ex, hex⟩ : ∃ x : EntD, x = { e with seq := sx } := ⟨_, rfl⟩
    rw [← hex] at be2 HAP
    clear hex
    refine region_jxw [(true, 0), (true, 2), (false, 1), (false, 3), (true, 4), (true, 5), (true, 6), (false, 7), (true, 8)] [7] (fun w' => Blk w' m 26 (encEntry ex).toArray) (fun _ w' => Blk w' Q 31 (nodeC (nodeOf Dj j) zm zn zl)) (by kernel_rfl) (by kernel_rfl) ?_
    rintro wd hwd
    have hm3 : Mod None_ wb wd := by rw [hwd]; exact (Mod.refl _ wb).drew
    replace bQ := bQ.mod hm3 id
    replace be2 := be2.mod hm3 id
    replace hOk := hOk.kept hm3
    replace hMr := hMr.trans hm3
    clear hwd hm3
    refine ⟨be2, fun _ _ => bQ, ?_⟩
    have HIN := hide (infoNode (nodeOf Dj j) zm zn zl)
    refine jxw_qv rfl rfl [7] (by kernel_rfl) rfl (fun w' hI hR => ex_load rfl (run_loadRow (hR 7 (by simp)) Tryd.underlying31 rfl HIN.out)) ?_
    try go_frame
    refine jxw_qv rfl rfl [] (by kernel_rfl) rfl (fun w' hI hR => ex_load rfl (run_loadRow hI Tryd.underlying26 rfl (infoEnt _))) ?_
    try go_frame
    refine jxw_loud rfl (fun K hK => ?_)
    go_simp
    refine Calls.mono (lawCopy wd _ zm zn zl (HLJ.out.in_ hOk) (HLJ.out.small j)) ?_
    rintro x we ⟨um, un, ul, rfl, hO1, hm3⟩
    have hNc := hO1.in_ (HLJ.out.in_ hOk)
    replace bQ := bQ.mod hm3 id
    replace be2 := be2.mod hm3 id
    replace hMr := hMr.trans hm3
    refine ⟨_, rfl, ⟨be2, fun _ _ _ => bQ⟩, hK _ _ ?_⟩
    clear hK K hm3 hO1 hOk
    try go_frame
    refine jxw_loud rfl (fun K hK => ?_)
    go_simp
    refine Calls.mono (apply_any we _ um un ul ex (HS.out.kept hMr) (hNc.at_ (HLJ.out.small j)) (Nat.zero_le _)) ?_
    rintro x wf ⟨xm, xn, xl, rfl, hO2, hm3⟩
    rw [HAP.out.1, HAP.out.2]
    rw [HAP.out.2] at hO2
    replace hO2 := own_0 hO2
    replace bQ := bQ.mod hm3 id
    replace be2 := be2.mod hm3 id
    replace hMr := hMr.trans hm3
    refine ⟨_, rfl, ⟨be2, fun _ _ _ => bQ⟩, hK _ _ ?_⟩
    clear hK K hm3 hNc
    try go_frame
    iterate 3 (refine jxw_quiet rfl rfl [] (by kernel_rfl) (fun w' i1 i2 K hK => by go_simp; exact hK) ?_; go_frame)
    have HI2 := hide (infoNode (nodeOf (onD e Dj) (j + 1)) xm xn xl)
    have HO2 := hide (nodeOwn_one hO2)
    have hms : Mod (· = Q) wf (wf.setRow Q (nodeC (nodeOf (onD e Dj) (j + 1)) xm xn xl)) := (Mod.refl (· = Q) wf).setRow (.inr rfl) _
    refine jxw_storeRow rfl rfl 31 (.tmp 14) (.tmp 84) rfl Q (nodeC (nodeOf (onD e Dj) (j + 1)) xm xn xl) rfl rfl 31 (nodeC (nodeOf Dj j) zm zn zl) bQ HI2.out rfl HO2.out ⟨be2.mod hms (by omega), fun d hd hn => absurd (by simp at hd; simp [hd]) hn⟩ ?_
    try go_frame
    refine jxw_quiet rfl rfl [] (by kernel_rfl) (fun w' i1 i2 K hK => by go_simp; exact hK) ?_
    go_frame
    refine jxw_nil ?_
    replace hO2 := hO2.store (cs' := (nodeC (nodeOf (onD e Dj) (j + 1)) xm xn xl)) bQ
    replace bQ := bQ.row (nodeC (nodeOf (onD e Dj) (j + 1)) xm xn xl)
    replace hMr := hMr.trans' hms (fun g hg e => by omega)
    obtain ⟨wg, hwg⟩ : ∃ y, y = wf.setRow Q (nodeC (nodeOf (onD e Dj) (j + 1)) xm xn xl) := ⟨_, rfl⟩
    rw [← hwg] at hO2 bQ hMr ⊢
    clear hwg hms be2 HI2 HO2 HIN HAP
    go_wp2_with fail
    go_roundw
    case rel => exact ⟨j + 1, onD e Dj, xm, xn, xl, by omega, by simp, HNX.out, bQ, hO2, hMr⟩
    case measure => simp [intOf]; omega
  · obtain rfl : j = E.length := by omega
    have hDD : Dj = D := by
      have h1 := HDJ.out
      rw [List.take_length, HPL.out, Prod.mk.injEq] at h1
      exact h1.2.symm
    subst hDD
    have hN1 := HLJ.out.in_ hOj
    have hN2 := HN.out.kept hMr
    rw [← HNE.out] at bQ hN1
    have bQ2 := hide bQ
    have b11b := hide (b2_.out.mod hMr id)
    have HIQ := hide (infoNode n zm zn zl)
    have HMF := hide (HM.out.trans hMr)
    clear bQ hOj hMr hjl hj
    go_wp2_with (first
      | ((with_reducible refine at_slot 88 ?_); refine wpList_val rfl (ex_load rfl (run_loadRow bQ2.out Tryd.underlying31 rfl HIQ.out)) ?_; go_frame)
      | ((with_reducible refine at_slot 89 ?_); refine wpList_val rfl (ex_load rfl (run_loadRow b11b.out Tryd.underlying31 rfl HI1.out)) ?_; go_frame))
    refine Calls.mono (lawSameNode wr n zm zn zl vm vn vl hN1 hN2) ?_
    rintro x wz ⟨rfl, hm⟩
    have HF := hide (HMF.out.trans hm)
    clear hm hN1 hN2 bQ2 b11b
    go_wp2
    go_ret
    exact ⟨rfl, HF.out⟩
end Go.Proofs.YtabebkffcmajkaaDoor

namespace Go.Proofs.YtabebkffcmajkaaDoor.inodeSteps
open Go.ChangeShapes Go.WideShapes Go.ChangeAt Go.RowKit
open Go.ChangeMaps (open_string shut_string)
set_option linter.unusedVariables false
theorem ownG : ownKnob Tryd.prog.godebug = none := by kernel_rfl
theorem gSteps : Tryd.prog.globalNamed "furrow/codec.steps" = some 0 := by kernel_rfl
theorem gStepsType : (Tryd.prog.globals[0]?).map (·.type) = some 170 := by kernel_rfl
theorem cellsT16 : Tryd.prog.cellsOf 170 = 16 := by kernel_rfl
theorem cellsU32 : Tryd.prog.cellsOf 150 = 1 := by kernel_rfl
theorem steps_tab {W : World} (h : laidMetH Tryd.prog Rows.inodeStepsRow.laid W) : Lib.TabIs Tryd.prog W "furrow/codec.steps" .u32 sumTab :=
  Lib.tabIs_of_head (rest := []) gSteps gStepsType Tryd.underlying170 Tryd.underlying150 cellsU32 cellsT16 h
theorem steps_of {W : World} (h : laidMetH Tryd.prog Rows.inodeStepsRow.laid W) : Steps W := by
  have ht := steps_tab h
  have hc : ∀ i : Nat, i < 16 → W.cell? ⟨0, i, none⟩ = some (.int .u32 (sumTab.getD i 0)) := fun i hi => ht.cell gSteps i hi
  exact ⟨block_lt_of_cell (hc 0 (by omega)), hc⟩
set_option maxRecDepth 100000 in
theorem contract (H : Type) (enc : TypeId × Value → H) (W : World) (base : Nat) (args : Array Value) (ds gs : List (DataW H)) (before : List MemPlace)
    (hval : ∀ (j : Nat) t v, Tryd.f7.params[j]? = some t → args[j]? = some v → Value.okWide Tryd.prog W .any base t v)
    (hW : DataW.Whole enc Tryd.prog Tryd.f7.params.toList Rows.inodeStepsSpec.vars false W args.toList ds gs before) (hL : laidMetH Tryd.prog Rows.inodeStepsRow.laid W) :
    Calls Tryd.prog 7 args W fun e W' => ∃ v, e = .returned v ∧ Rows.inodeStepsSpec.post enc Tryd.prog Tryd.f7 false true false false W args v W' := by
  have hW' := hW
  obtain ⟨p, q, hA0, hV, rfl, hfz, hnd⟩ := hW
  have hA : DataW.TrodAll enc Tryd.prog W 0 (fun _ => true) true Tryd.f7.params.toList args.toList ds p := hA0
  rw [Tryd.params7] at hA hval
  obtain ⟨v0, vs0, d0, ds0, p0, q0, hargs, rfl, rfl, h0, r0⟩ := trodAll_cons hA
  obtain ⟨v1, vs1, d1, ds1, p1, q1, rfl, rfl, rfl, h1, r1⟩ := trodAll_cons r0
  obtain ⟨v2, vs2, d2, ds2, p2, q2, rfl, rfl, rfl, h2, r2⟩ := trodAll_cons r1
  obtain ⟨v3, vs3, d3, ds3, p3, q3, rfl, rfl, rfl, h3, r3⟩ := trodAll_cons r2
  obtain ⟨rfl, rfl, rfl⟩ := trodAll_nil r3
  obtain rfl : args = #[v0, v1, v2, v3] := by cases args; simp_all
  obtain ⟨rfl, rfl⟩ := trodVars_none hV
  obtain ⟨a0, rfl, rfl, rfl⟩ := open_bool Tryd.underlying4 (hval 0 4 v0 rfl rfl) h0
  have k1 := h1
  have lt1 : ∀ x ∈ p1, x.block < W.heap.size := by obtain ⟨m, hm⟩ := k1; exact DataW.trod_lt m _ _ _ hm
  obtain ⟨sa1, sl1, sc1, rfl⟩ := okWide_slice Tryd.underlying38 (hval 1 38 v1 rfl rfl)
  obtain ⟨l1, hl1, hO1⟩ := open_seeds h1 rfl
  obtain ⟨a2, rfl, rfl, rfl, w2⟩ := open_int Tryd.underlying3 (hval 2 3 v2 rfl rfl) h2
  obtain ⟨a3, rfl, rfl, rfl, w3⟩ := open_int Tryd.underlying24 (hval 3 24 v3 rfl rfl) h3
  clear hA0
  refine (lawSteps W a0 _ l1 a2 a3 (steps_of hL) hl1 hO1 (i64_of w2) w3).mono fun e W' ⟨he, hm⟩ => ?_
  subst he
  have bel := hm.below
  exact ⟨_, rfl, _, _, _, [], _, [], hW', trodAll_mk1 (shut_bool Tryd.underlying4 _),
    (trodAll_cons_mk (shut_bool Tryd.underlying4 a0) (trodAll_cons_mk (Below.trod laidOut (by kernel_rfl) (of_decide_eq_true (by kernel_rfl)) k1 bel lt1) (trodAll_cons_mk (shut_int Tryd.underlying3 w2) (trodAll_cons_mk (shut_int Tryd.underlying24 w3) trodAll_mk0)))),
    rfl, bel.frame _, fun h => by cases h⟩
/-- a world for the witness: the settled one, the table (block 0) holding what its initialiser lays -/
noncomputable def laidWorld (os : Os) : World :=
  { World.holding Tryd.prog os ⟨#[], #[], []⟩ with heap := (World.holding Tryd.prog os ⟨#[], #[], []⟩).heap.modify 0 fun
      | .cells _ t frozen => .cells (sumTab.map (Value.int .u32)).toArray t frozen
      | o => o }
theorem laid_met (os : Os) : laidMet Tryd.prog Rows.inodeStepsRow.laid ((laidWorld os).forCall (fun _ _ => 0) ⟨#[], #[.bool false, .slice none 0 0, .int .i64 0, .int .u64 0], []⟩).memory :=
  laidMet_of_run' 8 (by kernel_rfl) (by kernel_rfl)
theorem reads (os : Os) {H : Type} (enc : TypeId × Value → H) : ∃ places, DataW.whole enc Tryd.prog ((laidWorld os).forCall (fun _ _ => 0) ⟨#[], #[.bool false, .slice none 0 0, .int .i64 0, .int .u64 0], []⟩).memory Tryd.f7.params.toList Rows.inodeStepsSpec.vars false #[Value.bool false, .slice none 0 0, .int .i64 0, .int .u64 0].toList 8 = some ([.lit (.bool false), .nil, .lit (.int .i64 0), .lit (.int .u64 0)], [], places) :=
  ⟨[], by kernel_rfl⟩
set_option maxRecDepth 100000 in
theorem lifted (os : Os) (started : os.Started) (H : Type) (enc : TypeId × Value → H) (F : Stop.Interp) :
    ReturnsInHanded {} Tryd.checked os 7 .any ((OpenSpec.ofChange Rows.inodeStepsSpec).preRow enc Tryd.prog Tryd.f7 Rows.inodeStepsRow.domain false Rows.inodeStepsRow.laid) (((OpenSpec.ofChange Rows.inodeStepsSpec).at F).post enc Tryd.prog Tryd.f7 false true false false) := by
  obtain ⟨places, hx⟩ := reads os enc
  refine returnsInHanded_of_row (C := Tryd.checked) (s := OpenSpec.ofChange Rows.inodeStepsSpec) ownG started (by kernel_rfl) Tryd.func7
    (witness_row_at (enc := enc) (C := Tryd.checked) false (laidWorld os) #[.bool false, .slice none 0 0, .int .i64 0, .int .u64 0] rfl (by kernel_rfl) (by kernel_rfl) (by kernel_rfl)
      (OpenSpec.preRow_of_cond 8 hx (by kernel_rfl) (fun k hk => by cases hk) (by kernel_rfl) (laid_met os))) ?_
  intro W base args ds gs before hval hW _ _ _ hL _ _
  exact contract H enc W base args ds gs before hval hW hL
theorem said : Rows.InodeStepsSaid :=
  OpenClaim.holds_of_cond 7 Tryd.f7 rfl rfl rfl rfl rfl rfl rfl ⟨rfl, rfl, rfl, rfl, rfl⟩ rfl rfl rfl rfl rfl (by kernel_rfl) Tryd.func7 (by kernel_rfl)
    (of_decide_eq_true (by kernel_rfl)) (by unfold Func.isWrapper; first | (rw [if_pos (by decide +kernel)]; kernel_rfl) | (rw [if_neg (by decide +kernel)]; exact ⟨rfl, rfl⟩))
    (fun os started H enc _ F => by rw [OpenClaim.pre_eq_preRow]; exact lifted os started H enc F)
theorem plain (f : FuncId) (fn : Func) (hf : Tryd.pinned.checked.prog.funcNamed "furrow/furrowlaw09.InodeSteps" = some f) (hfn : Tryd.pinned.checked.prog.funcs[f]? = some fn) :
    true = Tryd.pinned.checked.prog.looks [] ∧ ∀ (j : Nat) t, fn.params[j]? = some t → Tryd.pinned.checked.prog.wantsStandIn t = false := by
  obtain rfl : f = 7 := Option.some.inj ((show Tryd.prog.funcNamed "furrow/furrowlaw09.InodeSteps" = some 7 by kernel_rfl).symm.trans hf) |>.symm
  obtain rfl : fn = Tryd.f7 := (Option.some.inj (Tryd.func7.symm.trans hfn)).symm
  refine ⟨by kernel_rfl, fun j t ht => ?_⟩
  rw [Tryd.params7] at ht
  have hm := Array.mem_of_getElem? ht
  simp only [List.mem_toArray, List.mem_cons, List.not_mem_nil, or_false] at hm
  rcases hm with rfl | rfl | rfl | rfl
  · exact (show Tryd.prog.wantsStandIn 4 = false by kernel_rfl)
  · exact (show Tryd.prog.wantsStandIn 38 = false by kernel_rfl)
  · exact (show Tryd.prog.wantsStandIn 3 = false by kernel_rfl)
  · exact (show Tryd.prog.wantsStandIn 24 = false by kernel_rfl)
theorem card : Rows.InodeStepsCardSaid :=
  Claim7.holds_tied_plain_at .later [] _ _ _ _ said (fun _ h => by cases h) (by kernel_rfl) (fun _ h => by cases h) inodeSteps_row_tie rfl ⟨rfl, rfl⟩ (by kernel_rfl) rfl plain (by kernel_rfl)
end Go.Proofs.YtabebkffcmajkaaDoor.inodeSteps
namespace Go.Proofs.YtabebkffcmajkaaDoor
theorem inodeSteps_holds : Rows.InodeStepsCardSaid := inodeSteps.card
#print axioms inodeSteps_holds
end Go.Proofs.YtabebkffcmajkaaDoor
