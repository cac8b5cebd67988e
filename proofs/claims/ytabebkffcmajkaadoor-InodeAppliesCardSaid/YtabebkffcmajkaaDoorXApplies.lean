/-
  InodeApplies: for every node and entry the law returns true, and its arguments read as they did. (The table of the sums is laid by the program's text.)
-/
import Derived.Test.YtabebkffcmajkaaDoorCards
import Derived.Test.YtabebkffcmajkaaDoorTie
import Derived.WalkKit
import Derived.ProofKit
import Derived.OpenShut
import Derived.ShutString
import Derived.Deep.DeepHandedRow
import Derived.Lib.LaidTab
import Derived.Test.YtabebkffcmajkaaDoorG11
import Derived.Test.YtabebkffcmajkaaDoorG10
import Derived.Test.YtabebkffcmajkaaDoorG9
import Derived.Test.YtabebkffcmajkaaDoorG6
set_option linter.unusedVariables false
set_option linter.unusedSimpArgs false
/-! Plain law: the logs of either kind, their beginnings. -/
namespace Go.Proofs.YtabebkffcmajkaaDoor
open Go.RowKit Go.Maps Go.Shelf

def logOf (dir : Bool) (l : List SeedD) : List EntD := match dir with | true => namedL l | false => writtenL l
def kindOf (dir : Bool) : Int := match dir with | true => 2 | false => 1
theorem kindOf_two (dir : Bool) : kindOf dir = 1 ∨ kindOf dir = 2 := by cases dir <;> simp [kindOf]
theorem logOf_length (dir : Bool) (l : List SeedD) : (logOf dir l).length ≤ 60 := by
  cases dir
  · show (writtenL l).length ≤ 60; rw [writtenL_length]; omega
  · show (namedL l).length ≤ 60; rw [namedL_length]; omega
theorem log_play (dir : Bool) (l : List SeedD) : ∃ D, playD (zeroD (kindOf dir)) (logOf dir l) = (0, D) := by
  cases dir
  · obtain ⟨f, h, _⟩ := written_replay l; exact ⟨_, h⟩
  · obtain ⟨R, nm, h⟩ := named_replay l; exact ⟨_, h.play⟩
theorem play_take {L : List EntD} {D0 D : SenseD} (h : playD D0 L = (0, D)) (k : Nat) : ∃ Dk, playD D0 (L.take k) = (0, Dk) := by
  have hs := playD_stop (L.take k) (L.drop k) D0
  rw [List.take_append_drop, h] at hs
  by_cases h0 : (playD D0 (L.take k)).1 = 0
  · exact ⟨(playD D0 (L.take k)).2, by rw [← h0]⟩
  · exact absurd (hs h0).symm h0
theorem play_at {L : List EntD} {D0 D Dk : SenseD} (h : playD D0 L = (0, D)) {k : Nat} (hk : playD D0 (L.take k) = (0, Dk)) (hl : k < L.length) : stepErr Dk L[k] = 0 ∧ playD D0 (L.take (k + 1)) = (0, onD L[k] Dk) := by
  obtain ⟨D2, h2⟩ := play_take h (k + 1)
  have hs := playD_snoc (L.take k) D0 Dk L[k] hk
  rw [← List.take_succ_eq_append_getElem hl] at hs
  rw [hs] at h2
  by_cases h0 : stepErr Dk L[k] = 0
  · rw [if_pos h0] at hs
    exact ⟨h0, hs⟩
  · rw [if_neg h0, Prod.mk.injEq] at h2
    exact absurd h2.1 h0
theorem play_len : ∀ (L : List EntD) (D0 D : SenseD), playD D0 L = (0, D) → lenD D ≤ lenD D0 + L.length
  | [], D0, D, h => by
    have : D0 = D := by injection h
    subst this
    exact Nat.le_add_right _ _
  | e :: L, D0, D, h => by
    have e1 : playD D0 (e :: L) = if stepErr D0 e = 0 then playD (onD e D0) L else (stepErr D0 e, D0) := rfl
    rw [e1] at h
    by_cases h0 : stepErr D0 e = 0
    · rw [if_pos h0] at h
      have := play_len L _ _ h
      have := lenD_on e D0
      simp only [List.length_cons]; omega
    · rw [if_neg h0, Prod.mk.injEq] at h
      exact absurd h.1 h0
/-- a sense that a log of the laws gives -/
structure LogD (D : SenseD) : Prop where
  wf : WfD D
  fit : FitD D
  len : lenD D ≤ 100
theorem lenD_zero (k : Int) : lenD (zeroD k) = 0 := by
  unfold zeroD
  split <;> rfl
theorem log_ok {k : Int} {L : List EntD} {D : SenseD} (hk : k = 1 ∨ k = 2) (hl : L.length ≤ 60) (h : playD (zeroD k) L = (0, D)) : replayErr k L = 0 ∧ replayN k L = nodeOf D L.length ∧ LogD D := by
  obtain ⟨h1, h2, h3, h4⟩ := replay_ok hk h
  have h5 := play_len L _ _ h
  rw [lenD_zero] at h5
  exact ⟨h1, h2, h3, h4, by omega⟩
theorem LogD.small {D : SenseD} (h : LogD D) (j : Nat) : smallB (nodeOf D j) = true := node_small (by have := h.len; omega)
theorem LogD.apply {D : SenseD} (h : LogD D) {e : EntD} (q : Int) (he : stepErr D e = 0) {j : Nat} (hj : j ≤ 1000000) : applyErr (nodeOf D j) { e with seq := q } = 0 ∧ applyN (nodeOf D j) { e with seq := q } = nodeOf (onD e D) (j + 1) := by
  have he' : stepErr D { e with seq := q } = 0 := by rw [stepErr_seq]; exact he
  refine ⟨by rw [applyErr_node h.wf h.fit, he'], ?_⟩
  rw [applyN_node h.wf h.fit he' hj, onD_seq]
end Go.Proofs.YtabebkffcmajkaaDoor

/-! What is alike in the laws over logs of either kind. -/
namespace Go.Proofs.YtabebkffcmajkaaDoor
open Go.RowKit Go.Maps Go.Shelf

theorem LogD.in_ {D : SenseD} (h : LogD D) {j : Nat} {b : Nat} {w : World} {vm vn vl : Value} (ho : NodeOwn b w (nodeOf D j) vm vn vl) : NodeIn w (nodeOf D j) vm vn vl := node_in h.wf ho
end Go.Proofs.YtabebkffcmajkaaDoor

/-! Law walk: InodeReplays. -/
namespace Go.Proofs.YtabebkffcmajkaaDoor
open Go.RowKit Go.Maps Go.Shelf
attribute [local go_sem] quietV loudUpon Oper.semAt_some

theorem ListAt.front {α : Type} {enc : α → List Value} {sz : Nat} {w : World} {A : Option Addr} {c : Nat} {l m : List α} (h : ListAt enc sz w (.slice A (l ++ m).length c) (l ++ m)) : ListAt enc sz w (.slice A l.length c) l := by
  obtain ⟨A', c', e, h1, h2, h3⟩ := h
  simp only [Value.slice.injEq, true_and] at e
  obtain ⟨rfl, rfl⟩ := e
  have hlen : (l ++ m).length = l.length + m.length := by simp
  refine ⟨A, c, rfl, by omega, h2, fun h0 => ?_⟩
  obtain ⟨g, o, e2, hg, hc⟩ := h3 (by omega)
  refine ⟨g, o, e2, hg, fun i hi => ?_⟩
  have := hc i (by omega)
  rw [List.getElem_append_left hi] at this
  exact this
theorem play_wf : ∀ (l : List EntD) (D : SenseD), WfD D → WfD (playD D l).2
  | [], _, h => h
  | e :: l, D, h => by
    show WfD (if stepErr D e = 0 then playD (onD e D) l else (stepErr D e, D)).2
    split
    · rename_i he; exact play_wf l _ (step_wf h he)
    · exact h
theorem replay_node (k : Int) (l : List EntD) : (∀ r ∈ (replayN k l).map, r.Ok) ∧ I64 (replayN k l).kind ∧ I64 (replayN k l).size := by
  unfold replayN
  split
  · have hw := play_wf l _ (wf_zero k)
    have h1 := node_ok (j := l.length) hw
    have h2 := node_i64 (j := l.length) hw
    exact ⟨h1, h2.1, h2.2⟩
  · exact ⟨(fun r hr => by cases hr), ⟨by show -9223372036854775808 ≤ (0 : Int); omega, by show (0 : Int) ≤ 9223372036854775807; omega⟩, ⟨by show -9223372036854775808 ≤ (0 : Int); omega, by show (0 : Int) ≤ 9223372036854775807; omega⟩⟩
def markE (k : Int) : EntD := ⟨k, 0, 0, 0, 0, 0, 0, ⟨#[]⟩⟩
set_option maxRecDepth 100000 in
set_option maxHeartbeats 4000000 in
theorem lawReplays (w : World) (k : Int) (v : Value) (l : List EntD) (hs : Steps w) (h : ListAt encEntry 8 w v l) :
    Calls Tryd.prog 3 #[.int .i64 k, v] w (BoolPost w true) := by
  obtain ⟨A, c, rfl, hc1, hc2, hA⟩ := id h
  have hln : ∀ w, (Builtin.len_ #[22] 3 #[.slice A l.length c]).run Tryd.prog w = .ok (.int .i64 l.length) w := fun w => by simp [Builtin.len_, run_underlying Tryd.underlying22]; rfl
  clear hA
  have HL := hide h
  have HS := hide hs
  clear h hs
  go_enter Tryd.func3, Tryd.ntmps3
  by_cases hbig : 2000 < l.length
  · have d1 : decide ((2000 : Int) < l.length) = true := decide_eq_true (by omega)
    go_wp2
    go_ret
    exact ⟨rfl, Mod.refl _ w⟩
  · have d1 : decide ((2000 : Int) < l.length) = false := decide_eq_false (by omega)
    have hl : l.length ≤ 2000 := by omega
    go_wp2_with fail
    refine (copyEntries_any w _ l HL.out (by omega)).mono ?_
    rintro x w1 ⟨v1, rfl, hown, hM1⟩
    have hsz := hM1.size
    obtain ⟨A1, c1, rfl⟩ := own_slice hown
    obtain ⟨ii, hii, hzi, hsi, hbi⟩ := info_parts infoEntry
    obtain ⟨wb, hwb⟩ : ∃ wb, wb = w1.alloc (.cells #[.int .i64 5, .int .u64 0, .int .i64 0, .int .i64 0, .int .i64 0, .int .i64 0, .int .i64 0, .string ⟨#[]⟩, .int .i64 6, .int .u64 0, .int .i64 0, .int .i64 0, .int .i64 0, .int .i64 0, .int .i64 0, .string ⟨#[]⟩] 26) := ⟨_, rfl⟩
    have hmb : Mod None_ w1 wb := by rw [hwb]; exact (Mod.refl _ w1).alloc _
    have hmk : wb.ownsRow w1.heap.size 26 8 (.slice (some ⟨w1.heap.size, 0, none⟩) 2 2) 2 (rowOf encEntry [markE 5, markE 6]) := by
      have hb : Blk wb w1.heap.size 26 (rowOf encEntry [markE 5, markE 6]).toArray := by rw [hwb]; exact Blk.new w1 _ _
      exact ⟨rfl, .inr ⟨w1.heap.size, 2, _, rfl, Nat.le_refl _, hb, Nat.le_refl _, by unfold maxLen; omega, rfl, rfl⟩⟩
    have hrd := ListAt.reads (enc := encEntry) (sz := 8) (l := [markE 5, markE 6]) (fun _ => rfl) (by omega) (list_of_ownRow (enc := encEntry) (l := [markE 5, markE 6]) (fun _ => rfl) hmk)
    have HOW := hide (own_mod hown hmb (fun _ _ f => f))
    have HRD := hide hrd
    have HWB := hide hwb
    have hwsz : w.heap.size ≤ wb.heap.size := Nat.le_trans hsz hmb.size
    have hMb := hM1.trans hmb
    clear hown hmk hrd hwb hmb
    go_upto_region 5 with ((with_reducible refine at_slot 21 ?_); rw [← HWB.out]; refine wpList_append_any _ rfl (.tmp 17) (.tmp 20) 22 rfl w.heap.size 26 ii _ 8 72 Tryd.underlying22 hii hzi hsi hbi rfl (by omega) _ l.length _ rfl HOW.out wb.heap.size (some ⟨w1.heap.size, 0, none⟩) 2 2 _ rfl HRD.out (rowOf_one oneEntryL _) (by unfold maxLen; omega) (by omega) hwsz ?_; intro v2 w2 hown2 hg2 hat2; go_frame)
    have hM2 : Mod None_ w w2 := hMb.trans' (Mod.of_grown hg2) (fun q hq e => by
      have := (own_blk HOW.out e.symm).1
      omega)
    have hR : rowOf encEntry l ++ rowOf encEntry [markE 5, markE 6] = rowOf encEntry (l ++ [markE 5, markE 6]) := by simp [rowOf]
    have hlen2 : l.length + 2 = (l ++ [markE 5, markE 6]).length := by simp
    rw [hR, hlen2] at hown2
    obtain ⟨A2, c2, rfl⟩ := own_slice hown2
    have HOW2 := hide hown2
    have hsz2 := hM2.size
    clear hown2 hg2 hat2 hMb hR hlen2 HOW HRD HWB
    have HP := hide (refReplay_any w2 k _ l (HL.out.kept hM2) hl)
    go_wp2_with fail
    refine HP.out.mono ?_
    rintro x w3 ⟨vm, vn, vl, rfl, hLm, hLn, hLl, hM3⟩
    have hsz3 := hM3.size
    have hM3t := hM2.trans hM3
    obtain ⟨q, hq⟩ : ∃ q, q = w3.heap.size := ⟨_, rfl⟩
    have hv1 : vm.oneCell' = true := by obtain ⟨A, c, rfl, _⟩ := hLm; rfl
    have hv2 : vn.oneCell' = true := by obtain ⟨A, c, rfl, _⟩ := hLn; rfl
    have hv3 : vl.oneCell' = true := by obtain ⟨A, c, rfl, _⟩ := hLl; rfl
    obtain ⟨w4, hw4⟩ : ∃ w4, w4 = w3.alloc (.cells (nodeC (replayN k l) vm vn vl) 31) := ⟨_, rfl⟩
    have hm4 : Mod None_ w3 w4 := by rw [hw4]; exact (Mod.refl _ w3).alloc _
    have bb : Blk w4 q 31 (nodeC (replayN k l) vm vn vl) := by rw [hw4, hq]; exact Blk.new w3 _ _
    have hM4 := hM3t.trans hm4
    replace hLm := hLm.kept hm4
    replace hLn := hLn.kept hm4
    replace hLl := hLl.kept hm4
    have hown4 := own_mod HOW2.out (hM3.trans hm4) (fun _ _ f => f)
    have hfull := list_of_ownRow (enc := encEntry) (fun _ => rfl) hown4
    have hcap : l.length ≤ c2 := by
      obtain ⟨A', c', e, h1, _⟩ := hfull
      simp only [Value.slice.injEq, true_and] at e
      have : (l ++ [markE 5, markE 6]).length = l.length + 2 := by simp
      omega
    have HI1 := hide (infoNode (replayN k l) vm vn vl)
    have HO1 := hide (nodeC_one (replayN k l) vm vn vl hv1 hv2 hv3)
    have HW4 := hide hw4
    have HQ := hide hq
    have HFU := hide hfull
    have HRP := hide (replay_any w4 k _ l (HS.out.kept hM4) hfull.front (by omega))
    clear hw4 hq hM3 hm4 hM2 HP HOW2 hown4 hfull
    go_upto_region 6 with ((with_reducible refine at_slot 7 ?_); refine wpList_declare rfl rfl 31 7 (.tmp 26) rfl rfl rfl zeroNode (nodeC (replayN k l) vm vn vl) zeroNodeV HI1.out (nodeC_size _ _ _ _) HO1.out (by simp) rfl ?_; go_frame; rw [← HW4.out, ← HQ.out])
    clear HW4 HQ
    go_wp2_with fail
    refine HRP.out.mono ?_
    rintro x w5 ⟨vm2, vn2, vl2, rfl, hOw, hM5⟩
    have hOm := list_of_ownRow (enc := encRun) (fun _ => rfl) hOw.map
    have hOn := list_of_ownRow (enc := encDent) (fun _ => rfl) hOw.names
    have hOl := list_of_ownRow (enc := encInt) (fun _ => rfl) hOw.log
    have hu1 : vm2.oneCell' = true := by obtain ⟨A, c, rfl, _⟩ := hOm; rfl
    have hu2 : vn2.oneCell' = true := by obtain ⟨A, c, rfl, _⟩ := hOn; rfl
    have hu3 : vl2.oneCell' = true := by obtain ⟨A, c, rfl, _⟩ := hOl; rfl
    replace bb := bb.mod hM5 id
    replace hLm := hLm.kept hM5
    replace hLn := hLn.kept hM5
    replace hLl := hLl.kept hM5
    have HFU5 := hide (HFU.out.kept hM5)
    have hM5t := hM4.trans hM5
    obtain ⟨N, hN⟩ : ∃ N, N = replayN k l := ⟨_, rfl⟩
    obtain ⟨er, her⟩ : ∃ er, er = replayErr k l := ⟨_, rfl⟩
    rw [← hN, ← her]
    rw [← hN] at bb hLm hLn hLl hOm hOn hOl
    have hok := replay_node k l
    rw [← hN] at hok
    clear hN her hOw hM5 HRP HFU hM4 hv1 hv2 hv3 HI1 HO1
    obtain ⟨r, hr⟩ : ∃ r, r = w5.heap.size := ⟨_, rfl⟩
    obtain ⟨w6, hw6⟩ : ∃ w6, w6 = w5.alloc (.cells (nodeC N vm2 vn2 vl2) 31) := ⟨_, rfl⟩
    have hm6 : Mod None_ w5 w6 := by rw [hw6]; exact (Mod.refl _ w5).alloc _
    have br : Blk w6 r 31 (nodeC N vm2 vn2 vl2) := by rw [hw6, hr]; exact Blk.new w5 _ _
    replace bb := bb.mod hm6 id
    have hM6 := hM5t.trans hm6
    have HFU6 := hide (HFU5.out.kept hm6)
    have hIn1 : NodeIn w6 N vm2 vn2 vl2 := ⟨hOm.kept hm6, hOn.kept hm6, hOl.kept hm6, hok.1, hok.2.1, hok.2.2⟩
    have hIn2 : NodeIn w6 N vm vn vl := ⟨hLm.kept hm6, hLn.kept hm6, hLl.kept hm6, hok.1, hok.2.1, hok.2.2⟩
    have HSN := hide (lawSameNode w6 N vm2 vn2 vl2 vm vn vl hIn1 hIn2)
    have HI2 := hide (infoNode N vm2 vn2 vl2)
    have HO2 := hide (nodeC_one N vm2 vn2 vl2 hu1 hu2 hu3)
    have HW6 := hide hw6
    have HR := hide hr
    clear hw6 hr hm6 hM5t HFU5 hLm hLn hLl hOm hOn hOl hIn1 hIn2 hok
    go_upto_region 7 with ((with_reducible refine at_slot 9 ?_); refine wpList_declare rfl rfl 31 9 (.tmp 34) rfl rfl rfl zeroNode (nodeC N vm2 vn2 vl2) zeroNodeV HI2.out (nodeC_size _ _ _ _) HO2.out (by simp) rfl ?_; go_frame; rw [← HW6.out, ← HR.out])
    clear HW6 HR
    have b0 : w6.cell? ⟨q, 0, none⟩ = some (.int .i64 N.ino) := bb.cell 0
    have b1 : w6.cell? ⟨q, 1, none⟩ = some (.int .i64 N.kind) := bb.cell 1
    have b2 : w6.cell? ⟨q, 2, none⟩ = some (.int .i64 N.links) := bb.cell 2
    have b3 : w6.cell? ⟨q, 3, none⟩ = some (.int .i64 N.size) := bb.cell 3
    have b4 : w6.cell? ⟨q, 4, none⟩ = some vm := bb.cell 4
    have b5 : w6.cell? ⟨q, 5, none⟩ = some vn := bb.cell 5
    have b6 : w6.cell? ⟨q, 6, none⟩ = some (.int .i64 N.head) := bb.cell 6
    have b7 : w6.cell? ⟨q, 7, none⟩ = some (.int .i64 N.tail) := bb.cell 7
    have b8 : w6.cell? ⟨q, 8, none⟩ = some vl := bb.cell 8
    have b9 : w6.cell? ⟨q, 9, none⟩ = some (.int .i64 N.entries) := bb.cell 9
    have r0 : w6.cell? ⟨r, 0, none⟩ = some (.int .i64 N.ino) := br.cell 0
    have r1 : w6.cell? ⟨r, 1, none⟩ = some (.int .i64 N.kind) := br.cell 1
    have r2 : w6.cell? ⟨r, 2, none⟩ = some (.int .i64 N.links) := br.cell 2
    have r3 : w6.cell? ⟨r, 3, none⟩ = some (.int .i64 N.size) := br.cell 3
    have r4 : w6.cell? ⟨r, 4, none⟩ = some vm2 := br.cell 4
    have r5 : w6.cell? ⟨r, 5, none⟩ = some vn2 := br.cell 5
    have r6 : w6.cell? ⟨r, 6, none⟩ = some (.int .i64 N.head) := br.cell 6
    have r7 : w6.cell? ⟨r, 7, none⟩ = some (.int .i64 N.tail) := br.cell 7
    have r8 : w6.cell? ⟨r, 8, none⟩ = some vl2 := br.cell 8
    have r9 : w6.cell? ⟨r, 9, none⟩ = some (.int .i64 N.entries) := br.cell 9
    clear bb br HI2 HO2
    go_wp2_with fail
    refine Calls.mono HSN.out ?_
    rintro x w7 ⟨rfl, hm7⟩
    have hM7 := hM6.trans hm7
    have HFU7 := hide (HFU6.out.kept hm7)
    clear b0 b1 b2 b3 b4 b5 b6 b7 b8 b9 r0 r1 r2 r3 r4 r5 r6 r7 r8 r9 HSN hm7 HFU6 hM6
    go_wp2_with fail
    have HSE := hide (lawSameEntries w7 (.slice A2 l.length c2) (.slice A l.length c) l l HFU7.out.front (HL.out.kept hM7))
    refine Calls.mono HSE.out ?_
    rintro x w8 ⟨hx, hm8⟩
    rw [decide_eq_true rfl] at hx
    obtain rfl := hx
    have hM8 := hM7.trans hm8
    obtain ⟨_, _, hcv, _, _, hcell⟩ := HFU7.out.kept hm8
    simp only [Value.slice.injEq, true_and] at hcv
    obtain ⟨rfl, rfl⟩ := hcv
    have hl2 : (l ++ [markE 5, markE 6]).length = l.length + 2 := by simp
    obtain ⟨g, o, rfl, hg, hc⟩ := hcell (by omega)
    have e5 : (l ++ [markE 5, markE 6])[l.length]'(by omega) = markE 5 := by rw [List.getElem_append_right (Nat.le_refl _)]; simp
    have e6 : (l ++ [markE 5, markE 6])[l.length + 1]'(by omega) = markE 6 := by rw [List.getElem_append_right (by omega)]; simp
    have x5 : w8.cell? ⟨g, o + l.length * 8, none⟩ = some (.int .i64 5) := by
      have := hc l.length (by omega) 0 (.int .i64 5) (by rw [e5]; rfl)
      simpa using this
    have x6 : w8.cell? ⟨g, o + (l.length + 1) * 8, none⟩ = some (.int .i64 6) := by
      have := hc (l.length + 1) (by omega) 0 (.int .i64 6) (by rw [e6]; rfl)
      simpa using this
    have hi5 : (l.length : Int) < l.length + 2 := by omega
    have HMF := hide hM8
    clear hc hcell hg e5 e6 hl2 hM8 hm8 hM7 HFU7 HSE
    go_wp2
    go_ret
    exact ⟨rfl, HMF.out⟩
end Go.Proofs.YtabebkffcmajkaaDoor

/-! Reference walk: Apply, once more: whether the lists are handed on. -/
namespace Go.Proofs.YtabebkffcmajkaaDoor
open Go.RowKit Go.Maps Go.Shelf
attribute [local go_sem] quietV loudUpon Oper.semAt_some

def ApplyFPost (w : World) (n : NodeD) (vm0 vn0 vl0 : Value) (e : EntD) : Ending → World → Prop := fun x w' => ∃ vm vn vl, x = .returned (.tuple #[.agg (nodeC (nodeA n e) vm vn vl), .int .i64 (errA n e)]) ∧
  ListAt encRun 3 w' vm (nodeA n e).map ∧ ListAt encDent 2 w' vn (nodeA n e).names ∧ ListAt encInt 1 w' vl (nodeA n e).log ∧ Mod None_ w w' ∧ Fresh w vm0 vm (nodeA n e).map.length ∧ Fresh w vn0 vn (nodeA n e).names.length ∧ Fresh w vl0 vl (nodeA n e).log.length
theorem ApplyFPost.bad {w w' : World} {n : NodeD} {vm0 vn0 vl0 : Value} {e : EntD} {k : Int} (h : nodeGood n = false) (hk : errA n e = k) (hm : Mod None_ w w') : ApplyFPost w n vm0 vn0 vl0 e (.returned (.tuple #[.agg zeroNode, .int .i64 k])) w' := by
  have h2 : nodeA n e = zeroN := by unfold nodeA; rw [h]; rfl
  unfold ApplyFPost
  rw [h2, hk]
  exact ⟨_, _, _, rfl, nilList _ _ _, nilList _ _ _, nilList _ _ _, hm, (fun h => by cases h), (fun h => by cases h), (fun h => by cases h)⟩
theorem Fresh.up {w w1 : World} {v0 v : Value} {k : Nat} (h : Fresh w1 v0 v k) (hs : w.heap.size ≤ w1.heap.size) : Fresh w v0 v k := fun h0 => (h h0).imp id fun h1 g hg => Nat.le_trans hs (h1 g hg)

set_option maxRecDepth 100000 in
set_option maxHeartbeats 4000000 in
theorem refApply_fresh (w : World) (n : NodeD) (vm vn vl : Value) (e : EntD) (h : NodeIn w n vm vn vl) (hs : smallB n = true) :
    Calls Tryd.prog 21 #[.agg (nodeC n vm vn vl), .agg (encEntry e).toArray] w (ApplyFPost w n vm vn vl e) := by
  obtain ⟨m, hm⟩ : ∃ m, m = w.heap.size := ⟨_, rfl⟩
  obtain ⟨w0, hw0⟩ : ∃ w0, w0 = ((w.alloc (.cells (nodeC n vm vn vl) 31)).alloc (.cells (encEntry e).toArray 26)).alloc (.cells zeroNode 31) := ⟨_, rfl⟩
  have hM0 : Mod None_ w w0 := by rw [hw0]; exact (((Mod.refl _ w).alloc _).alloc _).alloc _
  have bn : Blk w0 m 31 (nodeC n vm vn vl) := by rw [hw0, hm]; exact ((Blk.new w 31 _).alloc _).alloc _
  have be : Blk w0 (m + 1) 26 (encEntry e).toArray := by
    have := (Blk.new (w.alloc (.cells (nodeC n vm vn vl) 31)) 26 (encEntry e).toArray).alloc (.cells zeroNode 31)
    rw [← hw0, alloc_size, ← hm] at this
    exact this
  have bo : Blk w0 (m + 2) 31 zeroNode := by
    have := Blk.new ((w.alloc (.cells (nodeC n vm vn vl) 31)).alloc (.cells (encEntry e).toArray 26)) 31 zeroNode
    rw [← hw0, alloc_size, alloc_size, ← hm] at this
    exact this
  have hem : w.heap.size ≤ m := by omega
  have hN0 := h.kept hM0
  have HG := hide (refGood_any w0 n vm vn vl (hN0.at_ hs))
  have HIE := hide (infoEnt e)
  have HIN := hide (infoNode n vm vn vl)
  have HW0 := hide hw0
  have HMM := hide hm
  have HH := hide h
  clear hw0 hm h hN0
  have hwm := bo.lt
  go_enter Tryd.func21, Tryd.ntmps21
  go_upto_region 1 with ((with_reducible refine at_slot 4 ?_); refine wpList_alloc rfl 31 rfl (.agg zeroNode) zeroNodeV ?_; go_frame)
  simp only [alloc_size]
  rw [← HMM.out, show (Value.agg zeroNode).cells = zeroNode from rfl, show m + 1 + 1 = m + 2 from rfl, ← HW0.out]
  clear HMM HW0
  go_wp2_with ((with_reducible refine at_slot 8 ?_); refine wpList_val rfl (ex_load rfl (run_loadRow bn Tryd.underlying31 rfl HIN.out)) ?_; go_frame)
  refine HG.out.mono ?_
  rintro x w1 ⟨rfl, hm1⟩
  replace be := be.mod hm1 id
  replace bn := bn.mod hm1 id
  replace bo := bo.mod hm1 id
  have hM1 := hM0.trans hm1
  have hw01 := hm1.size
  clear hm1 hM0 HG
  cases hgn : nodeGood n with
  | false =>
    have c1 : w1.cell? ⟨m + 1, 1, none⟩ = some (.int .u64 e.seq) := be.cell 1
    have f1 : w1.frozen? ⟨m + 1, 1, none⟩ = false := be.frozen _
    clear bn HH
    go_upto_region 4 with fail
    obtain ⟨w2, hw2⟩ : ∃ w2, w2 = w1.setCell ⟨m + 1, 1, none⟩ (.int .u64 1) := ⟨_, rfl⟩
    rw [← hw2]
    have hm2 : Mod (· = m + 1) w1 w2 := by rw [hw2]; exact (Mod.refl (· = m + 1) w1).setCell (p := ⟨m + 1, 1, none⟩) (.inr rfl) _
    replace be : Blk w2 (m + 1) 26 (encEntry (one e)).toArray := by rw [hw2]; exact be.set_ 1 (.int .u64 1)
    replace bo := bo.mod hm2 (by omega)
    have hM2 : Mod None_ w w2 := hM1.trans' hm2 (fun g hg e => by omega)
    clear hw2 hm2 hM1 c1 f1 HIE
    have HIE := hide (infoEnt (one e))
    go_wp2_with ((with_reducible refine at_slot 13 ?_); refine wpList_val rfl (ex_load rfl (run_loadRow be Tryd.underlying26 rfl HIE.out)) ?_; go_frame)
    refine (refGoodEntry_any w2 (one e) (by show (0 : Int) ≤ 1; omega)).mono ?_
    rintro x w3 ⟨rfl, hm3⟩
    replace bo := bo.mod hm3 id
    have hM3 := hM2.trans hm3
    have hmr : Mod (· = m + 2) w3 (w3.setRow (m + 2) zeroNode) := (Mod.refl (· = m + 2) w3).setRow (.inr rfl) _
    have hMr := hM3.trans' hmr (fun g hg e => by omega)
    have HB := hide (bo.row zeroNode)
    clear hm3 hM3 hM2 hmr be HIE
    cases hg : goodEnt (one e) with
    | false =>
      have HF := hide (ApplyFPost.bad (n := n) (vm0 := vm) (vn0 := vn) (vl0 := vl) (e := e) (k := 34) hgn (by unfold errA; rw [hgn, if_neg (by decide), if_pos hg]) hMr)
      clear hgn hg hMr
      go_wp2_with (first
        | ((with_reducible refine at_slot 17 ?_); refine wpList_val rfl (ex_build (ps := []) rfl (run_build31 _)) ?_; go_frame)
        | ((with_reducible refine at_none 31 4 17 ?_); refine wpList_store_row rfl 31 (.tmp 4) (.tmp 17) rfl (m + 2) zeroNode rfl rfl 31 zeroNode bo infoZero rfl oneZero ?_; go_frame))
      have hl := run_loadVar_row (P := Tryd.prog) _ (m + 2) 31 31 _ (0, 0) _ HB.out Tryd.underlying31 rfl infoZero
      exact ⟨rfl, .tuple #[.agg zeroNode, .int .i64 34], by simp [results, Tryd.results21, asAddr, hl], HF.out⟩
    | true =>
      have HF := hide (ApplyFPost.bad (n := n) (vm0 := vm) (vn0 := vn) (vl0 := vl) (e := e) (k := 90) hgn (by unfold errA; rw [hgn, if_neg (by decide), if_neg (by rw [hg]; decide)]) hMr)
      clear hgn hg hMr
      go_wp2_with (first
        | ((with_reducible refine at_slot 18 ?_); refine wpList_val rfl (ex_build (ps := []) rfl (run_build31 _)) ?_; go_frame)
        | ((with_reducible refine at_none 31 4 18 ?_); refine wpList_store_row rfl 31 (.tmp 4) (.tmp 18) rfl (m + 2) zeroNode rfl rfl 31 zeroNode bo infoZero rfl oneZero ?_; go_frame))
      have hl := run_loadVar_row (P := Tryd.prog) _ (m + 2) 31 31 _ (0, 0) _ HB.out Tryd.underlying31 rfl infoZero
      exact ⟨rfl, .tuple #[.agg zeroNode, .int .i64 90], by simp [results, Tryd.results21, asAddr, hl], HF.out⟩
  | true =>
    have HP := hide (refStep_any w1 n vm vn vl e (HH.out.kept hM1) hs (runs_of_good hgn))
    have hna : nodeA n e = nodeR n e := by unfold nodeA; rw [if_pos hgn]
    have hea : errA n e = errR n e := by unfold errA; rw [if_pos hgn]
    have HNA := hide hna
    have HEA := hide hea
    clear hgn hna hea
    go_wp2_with (first
      | ((with_reducible refine at_slot 19 ?_); refine wpList_val rfl (ex_load rfl (run_loadRow bn Tryd.underlying31 rfl HIN.out)) ?_; go_frame)
      | ((with_reducible refine at_slot 20 ?_); refine wpList_val rfl (ex_load rfl (run_loadRow be Tryd.underlying26 rfl HIE.out)) ?_; go_frame))
    refine HP.out.mono ?_
    rintro x w2 ⟨vm1, vn1, vl1, rfl, hLm, hLn, hLl, hm2, hFm, hFn, hFl⟩
    replace bo := bo.mod hm2 id
    have hM2 := hM1.trans hm2
    have hvm1 : vm1.oneCell' = true := by obtain ⟨A, c, rfl, _⟩ := hLm; rfl
    have hvn1 : vn1.oneCell' = true := by obtain ⟨A, c, rfl, _⟩ := hLn; rfl
    have hvl1 : vl1.oneCell' = true := by obtain ⟨A, c, rfl, _⟩ := hLl; rfl
    obtain ⟨N, hN⟩ : ∃ N, N = nodeR n e := ⟨_, rfl⟩
    obtain ⟨k, hk⟩ : ∃ k, k = errR n e := ⟨_, rfl⟩
    rw [← hN] at hLm hLn hLl hFm hFn hFl HNA ⊢
    rw [← hk] at HEA ⊢
    have hmr : Mod (· = m + 2) w2 (w2.setRow (m + 2) (nodeC N vm1 vn1 vl1)) := (Mod.refl (· = m + 2) w2).setRow (.inr rfl) _
    have hm2s := bo.lt
    have hfin : ApplyFPost w n vm vn vl e (.returned (.tuple #[.agg (nodeC N vm1 vn1 vl1), .int .i64 k])) (w2.setRow (m + 2) (nodeC N vm1 vn1 vl1)) := by
      unfold ApplyFPost
      rw [HNA.out, HEA.out]
      refine ⟨vm1, vn1, vl1, rfl, hLm.modX hmr ?_, hLn.modX hmr ?_, hLl.modX hmr ?_, hM2.trans' hmr (fun g hg e => by omega), hFm.up hM1.size, hFn.up hM1.size, hFl.up hM1.size⟩
      · intro h0 g hg e
        rcases hFm h0 with h | h
        · subst h; have := old_block HH.out.map hLm h0 hg; omega
        · have := h g hg; omega
      · intro h0 g hg e
        rcases hFn h0 with h | h
        · subst h; have := old_block HH.out.names hLn h0 hg; omega
        · have := h g hg; omega
      · intro h0 g hg e
        rcases hFl h0 with h | h
        · subst h; have := old_block HH.out.log hLl h0 hg; omega
        · have := h g hg; omega
    have HF := hide hfin
    have HB := hide (bo.row (nodeC N vm1 vn1 vl1))
    have HI2 := hide (infoNode N vm1 vn1 vl1)
    have HO2 := hide (nodeC_one N vm1 vn1 vl1 hvm1 hvn1 hvl1)
    clear hfin hmr hN hk hLm hLn hLl hFm hFn hFl HNA HEA HP HH hm2 hM2 hM1 be bn HIE
    go_wp2_with ((with_reducible refine at_none 31 4 22 ?_); refine wpList_store_row rfl 31 (.tmp 4) (.tmp 22) rfl (m + 2) (nodeC N vm1 vn1 vl1) rfl rfl 31 zeroNode bo HI2.out rfl HO2.out ?_; go_frame)
    have hl := run_loadVar_row (P := Tryd.prog) _ (m + 2) 31 31 _ (0, 0) _ HB.out Tryd.underlying31 rfl HI2.out
    exact ⟨rfl, .tuple #[.agg (nodeC N vm1 vn1 vl1), .int .i64 k], by simp [results, Tryd.results21, asAddr, hl], HF.out⟩
end Go.Proofs.YtabebkffcmajkaaDoor

/-! Plain law: what Apply gives is a node whose numbers are small. -/
namespace Go.Proofs.YtabebkffcmajkaaDoor
open Go.RowKit Go.Maps Go.Shelf

theorem fold_page : ∀ (l : List RunD) (f : Nat → Int), (∀ r ∈ l, refRun r = true) → PageF f → PageF (l.foldl setRun f)
  | [], _, _, h => h
  | r :: l, f, hl, h => fold_page l _ (fun x hx => hl x (by simp [hx])) fun x => by
    have hr := hl r (by simp)
    rw [setRun_at f hr]
    rw [refRun_iff] at hr
    split
    · right; omega
    · exact h x
theorem table_page {l : List RunD} (h : ∀ r ∈ l, refRun r = true) : PageF (tableOf l) := fold_page l _ h fun _ => .inl rfl
theorem apply_parts {n : NodeD} {e : EntD} (h : applyErr n e = 0) : goodEnt (one e) = true ∧ nodeGood n = true ∧ onOk e (senseD n) = true := by
  unfold applyErr at h
  by_cases hg : goodEnt (one e) = true
  · by_cases hn : nodeGood n = true
    · by_cases ho : onOk e (senseD n) = true
      · exact ⟨hg, hn, ho⟩
      · rw [if_neg (by rw [hg]; decide), if_neg (by rw [hn]; decide), if_pos (by simpa using ho)] at h; omega
    · rw [if_neg (by rw [hg]; decide), if_pos (by simpa using hn)] at h; omega
  · rw [if_pos (by simpa using hg)] at h; omega
theorem i64_small {x : Int} (h0 : 0 ≤ x) (h1 : x ≤ 1000000) : I64 x := ⟨by omega, by omega⟩
set_option maxRecDepth 100000 in
theorem apply_facts (n : NodeD) (e : EntD) : (∀ r ∈ (applyN n e).map, r.Ok) ∧ I64 (applyN n e).kind ∧ I64 (applyN n e).size := by
  unfold applyN
  by_cases h : applyErr n e = 0
  · rw [if_pos h]
    obtain ⟨hg, hn, ho⟩ := apply_parts h
    by_cases h1 : n.kind = 1
    · rw [show senseD n = .file n.size (tableOf n.map) from by unfold senseD; rw [if_pos h1]]
      have hr := runs_of_good hn h1
      have hp := next_page hg (table_page hr)
      have hz := (goodE_of hg).size
      refine ⟨fun r hm => ?_, i64_small (by show (0 : Int) ≤ 1; omega) (by show (1 : Int) ≤ 1000000; omega), i64_small hz.1 (by show e.size ≤ 1000000; omega)⟩
      have hm2 : r ∈ runsT (nextF e (tableOf n.map)) := hm
      have := (refRun_iff r).1 (runs_good hp r hm2)
      exact ⟨i64_small (by omega) (by omega), i64_small (by omega) (by omega), i64_small (by omega) (by omega)⟩
    · obtain ⟨_, _, _, R, hs, hd⟩ := dir_of_good hn h1
      rw [hs] at ho ⊢
      obtain ⟨R', hR, _⟩ := dir_next hd hg ho
      rw [hR]
      exact ⟨(fun r hm => by cases hm), i64_small (by show (0 : Int) ≤ 2; omega) (by show (2 : Int) ≤ 1000000; omega), i64_small (Int.le_refl _) (by show (0 : Int) ≤ 1000000; omega)⟩
  · rw [if_neg h]
    exact ⟨(fun r hm => by cases hm), i64_small (Int.le_refl _) (by show (0 : Int) ≤ 1000000; omega), i64_small (Int.le_refl _) (by show (0 : Int) ≤ 1000000; omega)⟩
end Go.Proofs.YtabebkffcmajkaaDoor

/-! Law walk: InodeApplies. (Printed by mk_LA1.py.) -/
namespace Go.Proofs.YtabebkffcmajkaaDoor
open Go.RowKit Go.Maps Go.Shelf
attribute [local go_sem] quietV loudUpon Oper.semAt_some

/-- what the reference answered, in a variable -/
def AfterRef (w0 wx : World) (n2 : NodeD) (er : Int) (s5 s6 : Value) : Prop := ∃ q vm vn vl, s5 = .pointer (some ⟨q, 0, none⟩) ∧ s6 = .int .i64 er ∧ Blk wx q 31 (nodeC n2 vm vn vl) ∧ ListAt encRun 3 wx vm n2.map ∧ ListAt encDent 2 wx vn n2.names ∧ ListAt encInt 1 wx vl n2.log ∧ Mod None_ w0 wx
theorem fresh_ne {α : Type} {w : World} {v0 v : Value} {l : List α} (h : Fresh w v0 v l.length) {q : Nat} (h1 : ∀ g, v0.ownBlock = some g → g ≠ q) (h2 : q < w.heap.size) : 0 < l.length → ∀ g, v.ownBlock = some g → ¬ g = q := fun h0 g hg e => by
  rcases h h0 with h3 | h3
  · subst h3; exact h1 g hg e
  · have := h3 g hg; omega
theorem listAt_lt {α : Type} {enc : α → List Value} {sz : Nat} {w : World} {v : Value} {l : List α} (h : ListAt enc sz w v l) (h0 : 0 < l.length) {g : Nat} (hg : v.ownBlock = some g) : g < w.heap.size := by
  obtain ⟨A, c, rfl, _, _, h4⟩ := h
  obtain ⟨g2, o, rfl, hg2, _⟩ := h4 h0
  have e2 : some g2 = some g := hg
  cases e2
  exact hg2
theorem listAt_one {α : Type} {enc : α → List Value} {sz : Nat} {w : World} {v : Value} {l : List α} (h : ListAt enc sz w v l) : v.oneCell' = true := by obtain ⟨_, _, rfl, _⟩ := h; rfl
def markR (k : Int) : RunD := ⟨k, 0, 0⟩
def markD (k : Int) : ByteArray × Int := (⟨#[]⟩, k)

set_option maxRecDepth 100000 in
set_option maxHeartbeats 16000000 in
theorem lawApplies (w : World) (n : NodeD) (vm vn vl : Value) (e : EntD) (hs : Steps w) (h : NodeIn w n vm vn vl) (_ : n.Ints) : Calls Tryd.prog 5 #[.agg (nodeC n vm vn vl), .agg (encEntry e).toArray] w (BoolPost w true) := by
  obtain ⟨Am, cm, rfl, _, hcm2, _⟩ := id h.map
  obtain ⟨An, cn, rfl, _, hcn2, _⟩ := id h.names
  obtain ⟨Al, cl, rfl, _, hcl2, _⟩ := id h.log
  obtain ⟨q2, hm⟩ : ∃ m, m = w.heap.size := ⟨_, rfl⟩
  obtain ⟨w0, hw0⟩ : ∃ w0, w0 = (w.alloc (.cells (nodeC n (.slice Am n.map.length cm) (.slice An n.names.length cn) (.slice Al n.log.length cl)) 31)).alloc (.cells (encEntry e).toArray 26) := ⟨_, rfl⟩
  have hM0 : Mod None_ w w0 := by rw [hw0]; exact ((Mod.refl _ w).alloc _).alloc _
  have bn : Blk w0 q2 31 (nodeC n (.slice Am n.map.length cm) (.slice An n.names.length cn) (.slice Al n.log.length cl)) := by rw [hw0, hm]; exact (Blk.new w 31 _).alloc _
  have be : Blk w0 (q2 + 1) 26 (encEntry e).toArray := by
    have := Blk.new (w.alloc (.cells (nodeC n (.slice Am n.map.length cm) (.slice An n.names.length cn) (.slice Al n.log.length cl)) 31)) 26 (encEntry e).toArray
    rw [← hw0, alloc_size, ← hm] at this
    exact this
  have HS := hide (hs.kept hM0)
  have HN := hide (h.kept hM0)
  have HM := hide hM0
  have BN := hide bn
  have BE := hide be
  have HI2 := hide (infoNode n (.slice Am n.map.length cm) (.slice An n.names.length cn) (.slice Al n.log.length cl))
  have HW0 := hide hw0
  have HQ2 := hide hm
  clear hw0 hm hs h hM0 bn be
  go_enter Tryd.func5, Tryd.ntmps5
  go_upto_region 1 with fail
  try simp only [alloc_size]
  rw [← HQ2.out, ← HW0.out]
  clear HQ2 HW0
  go_wp2_with ((with_reducible refine at_slot 13 ?_); refine wpList_val rfl (ex_load rfl (run_loadRow BN.out Tryd.underlying31 rfl HI2.out)) ?_; go_frame)
  refine Calls.mono (lawSmall w0 n (.slice Am n.map.length cm) (.slice An n.names.length cn) (.slice Al n.log.length cl) HN.out) ?_
  rintro x w1 ⟨rfl, hm⟩
  replace HS := hide (HS.out.kept hm)
  replace HM := hide (HM.out.trans hm)
  replace HN := hide (HN.out.kept hm)
  replace BN := hide (BN.out.mod hm id)
  replace BE := hide (BE.out.mod hm id)
  clear hm
  cases hsm : smallB n with
  | false =>
    have HF := hide HM.out
    clear hsm
    go_wp2
    go_ret
    exact ⟨rfl, HF.out⟩
  | true =>
    have HSM := hide hsm
    have hlen : n.map.length ≤ 2000 ∧ n.names.length ≤ 2000 ∧ n.log.length ≤ 2000 := by simp only [smallB, Bool.and_eq_true, decide_eq_true_eq] at hsm; exact hsm
    obtain ⟨hl1, hl2, hl3⟩ := hlen
    clear hsm
    go_upto_region 3 with fail
    go_cut [5, 6] from 16 to 22 (fun s5 s6 wx => AfterRef w1 wx (nodeA n e) (errA n e) s5 s6)
    case first =>
      have i1 := BN.out
      have i2 := BE.out
      have hN := HN.out
      have HI := HI2
      clear HI2
      refine region_sch sigApply (fun w' => Blk w' q2 31 (nodeC n (.slice Am n.map.length cm) (.slice An n.names.length cn) (.slice Al n.log.length cl)) ∧ Blk w' (q2 + 1) 26 (encEntry e).toArray) (by kernel_rfl) (by kernel_rfl) ?_
      rintro wA hwA
      have hmA : Mod None_ w1 wA := by rw [hwA]; exact (Mod.refl _ w1).drew
      replace i1 := i1.mod hmA id
      replace i2 := i2.mod hmA id
      replace hN := hN.kept hmA
      have hMc := hmA
      clear hwA hmA
      refine ⟨⟨i1, i2⟩, ?_⟩
      unfold sigApply
      refine scw_qval rfl rfl (fun w' i => ex_load rfl (run_loadRow i.1 Tryd.underlying31 rfl HI.out)) ?_
      go_frame
      refine scw_qval rfl rfl (fun w' i => ex_load rfl (run_loadRow i.2 Tryd.underlying26 rfl (infoEnt _))) ?_
      go_frame
      refine scw_two ?_ ?_
      · refine scw_loud rfl (fun K hK => ?_)
        go_simp
        refine Calls.mono (lawCopy wA n (.slice Am n.map.length cm) (.slice An n.names.length cn) (.slice Al n.log.length cl) hN (HSM.out)) ?_
        rintro x wB1 ⟨um, un, ul, rfl, hO1, hm⟩
        replace i1 := i1.mod hm id
        replace i2 := i2.mod hm id
        replace hN := hN.kept hm
        replace hMc := hMc.trans hm
        refine ⟨_, rfl, ⟨i1, i2⟩, hK _ _ ?_⟩
        clear hK K hm
        try go_frame
        refine scw_two ?_ ?_
        · have hNc := hO1.in_ hN
          refine scw_loud rfl (fun K hK => ?_)
          go_simp
          refine Calls.mono (refApply_fresh wB1 n um un ul e hNc (HSM.out)) ?_
          rintro x wB2 ⟨xm, xn, xl, rfl, hLm, hLn, hLl, hm, hFm, hFn, hFl⟩
          replace i1 := i1.mod hm id
          replace i2 := i2.mod hm id
          replace hN := hN.kept hm
          replace hMc := hMc.trans hm
          refine ⟨_, rfl, ⟨i1, i2⟩, hK _ _ ?_⟩
          clear hK K hm hNc hFm hFn hFl hO1
          try go_frame
          iterate 3 (refine scw_quiet rfl (fun w' i K hK => by go_simp; exact hK) ?_; go_frame)
          obtain ⟨Q, hQ⟩ : ∃ Q, Q = wB2.heap.size := ⟨_, rfl⟩
          obtain ⟨wB3, hw⟩ : ∃ y, y = wB2.alloc (.cells zeroNode 31) := ⟨_, rfl⟩
          have hm : Mod None_ wB2 wB3 := by rw [hw]; exact (Mod.refl _ wB2).alloc _
          have bQ : Blk wB3 Q 31 zeroNode := by rw [hw, hQ]; exact Blk.new wB2 _ _
          have hQ1 : q2 < Q := by rw [hQ]; exact i1.lt
          have hQ2 : (q2 + 1) < Q := by rw [hQ]; exact i2.lt
          have hQ3 : w1.heap.size ≤ Q := by rw [hQ]; exact hMc.size
          replace i1 := i1.mod hm id
          replace i2 := i2.mod hm id
          replace hN := hN.kept hm
          replace hMc := hMc.trans hm
          have hQm : 0 < (nodeA n e).map.length → ∀ g, xm.ownBlock = some g → ¬ g = Q := fun h0 g hg e => by have := listAt_lt hLm h0 hg; omega
          have hQn : 0 < (nodeA n e).names.length → ∀ g, xn.ownBlock = some g → ¬ g = Q := fun h0 g hg e => by have := listAt_lt hLn h0 hg; omega
          have hQl : 0 < (nodeA n e).log.length → ∀ g, xl.ownBlock = some g → ¬ g = Q := fun h0 g hg e => by have := listAt_lt hLl h0 hg; omega
          replace hLm := hLm.kept hm
          replace hLn := hLn.kept hm
          replace hLl := hLl.kept hm
          refine scw_alloc rfl rfl 31 rfl (.agg zeroNode) zeroNodeV ?_ ?_
          · rw [show (Value.agg zeroNode).cells = zeroNode from rfl, ← hw]; exact ⟨i1, i2⟩
          rw [show (Value.agg zeroNode).cells = zeroNode from rfl, ← hw, ← hQ]
          try go_frame
          clear hw hQ hm
          have HIo := hide (infoNode (nodeA n e) xm xn xl)
          have HOo := hide (nodeC_one (nodeA n e) xm xn xl (listAt_one hLm) (listAt_one hLn) (listAt_one hLl))
          have hms : Mod (· = Q) wB3 (wB3.setRow Q (nodeC (nodeA n e) xm xn xl)) := (Mod.refl (· = Q) wB3).setRow (.inr rfl) _
          refine scw_storeRow rfl rfl 31 (.tmp 5) (.tmp 21) rfl Q (nodeC (nodeA n e) xm xn xl) rfl rfl 31 zeroNode bQ HIo.out rfl HOo.out ⟨i1.mod hms (by omega), i2.mod hms (by omega)⟩ ?_
          replace hLm := hLm.modX hms hQm
          replace hLn := hLn.modX hms hQn
          replace hLl := hLl.modX hms hQl
          replace bQ := bQ.row (nodeC (nodeA n e) xm xn xl)
          replace hMc : Mod None_ w1 (wB3.setRow Q (nodeC (nodeA n e) xm xn xl)) := hMc.trans' hms (fun g hg e => by omega)
          obtain ⟨wB4, hw⟩ : ∃ y, y = wB3.setRow Q (nodeC (nodeA n e) xm xn xl) := ⟨_, rfl⟩
          rw [← hw] at hLm hLn hLl bQ hMc ⊢
          try go_frame
          clear hw hms i1 i2 hN HIo HOo
          iterate 1 (refine scw_quiet rfl (fun w' i K hK => by go_simp; exact hK) ?_; go_frame)
          refine scw_nil ?_
          go_wp2_with fail
          go_meet
          exact ⟨Q, xm, xn, xl, rfl, rfl, bQ, hLm, hLn, hLl, hMc⟩
        · obtain ⟨Q, hQ⟩ : ∃ Q, Q = wB1.heap.size := ⟨_, rfl⟩
          obtain ⟨wB2, hw⟩ : ∃ y, y = wB1.alloc (.cells zeroNode 31) := ⟨_, rfl⟩
          have hm : Mod None_ wB1 wB2 := by rw [hw]; exact (Mod.refl _ wB1).alloc _
          have bQ : Blk wB2 Q 31 zeroNode := by rw [hw, hQ]; exact Blk.new wB1 _ _
          have hQ1 : q2 < Q := by rw [hQ]; exact i1.lt
          have hQ2 : (q2 + 1) < Q := by rw [hQ]; exact i2.lt
          have hQ3 : w1.heap.size ≤ Q := by rw [hQ]; exact hMc.size
          replace i1 := i1.mod hm id
          replace i2 := i2.mod hm id
          replace hN := hN.kept hm
          replace hMc := hMc.trans hm
          replace hO1 := hO1.kept hm
          refine scw_alloc rfl rfl 31 rfl (.agg zeroNode) zeroNodeV ?_ ?_
          · rw [show (Value.agg zeroNode).cells = zeroNode from rfl, ← hw]; exact ⟨i1, i2⟩
          rw [show (Value.agg zeroNode).cells = zeroNode from rfl, ← hw, ← hQ]
          try go_frame
          clear hw hQ hm
          have hNc := hO1.in_ hN
          refine scw_loud rfl (fun K hK => ?_)
          go_simp
          refine Calls.mono (refApply_fresh wB2 n um un ul e hNc (HSM.out)) ?_
          rintro x wB3 ⟨xm, xn, xl, rfl, hLm, hLn, hLl, hm, hFm, hFn, hFl⟩
          have hQm := fresh_ne hFm (fun g hg e => own_ne hO1.map bQ (by decide) hg e.symm) bQ.lt
          have hQn := fresh_ne hFn (fun g hg e => own_ne hO1.names bQ (by decide) hg e.symm) bQ.lt
          have hQl := fresh_ne hFl (fun g hg e => own_ne hO1.log bQ (by decide) hg e.symm) bQ.lt
          replace bQ := bQ.mod hm id
          replace i1 := i1.mod hm id
          replace i2 := i2.mod hm id
          replace hN := hN.kept hm
          replace hMc := hMc.trans hm
          refine ⟨_, rfl, ⟨i1, i2⟩, hK _ _ ?_⟩
          clear hK K hm hNc hFm hFn hFl hO1
          try go_frame
          iterate 3 (refine scw_quiet rfl (fun w' i K hK => by go_simp; exact hK) ?_; go_frame)
          have HIo := hide (infoNode (nodeA n e) xm xn xl)
          have HOo := hide (nodeC_one (nodeA n e) xm xn xl (listAt_one hLm) (listAt_one hLn) (listAt_one hLl))
          have hms : Mod (· = Q) wB3 (wB3.setRow Q (nodeC (nodeA n e) xm xn xl)) := (Mod.refl (· = Q) wB3).setRow (.inr rfl) _
          refine scw_storeRow rfl rfl 31 (.tmp 5) (.tmp 21) rfl Q (nodeC (nodeA n e) xm xn xl) rfl rfl 31 zeroNode bQ HIo.out rfl HOo.out ⟨i1.mod hms (by omega), i2.mod hms (by omega)⟩ ?_
          replace hLm := hLm.modX hms hQm
          replace hLn := hLn.modX hms hQn
          replace hLl := hLl.modX hms hQl
          replace bQ := bQ.row (nodeC (nodeA n e) xm xn xl)
          replace hMc : Mod None_ w1 (wB3.setRow Q (nodeC (nodeA n e) xm xn xl)) := hMc.trans' hms (fun g hg e => by omega)
          obtain ⟨wB4, hw⟩ : ∃ y, y = wB3.setRow Q (nodeC (nodeA n e) xm xn xl) := ⟨_, rfl⟩
          rw [← hw] at hLm hLn hLl bQ hMc ⊢
          try go_frame
          clear hw hms i1 i2 hN HIo HOo
          iterate 1 (refine scw_quiet rfl (fun w' i K hK => by go_simp; exact hK) ?_; go_frame)
          refine scw_nil ?_
          go_wp2_with fail
          go_meet
          exact ⟨Q, xm, xn, xl, rfl, rfl, bQ, hLm, hLn, hLl, hMc⟩
      · obtain ⟨Q, hQ⟩ : ∃ Q, Q = wA.heap.size := ⟨_, rfl⟩
        obtain ⟨wB1, hw⟩ : ∃ y, y = wA.alloc (.cells zeroNode 31) := ⟨_, rfl⟩
        have hm : Mod None_ wA wB1 := by rw [hw]; exact (Mod.refl _ wA).alloc _
        have bQ : Blk wB1 Q 31 zeroNode := by rw [hw, hQ]; exact Blk.new wA _ _
        have hQ1 : q2 < Q := by rw [hQ]; exact i1.lt
        have hQ2 : (q2 + 1) < Q := by rw [hQ]; exact i2.lt
        have hQ3 : w1.heap.size ≤ Q := by rw [hQ]; exact hMc.size
        replace i1 := i1.mod hm id
        replace i2 := i2.mod hm id
        replace hN := hN.kept hm
        replace hMc := hMc.trans hm
        refine scw_alloc rfl rfl 31 rfl (.agg zeroNode) zeroNodeV ?_ ?_
        · rw [show (Value.agg zeroNode).cells = zeroNode from rfl, ← hw]; exact ⟨i1, i2⟩
        rw [show (Value.agg zeroNode).cells = zeroNode from rfl, ← hw, ← hQ]
        try go_frame
        clear hw hQ hm
        refine scw_loud rfl (fun K hK => ?_)
        go_simp
        refine Calls.mono (lawCopy wB1 n (.slice Am n.map.length cm) (.slice An n.names.length cn) (.slice Al n.log.length cl) hN (HSM.out)) ?_
        rintro x wB2 ⟨um, un, ul, rfl, hO1, hm⟩
        replace i1 := i1.mod hm id
        replace i2 := i2.mod hm id
        replace hN := hN.kept hm
        replace hMc := hMc.trans hm
        replace bQ := bQ.mod hm id
        refine ⟨_, rfl, ⟨i1, i2⟩, hK _ _ ?_⟩
        clear hK K hm
        try go_frame
        have hNc := hO1.in_ hN
        refine scw_loud rfl (fun K hK => ?_)
        go_simp
        refine Calls.mono (refApply_fresh wB2 n um un ul e hNc (HSM.out)) ?_
        rintro x wB3 ⟨xm, xn, xl, rfl, hLm, hLn, hLl, hm, hFm, hFn, hFl⟩
        have hQm := fresh_ne hFm (fun g hg e => own_ne hO1.map bQ (by decide) hg e.symm) bQ.lt
        have hQn := fresh_ne hFn (fun g hg e => own_ne hO1.names bQ (by decide) hg e.symm) bQ.lt
        have hQl := fresh_ne hFl (fun g hg e => own_ne hO1.log bQ (by decide) hg e.symm) bQ.lt
        replace bQ := bQ.mod hm id
        replace i1 := i1.mod hm id
        replace i2 := i2.mod hm id
        replace hN := hN.kept hm
        replace hMc := hMc.trans hm
        refine ⟨_, rfl, ⟨i1, i2⟩, hK _ _ ?_⟩
        clear hK K hm hNc hFm hFn hFl hO1
        try go_frame
        iterate 3 (refine scw_quiet rfl (fun w' i K hK => by go_simp; exact hK) ?_; go_frame)
        have HIo := hide (infoNode (nodeA n e) xm xn xl)
        have HOo := hide (nodeC_one (nodeA n e) xm xn xl (listAt_one hLm) (listAt_one hLn) (listAt_one hLl))
        have hms : Mod (· = Q) wB3 (wB3.setRow Q (nodeC (nodeA n e) xm xn xl)) := (Mod.refl (· = Q) wB3).setRow (.inr rfl) _
        refine scw_storeRow rfl rfl 31 (.tmp 5) (.tmp 21) rfl Q (nodeC (nodeA n e) xm xn xl) rfl rfl 31 zeroNode bQ HIo.out rfl HOo.out ⟨i1.mod hms (by omega), i2.mod hms (by omega)⟩ ?_
        replace hLm := hLm.modX hms hQm
        replace hLn := hLn.modX hms hQn
        replace hLl := hLl.modX hms hQl
        replace bQ := bQ.row (nodeC (nodeA n e) xm xn xl)
        replace hMc : Mod None_ w1 (wB3.setRow Q (nodeC (nodeA n e) xm xn xl)) := hMc.trans' hms (fun g hg e => by omega)
        obtain ⟨wB4, hw⟩ : ∃ y, y = wB3.setRow Q (nodeC (nodeA n e) xm xn xl) := ⟨_, rfl⟩
        rw [← hw] at hLm hLn hLl bQ hMc ⊢
        try go_frame
        clear hw hms i1 i2 hN HIo HOo
        iterate 1 (refine scw_quiet rfl (fun w' i K hK => by go_simp; exact hK) ?_; go_frame)
        refine scw_nil ?_
        go_wp2_with fail
        go_meet
        exact ⟨Q, xm, xn, xl, rfl, rfl, bQ, hLm, hLn, hLl, hMc⟩
    obtain ⟨q5, bm, bnn, bl, rfl, rfl, b5, hLm, hLn, hLl, hm⟩ := hcut
    obtain ⟨w2, hwx⟩ : ∃ x, x = wc := ⟨_, rfl⟩
    rw [← hwx] at b5 hLm hLn hLl hm ⊢
    have hfa := apply_facts n e
    rw [apply_node n e] at hfa
    have HB := hide (show NodeIn w2 (nodeA n e) bm bnn bl from ⟨hLm, hLn, hLl, hfa.1, hfa.2.1, hfa.2.2⟩)
    have B5 := hide b5
    clear hwx b5 hLm hLn hLl hfa
    replace HS := hide (HS.out.kept hm)
    replace HM := hide (HM.out.trans hm)
    replace HN := hide (HN.out.kept hm)
    replace BN := hide (BN.out.mod hm id)
    replace BE := hide (BE.out.mod hm id)
    clear hm
    have hln : ∀ w A (n c : Nat), (Builtin.len_ #[28] 3 #[.slice A n c]).run Tryd.prog w = .ok (.int .i64 n) w := fun w A n c => by simp [Builtin.len_, run_underlying Tryd.underlying28]; rfl
    have hlm : ∀ w A (n c : Nat), (Builtin.len_ #[27] 3 #[.slice A n c]).run Tryd.prog w = .ok (.int .i64 n) w := fun w A n c => by simp [Builtin.len_, run_underlying Tryd.underlying27]; rfl
    have hll : ∀ w A (n c : Nat), (Builtin.len_ #[29] 3 #[.slice A n c]).run Tryd.prog w = .ok (.int .i64 n) w := fun w A n c => by simp [Builtin.len_, run_underlying Tryd.underlying29]; rfl
    go_wp2_with ((with_reducible refine at_slot 23 ?_); refine wpList_val rfl (ex_load rfl (run_loadRow BN.out Tryd.underlying31 rfl HI2.out)) ?_; go_frame)
    have HCY := hide (lawCopy w2 n (.slice Am n.map.length cm) (.slice An n.names.length cn) (.slice Al n.log.length cl) HN.out HSM.out)
    refine Calls.mono HCY.out ?_
    rintro x w3 ⟨um, un, ul, rfl, hO, hm3⟩
    clear HCY
    have HI7 := hide (infoNode n um un ul)
    have HO7 := hide (nodeOwn_one hO)
    obtain ⟨q7, hq⟩ : ∃ q, q = w3.heap.size := ⟨_, rfl⟩
    obtain ⟨w4, hw⟩ : ∃ y, y = w3.alloc (.cells (nodeC n um un ul) 31) := ⟨_, rfl⟩
    have hm4 : Mod None_ w3 w4 := by rw [hw]; exact (Mod.refl _ w3).alloc _
    have b7 : Blk w4 q7 31 (nodeC n um un ul) := by rw [hw, hq]; exact Blk.new w3 _ _
    have hq7 : w2.heap.size ≤ q7 := by have := hm3.size; omega
    have HW4 := hide hw
    have HQ7 := hide hq
    clear hw hq
    replace hO := hO.kept hm4
    have hM4 := hm3.trans hm4
    clear hm3 hm4
    go_upto_region 5 with ((with_reducible refine at_slot 7 ?_); refine wpList_declare rfl rfl 31 7 (.tmp 24) rfl rfl rfl zeroNode (nodeC n um un ul) zeroNodeV HI7.out (nodeC_size _ _ _ _) HO7.out (by simp) rfl ?_; go_frame; rw [← HW4.out, ← HQ7.out])
    clear HW4 HQ7 HI7 HO7
    obtain ⟨im, him, hzm, hsm_, hbm⟩ := info_parts infoRun
    obtain ⟨id_, hid, hzd, hsd, hbd⟩ := info_parts info36
    obtain ⟨ii, hii, hzi, hsi, hbi⟩ := info_parts infoInt
    have oM := hO.map
    have oN := hO.names
    have oL := hO.log
    clear hO
    obtain ⟨wI, hwI⟩ : ∃ y, y = w4.alloc (.cells #[.int .i64 5, .int .i64 0, .int .i64 0, .int .i64 6, .int .i64 0, .int .i64 0] 49) := ⟨_, rfl⟩
    have hmI : Mod None_ w4 wI := by rw [hwI]; exact (Mod.refl _ w4).alloc _
    have hmk : wI.ownsRow w4.heap.size 49 3 (.slice (some ⟨w4.heap.size, 0, none⟩) 2 2) 2 (rowOf encRun [markR 5, markR 6]) := by
      have hb : Blk wI w4.heap.size 49 (rowOf encRun [markR 5, markR 6]).toArray := by rw [hwI]; exact Blk.new w4 _ _
      exact ⟨rfl, .inr ⟨w4.heap.size, 2, _, rfl, Nat.le_refl _, hb, Nat.le_refl _, by unfold maxLen; omega, rfl, rfl⟩⟩
    have HRD := hide (ListAt.reads (enc := encRun) (sz := 3) (l := [markR 5, markR 6]) (fun _ => rfl) (by omega) (list_of_ownRow (enc := encRun) (l := [markR 5, markR 6]) (fun _ => rfl) hmk))
    have HOW := hide (own_mod oM hmI (fun _ _ f => f))
    have HWI := hide hwI
    have hwsz : w2.heap.size ≤ wI.heap.size := Nat.le_trans hM4.size hmI.size
    have yc : w4.cell? ⟨q7, 4, none⟩ = some um := b7.cell 4
    clear hmk hwI
    go_upto_region 6 with ((with_reducible refine at_slot 30 ?_); rw [← HWI.out]; refine wpList_append_any _ rfl (.tmp 26) (.tmp 29) 27 rfl w2.heap.size 49 im _ 3 24 Tryd.underlying27 him hzm hsm_ hbm rfl (by omega) _ n.map.length _ rfl HOW.out wI.heap.size (some ⟨w4.heap.size, 0, none⟩) 2 2 _ rfl HRD.out (rowOf_one oneRun _) (by unfold maxLen; omega) (by omega) hwsz ?_; intro v9 w5 hown2 hg2 hat2; go_frame)
    have hm2 := Mod.of_grown hg2
    replace hM4 := (hM4.trans hmI).trans' hm2 (fun g hg e => by have := (own_blk HOW.out e.symm).1; omega)
    replace b7 := (b7.mod hmI id).mod hm2 (fun e => (own_ne HOW.out (b7.mod hmI id) (by decide) e.symm) rfl)
    replace oN := own_mod (own_mod oN hmI (fun _ _ f => f)) hm2 (fun g hg e => by obtain ⟨_, d1, h1⟩ := own_blk (own_mod oN hmI (fun _ _ f => f)) hg; obtain ⟨_, d2, h2⟩ := own_blk HOW.out e.symm; rw [h1] at h2; simp at h2)
    replace oL := own_mod (own_mod oL hmI (fun _ _ f => f)) hm2 (fun g hg e => by obtain ⟨_, d1, h1⟩ := own_blk (own_mod oL hmI (fun _ _ f => f)) hg; obtain ⟨_, d2, h2⟩ := own_blk HOW.out e.symm; rw [h1] at h2; simp at h2)
    rw [show rowOf encRun n.map ++ rowOf encRun [markR 5, markR 6] = rowOf encRun (n.map ++ [markR 5, markR 6]) from by simp [rowOf], show n.map.length + 2 = (n.map ++ [markR 5, markR 6]).length from by simp] at hown2
    obtain ⟨A4, c4, rfl⟩ := own_slice hown2
    have p4 := hown2
    clear hown2 hg2 hat2 hm2 hmI HOW HRD HWI hwsz yc oM
    obtain ⟨wI, hwI⟩ : ∃ y, y = w5.alloc (.cells #[.string ⟨#[]⟩, .int .i64 5, .string ⟨#[]⟩, .int .i64 6] 51) := ⟨_, rfl⟩
    have hmI : Mod None_ w5 wI := by rw [hwI]; exact (Mod.refl _ w5).alloc _
    have hmk : wI.ownsRow w5.heap.size 51 2 (.slice (some ⟨w5.heap.size, 0, none⟩) 2 2) 2 (rowOf encDent [markD 5, markD 6]) := by
      have hb : Blk wI w5.heap.size 51 (rowOf encDent [markD 5, markD 6]).toArray := by rw [hwI]; exact Blk.new w5 _ _
      exact ⟨rfl, .inr ⟨w5.heap.size, 2, _, rfl, Nat.le_refl _, hb, Nat.le_refl _, by unfold maxLen; omega, rfl, rfl⟩⟩
    have HRD := hide (ListAt.reads (enc := encDent) (sz := 2) (l := [markD 5, markD 6]) (fun _ => rfl) (by omega) (list_of_ownRow (enc := encDent) (l := [markD 5, markD 6]) (fun _ => rfl) hmk))
    have HOW := hide (own_mod oN hmI (fun _ _ f => f))
    have HWI := hide hwI
    have hwsz : w2.heap.size ≤ wI.heap.size := Nat.le_trans hM4.size hmI.size
    have yc : w5.cell? ⟨q7, 5, none⟩ = some un := b7.cell 5
    clear hmk hwI
    go_upto_region 7 with ((with_reducible refine at_slot 36 ?_); rw [← HWI.out]; refine wpList_append_any _ rfl (.tmp 32) (.tmp 35) 28 rfl w2.heap.size 51 id_ _ 2 24 Tryd.underlying28 hid hzd hsd hbd rfl (by omega) _ n.names.length _ rfl HOW.out wI.heap.size (some ⟨w5.heap.size, 0, none⟩) 2 2 _ rfl HRD.out (rowOf_one oneDent _) (by unfold maxLen; omega) (by omega) hwsz ?_; intro v9 w6 hown2 hg2 hat2; go_frame)
    have hm2 := Mod.of_grown hg2
    replace hM4 := (hM4.trans hmI).trans' hm2 (fun g hg e => by have := (own_blk HOW.out e.symm).1; omega)
    replace b7 := (b7.mod hmI id).mod hm2 (fun e => (own_ne HOW.out (b7.mod hmI id) (by decide) e.symm) rfl)
    replace p4 := own_mod (own_mod p4 hmI (fun _ _ f => f)) hm2 (fun g hg e => by obtain ⟨_, d1, h1⟩ := own_blk (own_mod p4 hmI (fun _ _ f => f)) hg; obtain ⟨_, d2, h2⟩ := own_blk HOW.out e.symm; rw [h1] at h2; simp at h2)
    replace oL := own_mod (own_mod oL hmI (fun _ _ f => f)) hm2 (fun g hg e => by obtain ⟨_, d1, h1⟩ := own_blk (own_mod oL hmI (fun _ _ f => f)) hg; obtain ⟨_, d2, h2⟩ := own_blk HOW.out e.symm; rw [h1] at h2; simp at h2)
    rw [show rowOf encDent n.names ++ rowOf encDent [markD 5, markD 6] = rowOf encDent (n.names ++ [markD 5, markD 6]) from by simp [rowOf], show n.names.length + 2 = (n.names ++ [markD 5, markD 6]).length from by simp] at hown2
    obtain ⟨A5, c5, rfl⟩ := own_slice hown2
    have p5 := hown2
    clear hown2 hg2 hat2 hm2 hmI HOW HRD HWI hwsz yc oN
    obtain ⟨wI, hwI⟩ : ∃ y, y = w6.alloc (.cells #[.int .i64 5, .int .i64 6] 3) := ⟨_, rfl⟩
    have hmI : Mod None_ w6 wI := by rw [hwI]; exact (Mod.refl _ w6).alloc _
    have hmk : wI.ownsRow w6.heap.size 3 1 (.slice (some ⟨w6.heap.size, 0, none⟩) 2 2) 2 (rowOf encInt [5, 6]) := by
      have hb : Blk wI w6.heap.size 3 (rowOf encInt [5, 6]).toArray := by rw [hwI]; exact Blk.new w6 _ _
      exact ⟨rfl, .inr ⟨w6.heap.size, 2, _, rfl, Nat.le_refl _, hb, Nat.le_refl _, by unfold maxLen; omega, rfl, rfl⟩⟩
    have HRD := hide (ListAt.reads (enc := encInt) (sz := 1) (l := [5, 6]) (fun _ => rfl) (by omega) (list_of_ownRow (enc := encInt) (l := [5, 6]) (fun _ => rfl) hmk))
    have HOW := hide (own_mod oL hmI (fun _ _ f => f))
    have HWI := hide hwI
    have hwsz : w2.heap.size ≤ wI.heap.size := Nat.le_trans hM4.size hmI.size
    have yc : w6.cell? ⟨q7, 8, none⟩ = some ul := b7.cell 8
    clear hmk hwI
    go_upto_region 8 with ((with_reducible refine at_slot 40 ?_); rw [← HWI.out]; refine wpList_append_any _ rfl (.tmp 38) (.tmp 39) 29 rfl w2.heap.size 3 ii _ 1 8 Tryd.underlying29 hii hzi hsi hbi rfl (by omega) _ n.log.length _ rfl HOW.out wI.heap.size (some ⟨w6.heap.size, 0, none⟩) 2 2 _ rfl HRD.out (rowOf_one oneInt _) (by unfold maxLen; omega) (by omega) hwsz ?_; intro v9 w7 hown2 hg2 hat2; go_frame)
    have hm2 := Mod.of_grown hg2
    replace hM4 := (hM4.trans hmI).trans' hm2 (fun g hg e => by have := (own_blk HOW.out e.symm).1; omega)
    replace b7 := (b7.mod hmI id).mod hm2 (fun e => (own_ne HOW.out (b7.mod hmI id) (by decide) e.symm) rfl)
    replace p4 := own_mod (own_mod p4 hmI (fun _ _ f => f)) hm2 (fun g hg e => by obtain ⟨_, d1, h1⟩ := own_blk (own_mod p4 hmI (fun _ _ f => f)) hg; obtain ⟨_, d2, h2⟩ := own_blk HOW.out e.symm; rw [h1] at h2; simp at h2)
    replace p5 := own_mod (own_mod p5 hmI (fun _ _ f => f)) hm2 (fun g hg e => by obtain ⟨_, d1, h1⟩ := own_blk (own_mod p5 hmI (fun _ _ f => f)) hg; obtain ⟨_, d2, h2⟩ := own_blk HOW.out e.symm; rw [h1] at h2; simp at h2)
    rw [show rowOf encInt n.log ++ rowOf encInt [5, 6] = rowOf encInt (n.log ++ [5, 6]) from by simp [rowOf], show n.log.length + 2 = (n.log ++ [5, 6]).length from by simp] at hown2
    obtain ⟨A8, c8, rfl⟩ := own_slice hown2
    have p8 := hown2
    clear hown2 hg2 hat2 hm2 hmI HOW HRD HWI hwsz yc oL
    have k4 : n.map.length ≤ c4 := by obtain ⟨_, _, hcv, hca, _, _⟩ := list_of_ownRow (enc := encRun) (fun _ => rfl) p4; simp only [Value.slice.injEq, true_and] at hcv; obtain ⟨rfl, rfl⟩ := hcv; simp at hca; omega
    have k5 : n.names.length ≤ c5 := by obtain ⟨_, _, hcv, hca, _, _⟩ := list_of_ownRow (enc := encDent) (fun _ => rfl) p5; simp only [Value.slice.injEq, true_and] at hcv; obtain ⟨rfl, rfl⟩ := hcv; simp at hca; omega
    have k8 : n.log.length ≤ c8 := by obtain ⟨_, _, hcv, hca, _, _⟩ := list_of_ownRow (enc := encInt) (fun _ => rfl) p8; simp only [Value.slice.injEq, true_and] at hcv; obtain ⟨rfl, rfl⟩ := hcv; simp at hca; omega
    have k4i : (n.map.length : Int) ≤ c4 := by omega
    have k5i : (n.names.length : Int) ≤ c5 := by omega
    have k8i : (n.log.length : Int) ≤ c8 := by omega
    have bN2 := BN.out.mod hM4 id
    have yc : w7.cell? ⟨q2, 4, none⟩ = some (.slice Am n.map.length cm) := bN2.cell 4
    have yf : w7.frozen? ⟨q7, 4, none⟩ = false := b7.frozen _
    have yg : w7.cell? ⟨q7, 4, none⟩ = some um := b7.cell 4
    go_upto_region 9 with fail
    obtain ⟨w8, hw⟩ : ∃ y, y = w7.setCell ⟨q7, 4, none⟩ (.slice A4 n.map.length c4) := ⟨_, rfl⟩
    rw [← hw]
    have hs2 : Mod (· = q7) w7 w8 := by rw [hw]; exact (Mod.refl (· = q7) w7).setCell (p := ⟨q7, 4, none⟩) (.inr rfl) _
    have b7_ : Blk w8 q7 31 (nodeC n (.slice A4 n.map.length c4) un ul) := by
      have := b7.set_ 4 (.slice A4 n.map.length c4)
      rw [← hw] at this
      exact this
    replace p4 := own_mod p4 hs2 (fun g hg e => own_ne p4 b7 (by decide) hg e.symm)
    replace p5 := own_mod p5 hs2 (fun g hg e => own_ne p5 b7 (by decide) hg e.symm)
    replace p8 := own_mod p8 hs2 (fun g hg e => own_ne p8 b7 (by decide) hg e.symm)
    have hq27 : ¬ q2 = q7 := by have := BN.out.lt; omega
    replace bN2 := bN2.mod hs2 hq27
    replace hM4 := hM4.trans' hs2 (fun g hg e => by omega)
    clear b7
    have b7 := b7_
    clear b7_ hs2 hw yc yf yg hq27
    have yc : w8.cell? ⟨q2, 5, none⟩ = some (.slice An n.names.length cn) := bN2.cell 5
    have yf : w8.frozen? ⟨q7, 5, none⟩ = false := b7.frozen _
    have yg : w8.cell? ⟨q7, 5, none⟩ = some un := b7.cell 5
    go_upto_region 10 with fail
    obtain ⟨w9, hw⟩ : ∃ y, y = w8.setCell ⟨q7, 5, none⟩ (.slice A5 n.names.length c5) := ⟨_, rfl⟩
    rw [← hw]
    have hs2 : Mod (· = q7) w8 w9 := by rw [hw]; exact (Mod.refl (· = q7) w8).setCell (p := ⟨q7, 5, none⟩) (.inr rfl) _
    have b7_ : Blk w9 q7 31 (nodeC n (.slice A4 n.map.length c4) (.slice A5 n.names.length c5) ul) := by
      have := b7.set_ 5 (.slice A5 n.names.length c5)
      rw [← hw] at this
      exact this
    replace p4 := own_mod p4 hs2 (fun g hg e => own_ne p4 b7 (by decide) hg e.symm)
    replace p5 := own_mod p5 hs2 (fun g hg e => own_ne p5 b7 (by decide) hg e.symm)
    replace p8 := own_mod p8 hs2 (fun g hg e => own_ne p8 b7 (by decide) hg e.symm)
    have hq27 : ¬ q2 = q7 := by have := BN.out.lt; omega
    replace bN2 := bN2.mod hs2 hq27
    replace hM4 := hM4.trans' hs2 (fun g hg e => by omega)
    clear b7
    have b7 := b7_
    clear b7_ hs2 hw yc yf yg hq27
    have yc : w9.cell? ⟨q2, 8, none⟩ = some (.slice Al n.log.length cl) := bN2.cell 8
    have yf : w9.frozen? ⟨q7, 8, none⟩ = false := b7.frozen _
    have yg : w9.cell? ⟨q7, 8, none⟩ = some ul := b7.cell 8
    go_upto_region 11 with fail
    obtain ⟨w10, hw⟩ : ∃ y, y = w9.setCell ⟨q7, 8, none⟩ (.slice A8 n.log.length c8) := ⟨_, rfl⟩
    rw [← hw]
    have hs2 : Mod (· = q7) w9 w10 := by rw [hw]; exact (Mod.refl (· = q7) w9).setCell (p := ⟨q7, 8, none⟩) (.inr rfl) _
    have b7_ : Blk w10 q7 31 (nodeC n (.slice A4 n.map.length c4) (.slice A5 n.names.length c5) (.slice A8 n.log.length c8)) := by
      have := b7.set_ 8 (.slice A8 n.log.length c8)
      rw [← hw] at this
      exact this
    replace p4 := own_mod p4 hs2 (fun g hg e => own_ne p4 b7 (by decide) hg e.symm)
    replace p5 := own_mod p5 hs2 (fun g hg e => own_ne p5 b7 (by decide) hg e.symm)
    replace p8 := own_mod p8 hs2 (fun g hg e => own_ne p8 b7 (by decide) hg e.symm)
    have hq27 : ¬ q2 = q7 := by have := BN.out.lt; omega
    replace bN2 := bN2.mod hs2 hq27
    replace hM4 := hM4.trans' hs2 (fun g hg e => by omega)
    clear b7
    have b7 := b7_
    clear b7_ hs2 hw yc yf yg hq27
    have HM4 := hM4
    clear bN2 hM4 hq7 k4 k5 k8 k4i k5i k8i
    replace HS := hide (HS.out.kept HM4)
    replace HM := hide (HM.out.trans HM4)
    replace HN := hide (HN.out.kept HM4)
    replace BN := hide (BN.out.mod HM4 id)
    replace BE := hide (BE.out.mod HM4 id)
    replace HB := hide (HB.out.kept HM4)
    replace B5 := hide (B5.out.mod HM4 id)
    clear HM4
    have B7 := hide b7
    have P4 := hide p4
    have P5 := hide p5
    have P8 := hide p8
    clear b7 p4 p5 p8
    have HIC : Hid (NodeIn w10 n (.slice A4 n.map.length c4) (.slice A5 n.names.length c5) (.slice A8 n.log.length c8)) := hide ⟨(list_of_ownRow (enc := encRun) (fun _ => rfl) P4.out).front, (list_of_ownRow (enc := encDent) (fun _ => rfl) P5.out).front, (list_of_ownRow (enc := encInt) (fun _ => rfl) P8.out).front, HN.out.runs, HN.out.kind, HN.out.size⟩
    have HI7 := hide (infoNode n (.slice A4 n.map.length c4) (.slice A5 n.names.length c5) (.slice A8 n.log.length c8))
    go_wp2_with (first
      | ((with_reducible refine at_slot 60 ?_); refine wpList_val rfl (ex_load rfl (run_loadRow B7.out Tryd.underlying31 rfl HI7.out)) ?_; go_frame)
      | ((with_reducible refine at_slot 61 ?_); refine wpList_val rfl (ex_load rfl (run_loadRow BE.out Tryd.underlying26 rfl (infoEnt _))) ?_; go_frame))
    have HAP := hide (apply_any w10 n (.slice A4 n.map.length c4) (.slice A5 n.names.length c5) (.slice A8 n.log.length c8) e HS.out (HIC.out.at_ HSM.out) (by omega))
    refine Calls.mono (HAP.out) ?_
    rintro x w11 ⟨xm, xn, xl, rfl, hOa, hm⟩
    rw [apply_node n e, apply_err n e]
    rw [apply_node n e] at hOa
    clear HAP
    have hfa := apply_facts n e
    rw [apply_node n e] at hfa
    obtain ⟨NA, hNA⟩ : ∃ y, y = nodeA n e := ⟨_, rfl⟩
    obtain ⟨er, her⟩ : ∃ y, y = errA n e := ⟨_, rfl⟩
    rw [← hNA] at hOa hfa HB B5 ⊢
    rw [← her]
    clear hNA her
    replace HS := hide (HS.out.kept hm)
    replace HM := hide (HM.out.trans hm)
    replace HN := hide (HN.out.kept hm)
    replace BN := hide (BN.out.mod hm id)
    replace BE := hide (BE.out.mod hm id)
    replace HB := hide (HB.out.kept hm)
    replace B5 := hide (B5.out.mod hm id)
    replace B7 := hide (B7.out.mod hm id)
    replace P4 := hide (own_mod P4.out hm (fun _ _ f => f))
    replace P5 := hide (own_mod P5.out hm (fun _ _ f => f))
    replace P8 := hide (own_mod P8.out hm (fun _ _ f => f))
    replace HIC := hide (HIC.out.kept hm)
    clear hm
    have HA : Hid (NodeIn w11 NA xm xn xl) := hide ⟨list_of_ownRow (enc := encRun) (fun _ => rfl) hOa.map, list_of_ownRow (enc := encDent) (fun _ => rfl) hOa.names, list_of_ownRow (enc := encInt) (fun _ => rfl) hOa.log, hfa.1, hfa.2.1, hfa.2.2⟩
    have HI11 := hide (infoNode NA xm xn xl)
    have HO11 := hide (nodeOwn_one hOa)
    clear hOa hfa
    obtain ⟨q1_, hq⟩ : ∃ q, q = w11.heap.size := ⟨_, rfl⟩
    obtain ⟨w12, hw⟩ : ∃ y, y = w11.alloc (.cells (nodeC NA xm xn xl) 31) := ⟨_, rfl⟩
    have hm5_ : Mod None_ w11 w12 := by rw [hw]; exact (Mod.refl _ w11).alloc _
    have b2_ := hide (show Blk w12 q1_ 31 (nodeC NA xm xn xl) by rw [hw, hq]; exact Blk.new w11 _ _)
    have HW3_ := hide hw
    have HQ4_ := hide hq
    clear hw hq
    replace HS := hide (HS.out.kept hm5_)
    replace HM := hide (HM.out.trans hm5_)
    replace HN := hide (HN.out.kept hm5_)
    replace BN := hide (BN.out.mod hm5_ id)
    replace BE := hide (BE.out.mod hm5_ id)
    replace HB := hide (HB.out.kept hm5_)
    replace B5 := hide (B5.out.mod hm5_ id)
    replace B7 := hide (B7.out.mod hm5_ id)
    replace P4 := hide (own_mod P4.out hm5_ (fun _ _ f => f))
    replace P5 := hide (own_mod P5.out hm5_ (fun _ _ f => f))
    replace P8 := hide (own_mod P8.out hm5_ (fun _ _ f => f))
    replace HIC := hide (HIC.out.kept hm5_)
    replace HA := hide (HA.out.kept hm5_)
    clear hm5_
    go_upto_region 12 with ((with_reducible refine at_slot 11 ?_); refine wpList_declare rfl rfl 31 11 (.tmp 63) rfl rfl rfl zeroNode (nodeC NA xm xn xl) zeroNodeV HI11.out (nodeC_size _ _ _ _) HO11.out (by simp) rfl ?_; go_frame; rw [← HW3_.out, ← HQ4_.out])
    clear HW3_ HQ4_
    have u0 : w12.cell? ⟨q1_, 0, none⟩ = some (.int .i64 NA.ino) := b2_.out.cell 0
    have u1 : w12.cell? ⟨q1_, 1, none⟩ = some (.int .i64 NA.kind) := b2_.out.cell 1
    have u2 : w12.cell? ⟨q1_, 2, none⟩ = some (.int .i64 NA.links) := b2_.out.cell 2
    have u3 : w12.cell? ⟨q1_, 3, none⟩ = some (.int .i64 NA.size) := b2_.out.cell 3
    have u4 : w12.cell? ⟨q1_, 4, none⟩ = some (xm) := b2_.out.cell 4
    have u5 : w12.cell? ⟨q1_, 5, none⟩ = some (xn) := b2_.out.cell 5
    have u6 : w12.cell? ⟨q1_, 6, none⟩ = some (.int .i64 NA.head) := b2_.out.cell 6
    have u7 : w12.cell? ⟨q1_, 7, none⟩ = some (.int .i64 NA.tail) := b2_.out.cell 7
    have u8 : w12.cell? ⟨q1_, 8, none⟩ = some (xl) := b2_.out.cell 8
    have u9 : w12.cell? ⟨q1_, 9, none⟩ = some (.int .i64 NA.entries) := b2_.out.cell 9
    have v0 : w12.cell? ⟨q5, 0, none⟩ = some (.int .i64 NA.ino) := B5.out.cell 0
    have v1 : w12.cell? ⟨q5, 1, none⟩ = some (.int .i64 NA.kind) := B5.out.cell 1
    have v2 : w12.cell? ⟨q5, 2, none⟩ = some (.int .i64 NA.links) := B5.out.cell 2
    have v3 : w12.cell? ⟨q5, 3, none⟩ = some (.int .i64 NA.size) := B5.out.cell 3
    have v4 : w12.cell? ⟨q5, 4, none⟩ = some (bm) := B5.out.cell 4
    have v5 : w12.cell? ⟨q5, 5, none⟩ = some (bnn) := B5.out.cell 5
    have v6 : w12.cell? ⟨q5, 6, none⟩ = some (.int .i64 NA.head) := B5.out.cell 6
    have v7 : w12.cell? ⟨q5, 7, none⟩ = some (.int .i64 NA.tail) := B5.out.cell 7
    have v8 : w12.cell? ⟨q5, 8, none⟩ = some (bl) := B5.out.cell 8
    have v9 : w12.cell? ⟨q5, 9, none⟩ = some (.int .i64 NA.entries) := B5.out.cell 9
    go_wp2_with fail
    have HSN := hide (lawSameNode w12 NA xm xn xl bm bnn bl HA.out HB.out)
    refine Calls.mono (HSN.out) ?_
    rintro x w13 ⟨rfl, hm⟩
    clear HSN u0 u1 u2 u3 u4 u5 u6 u7 u8 u9 v0 v1 v2 v3 v4 v5 v6 v7 v8 v9
    replace HS := hide (HS.out.kept hm)
    replace HM := hide (HM.out.trans hm)
    replace HN := hide (HN.out.kept hm)
    replace BN := hide (BN.out.mod hm id)
    replace BE := hide (BE.out.mod hm id)
    replace HB := hide (HB.out.kept hm)
    replace B5 := hide (B5.out.mod hm id)
    replace B7 := hide (B7.out.mod hm id)
    replace P4 := hide (own_mod P4.out hm (fun _ _ f => f))
    replace P5 := hide (own_mod P5.out hm (fun _ _ f => f))
    replace P8 := hide (own_mod P8.out hm (fun _ _ f => f))
    replace HIC := hide (HIC.out.kept hm)
    replace HA := hide (HA.out.kept hm)
    replace b2_ := hide (b2_.out.mod hm id)
    clear hm
    clear HA HB B5 b2_
    have u0 : w13.cell? ⟨q7, 0, none⟩ = some (.int .i64 n.ino) := B7.out.cell 0
    have u1 : w13.cell? ⟨q7, 1, none⟩ = some (.int .i64 n.kind) := B7.out.cell 1
    have u2 : w13.cell? ⟨q7, 2, none⟩ = some (.int .i64 n.links) := B7.out.cell 2
    have u3 : w13.cell? ⟨q7, 3, none⟩ = some (.int .i64 n.size) := B7.out.cell 3
    have u4 : w13.cell? ⟨q7, 4, none⟩ = some (.slice A4 n.map.length c4) := B7.out.cell 4
    have u5 : w13.cell? ⟨q7, 5, none⟩ = some (.slice A5 n.names.length c5) := B7.out.cell 5
    have u6 : w13.cell? ⟨q7, 6, none⟩ = some (.int .i64 n.head) := B7.out.cell 6
    have u7 : w13.cell? ⟨q7, 7, none⟩ = some (.int .i64 n.tail) := B7.out.cell 7
    have u8 : w13.cell? ⟨q7, 8, none⟩ = some (.slice A8 n.log.length c8) := B7.out.cell 8
    have u9 : w13.cell? ⟨q7, 9, none⟩ = some (.int .i64 n.entries) := B7.out.cell 9
    have v0 : w13.cell? ⟨q2, 0, none⟩ = some (.int .i64 n.ino) := BN.out.cell 0
    have v1 : w13.cell? ⟨q2, 1, none⟩ = some (.int .i64 n.kind) := BN.out.cell 1
    have v2 : w13.cell? ⟨q2, 2, none⟩ = some (.int .i64 n.links) := BN.out.cell 2
    have v3 : w13.cell? ⟨q2, 3, none⟩ = some (.int .i64 n.size) := BN.out.cell 3
    have v4 : w13.cell? ⟨q2, 4, none⟩ = some (.slice Am n.map.length cm) := BN.out.cell 4
    have v5 : w13.cell? ⟨q2, 5, none⟩ = some (.slice An n.names.length cn) := BN.out.cell 5
    have v6 : w13.cell? ⟨q2, 6, none⟩ = some (.int .i64 n.head) := BN.out.cell 6
    have v7 : w13.cell? ⟨q2, 7, none⟩ = some (.int .i64 n.tail) := BN.out.cell 7
    have v8 : w13.cell? ⟨q2, 8, none⟩ = some (.slice Al n.log.length cl) := BN.out.cell 8
    have v9 : w13.cell? ⟨q2, 9, none⟩ = some (.int .i64 n.entries) := BN.out.cell 9
    go_wp2_with fail
    have HSN := hide (lawSameNode w13 n (.slice A4 n.map.length c4) (.slice A5 n.names.length c5) (.slice A8 n.log.length c8) (.slice Am n.map.length cm) (.slice An n.names.length cn) (.slice Al n.log.length cl) HIC.out HN.out)
    refine Calls.mono (HSN.out) ?_
    rintro x w14 ⟨rfl, hm⟩
    clear HSN u0 u1 u2 u3 u4 u5 u6 u7 u8 u9 v0 v1 v2 v3 v4 v5 v6 v7 v8 v9
    replace HS := hide (HS.out.kept hm)
    replace HM := hide (HM.out.trans hm)
    replace HN := hide (HN.out.kept hm)
    replace BN := hide (BN.out.mod hm id)
    replace BE := hide (BE.out.mod hm id)
    replace B7 := hide (B7.out.mod hm id)
    replace P4 := hide (own_mod P4.out hm (fun _ _ f => f))
    replace P5 := hide (own_mod P5.out hm (fun _ _ f => f))
    replace P8 := hide (own_mod P8.out hm (fun _ _ f => f))
    replace HIC := hide (HIC.out.kept hm)
    clear hm
    have v4 : w14.cell? ⟨q2, 4, none⟩ = some (.slice Am n.map.length cm) := BN.out.cell 4
    have v5 : w14.cell? ⟨q2, 5, none⟩ = some (.slice An n.names.length cn) := BN.out.cell 5
    have v8 : w14.cell? ⟨q2, 8, none⟩ = some (.slice Al n.log.length cl) := BN.out.cell 8
    obtain ⟨_, _, hcv, _, _, hcell⟩ := list_of_ownRow (enc := encRun) (fun _ => rfl) P4.out
    simp only [Value.slice.injEq, true_and] at hcv
    obtain ⟨rfl, rfl⟩ := hcv
    obtain ⟨g4, o4, rfl, hg, hc⟩ := hcell (by simp)
    have e5 : (n.map ++ [markR 5, markR 6])[n.map.length]'(by simp) = markR 5 := by rw [List.getElem_append_right (Nat.le_refl _)]; simp
    have e6 : (n.map ++ [markR 5, markR 6])[n.map.length + 1]'(by simp) = markR 6 := by rw [List.getElem_append_right (by omega)]; simp
    have x4a : w14.cell? ⟨g4, o4 + n.map.length * 3, none⟩ = some (.int .i64 5) := by
      have := hc n.map.length (by simp) 0 (.int .i64 5) (by rw [e5]; rfl)
      simpa using this
    have x4b : w14.cell? ⟨g4, o4 + (n.map.length + 1) * 3, none⟩ = some (.int .i64 6) := by
      have := hc (n.map.length + 1) (by simp) 0 (.int .i64 6) (by rw [e6]; rfl)
      simpa using this
    have i4 : (n.map.length : Int) < n.map.length + 2 := by omega
    clear hcell hg hc e5 e6
    obtain ⟨_, _, hcv, _, _, hcell⟩ := list_of_ownRow (enc := encDent) (fun _ => rfl) P5.out
    simp only [Value.slice.injEq, true_and] at hcv
    obtain ⟨rfl, rfl⟩ := hcv
    obtain ⟨g5, o5, rfl, hg, hc⟩ := hcell (by simp)
    have e5 : (n.names ++ [markD 5, markD 6])[n.names.length]'(by simp) = markD 5 := by rw [List.getElem_append_right (Nat.le_refl _)]; simp
    have e6 : (n.names ++ [markD 5, markD 6])[n.names.length + 1]'(by simp) = markD 6 := by rw [List.getElem_append_right (by omega)]; simp
    have x5a : w14.cell? ⟨g5, o5 + n.names.length * 2 + 1, none⟩ = some (.int .i64 5) := by
      have := hc n.names.length (by simp) 1 (.int .i64 5) (by rw [e5]; rfl)
      simpa using this
    have x5b : w14.cell? ⟨g5, o5 + (n.names.length + 1) * 2 + 1, none⟩ = some (.int .i64 6) := by
      have := hc (n.names.length + 1) (by simp) 1 (.int .i64 6) (by rw [e6]; rfl)
      simpa using this
    have i5 : (n.names.length : Int) < n.names.length + 2 := by omega
    clear hcell hg hc e5 e6
    obtain ⟨_, _, hcv, _, _, hcell⟩ := list_of_ownRow (enc := encInt) (fun _ => rfl) P8.out
    simp only [Value.slice.injEq, true_and] at hcv
    obtain ⟨rfl, rfl⟩ := hcv
    obtain ⟨g8, o8, rfl, hg, hc⟩ := hcell (by simp)
    have e5 : (n.log ++ [5, 6])[n.log.length]'(by simp) = 5 := by rw [List.getElem_append_right (Nat.le_refl _)]; simp
    have e6 : (n.log ++ [5, 6])[n.log.length + 1]'(by simp) = 6 := by rw [List.getElem_append_right (by omega)]; simp
    have x8a : w14.cell? ⟨g8, o8 + n.log.length, none⟩ = some (.int .i64 5) := by
      have := hc n.log.length (by simp) 0 (.int .i64 5) (by rw [e5]; rfl)
      simpa using this
    have x8b : w14.cell? ⟨g8, o8 + (n.log.length + 1), none⟩ = some (.int .i64 6) := by
      have := hc (n.log.length + 1) (by simp) 0 (.int .i64 6) (by rw [e6]; rfl)
      simpa using this
    have i8 : (n.log.length : Int) < n.log.length + 2 := by omega
    clear hcell hg hc e5 e6
    have HF := hide HM.out
    go_wp2
    go_ret
    exact ⟨rfl, HF.out⟩
end Go.Proofs.YtabebkffcmajkaaDoor

namespace Go.Proofs.YtabebkffcmajkaaDoor.inodeApplies
open Go.ChangeShapes Go.WideShapes Go.ChangeAt Go.RowKit
open Go.ChangeMaps (open_string shut_string)
set_option linter.unusedVariables false
theorem ownG : ownKnob Tryd.prog.godebug = none := by kernel_rfl
theorem gSteps : Tryd.prog.globalNamed "furrow/codec.steps" = some 0 := by kernel_rfl
theorem gStepsType : (Tryd.prog.globals[0]?).map (·.type) = some 170 := by kernel_rfl
theorem cellsT16 : Tryd.prog.cellsOf 170 = 16 := by kernel_rfl
theorem cellsU32 : Tryd.prog.cellsOf 150 = 1 := by kernel_rfl
theorem steps_tab {W : World} (h : laidMetH Tryd.prog Rows.inodeAppliesRow.laid W) : Lib.TabIs Tryd.prog W "furrow/codec.steps" .u32 sumTab :=
  Lib.tabIs_of_head (rest := []) gSteps gStepsType Tryd.underlying170 Tryd.underlying150 cellsU32 cellsT16 h
theorem steps_of {W : World} (h : laidMetH Tryd.prog Rows.inodeAppliesRow.laid W) : Steps W := by
  have ht := steps_tab h
  have hc : ∀ i : Nat, i < 16 → W.cell? ⟨0, i, none⟩ = some (.int .u32 (sumTab.getD i 0)) := fun i hi => ht.cell gSteps i hi
  exact ⟨block_lt_of_cell (hc 0 (by omega)), hc⟩
set_option maxRecDepth 100000 in
theorem contract (H : Type) (enc : TypeId × Value → H) (W : World) (base : Nat) (args : Array Value) (ds gs : List (DataW H)) (before : List MemPlace)
    (hval : ∀ (j : Nat) t v, Tryd.f5.params[j]? = some t → args[j]? = some v → Value.okWide Tryd.prog W .any base t v)
    (hW : DataW.Whole enc Tryd.prog Tryd.f5.params.toList Rows.inodeAppliesSpec.vars false W args.toList ds gs before) (hL : laidMetH Tryd.prog Rows.inodeAppliesRow.laid W) :
    Calls Tryd.prog 5 args W fun e W' => ∃ v, e = .returned v ∧ Rows.inodeAppliesSpec.post enc Tryd.prog Tryd.f5 false true false false W args v W' := by
  have hW' := hW
  obtain ⟨p, q, hA0, hV, rfl, hfz, hnd⟩ := hW
  have hA : DataW.TrodAll enc Tryd.prog W 0 (fun _ => true) true Tryd.f5.params.toList args.toList ds p := hA0
  rw [Tryd.params5] at hA hval
  obtain ⟨v0, vs0, d0, ds0, p0, q0, hargs, rfl, rfl, h0, r0⟩ := trodAll_cons hA
  obtain ⟨v1, vs1, d1, ds1, p1, q1, rfl, rfl, rfl, h1, r1⟩ := trodAll_cons r0
  obtain ⟨rfl, rfl, rfl⟩ := trodAll_nil r1
  obtain rfl : args = #[v0, v1] := by cases args; simp_all
  obtain ⟨rfl, rfl⟩ := trodVars_none hV
  have k0 := h0
  have lt0 : ∀ x ∈ p0, x.block < W.heap.size := by obtain ⟨m, hm⟩ := k0; exact DataW.trod_lt m _ _ _ hm
  obtain ⟨y0, vm0, vn0, vl0, rfl, hN0, hI0, hB0⟩ := open_node (okWide_struct Tryd.underlying31 (hval 0 31 v0 rfl rfl)) h0
  have k1 := h1
  have lt1 : ∀ x ∈ p1, x.block < W.heap.size := by obtain ⟨m, hm⟩ := k1; exact DataW.trod_lt m _ _ _ hm
  obtain ⟨y1, rfl⟩ := open_entry (okWide_struct Tryd.underlying26 (hval 1 26 v1 rfl rfl)) h1
  clear hA0
  refine (lawApplies W y0 vm0 vn0 vl0 y1 (steps_of hL) hN0 hI0).mono fun e W' ⟨he, hm⟩ => ?_
  subst he
  have bel := hm.below
  exact ⟨_, rfl, _, _, _, [], _, [], hW', trodAll_mk1 (shut_bool Tryd.underlying4 _),
    (trodAll_cons_mk (Below.trod laidOut (by kernel_rfl) (of_decide_eq_true (by kernel_rfl)) k0 bel lt0) (trodAll_cons_mk (Below.trod laidOut (by kernel_rfl) (of_decide_eq_true (by kernel_rfl)) k1 bel lt1) trodAll_mk0)),
    rfl, bel.frame _, fun h => by cases h⟩
/-- a world for the witness: the settled one, the table (block 0) holding what its initialiser lays -/
noncomputable def laidWorld (os : Os) : World :=
  { World.holding Tryd.prog os ⟨#[], #[], []⟩ with heap := (World.holding Tryd.prog os ⟨#[], #[], []⟩).heap.modify 0 fun
      | .cells _ t frozen => .cells (sumTab.map (Value.int .u32)).toArray t frozen
      | o => o }
theorem laid_met (os : Os) : laidMet Tryd.prog Rows.inodeAppliesRow.laid ((laidWorld os).forCall (fun _ _ => 0) ⟨#[], #[.agg #[.int .i64 0, .int .i64 0, .int .i64 0, .int .i64 0, .slice none 0 0, .slice none 0 0, .int .i64 0, .int .i64 0, .slice none 0 0, .int .i64 0], .agg #[.int .i64 0, .int .u64 0, .int .i64 0, .int .i64 0, .int .i64 0, .int .i64 0, .int .i64 0, .string ByteArray.empty]], []⟩).memory :=
  laidMet_of_run' 8 (by kernel_rfl) (by kernel_rfl)
theorem reads (os : Os) {H : Type} (enc : TypeId × Value → H) : ∃ places, DataW.whole enc Tryd.prog ((laidWorld os).forCall (fun _ _ => 0) ⟨#[], #[.agg #[.int .i64 0, .int .i64 0, .int .i64 0, .int .i64 0, .slice none 0 0, .slice none 0 0, .int .i64 0, .int .i64 0, .slice none 0 0, .int .i64 0], .agg #[.int .i64 0, .int .u64 0, .int .i64 0, .int .i64 0, .int .i64 0, .int .i64 0, .int .i64 0, .string ByteArray.empty]], []⟩).memory Tryd.f5.params.toList Rows.inodeAppliesSpec.vars false #[Value.agg #[.int .i64 0, .int .i64 0, .int .i64 0, .int .i64 0, .slice none 0 0, .slice none 0 0, .int .i64 0, .int .i64 0, .slice none 0 0, .int .i64 0], .agg #[.int .i64 0, .int .u64 0, .int .i64 0, .int .i64 0, .int .i64 0, .int .i64 0, .int .i64 0, .string ByteArray.empty]].toList 8 = some ([.agg [.lit (.int .i64 0), .lit (.int .i64 0), .lit (.int .i64 0), .lit (.int .i64 0), .nil, .nil, .lit (.int .i64 0), .lit (.int .i64 0), .nil, .lit (.int .i64 0)], .agg [.lit (.int .i64 0), .lit (.int .u64 0), .lit (.int .i64 0), .lit (.int .i64 0), .lit (.int .i64 0), .lit (.int .i64 0), .lit (.int .i64 0), .lit (.string [])]], [], places) :=
  ⟨[], by kernel_rfl⟩
set_option maxRecDepth 100000 in
theorem lifted (os : Os) (started : os.Started) (H : Type) (enc : TypeId × Value → H) (F : Stop.Interp) :
    ReturnsInHanded {} Tryd.checked os 5 .any ((OpenSpec.ofChange Rows.inodeAppliesSpec).preRow enc Tryd.prog Tryd.f5 Rows.inodeAppliesRow.domain false Rows.inodeAppliesRow.laid) (((OpenSpec.ofChange Rows.inodeAppliesSpec).at F).post enc Tryd.prog Tryd.f5 false true false false) := by
  obtain ⟨places, hx⟩ := reads os enc
  refine returnsInHanded_of_row (C := Tryd.checked) (s := OpenSpec.ofChange Rows.inodeAppliesSpec) ownG started (by kernel_rfl) Tryd.func5
    (witness_row_at (enc := enc) (C := Tryd.checked) false (laidWorld os) #[.agg #[.int .i64 0, .int .i64 0, .int .i64 0, .int .i64 0, .slice none 0 0, .slice none 0 0, .int .i64 0, .int .i64 0, .slice none 0 0, .int .i64 0], .agg #[.int .i64 0, .int .u64 0, .int .i64 0, .int .i64 0, .int .i64 0, .int .i64 0, .int .i64 0, .string ByteArray.empty]] rfl (by kernel_rfl) (by kernel_rfl) (by kernel_rfl)
      (OpenSpec.preRow_of_cond 8 hx (by kernel_rfl) (fun k hk => by cases hk) (by kernel_rfl) (laid_met os))) ?_
  intro W base args ds gs before hval hW _ _ _ hL _ _
  exact contract H enc W base args ds gs before hval hW hL
theorem said : Rows.InodeAppliesSaid :=
  OpenClaim.holds_of_cond 5 Tryd.f5 rfl rfl rfl rfl rfl rfl rfl ⟨rfl, rfl, rfl, rfl, rfl⟩ rfl rfl rfl rfl rfl (by kernel_rfl) Tryd.func5 (by kernel_rfl)
    (of_decide_eq_true (by kernel_rfl)) (by unfold Func.isWrapper; first | (rw [if_pos (by decide +kernel)]; kernel_rfl) | (rw [if_neg (by decide +kernel)]; exact ⟨rfl, rfl⟩))
    (fun os started H enc _ F => by rw [OpenClaim.pre_eq_preRow]; exact lifted os started H enc F)
theorem plain (f : FuncId) (fn : Func) (hf : Tryd.pinned.checked.prog.funcNamed "furrow/furrowlaw09.InodeApplies" = some f) (hfn : Tryd.pinned.checked.prog.funcs[f]? = some fn) :
    true = Tryd.pinned.checked.prog.looks [] ∧ ∀ (j : Nat) t, fn.params[j]? = some t → Tryd.pinned.checked.prog.wantsStandIn t = false := by
  obtain rfl : f = 5 := Option.some.inj ((show Tryd.prog.funcNamed "furrow/furrowlaw09.InodeApplies" = some 5 by kernel_rfl).symm.trans hf) |>.symm
  obtain rfl : fn = Tryd.f5 := (Option.some.inj (Tryd.func5.symm.trans hfn)).symm
  refine ⟨by kernel_rfl, fun j t ht => ?_⟩
  rw [Tryd.params5] at ht
  have hm := Array.mem_of_getElem? ht
  simp only [List.mem_toArray, List.mem_cons, List.not_mem_nil, or_false] at hm
  rcases hm with rfl | rfl
  · exact (show Tryd.prog.wantsStandIn 31 = false by kernel_rfl)
  · exact (show Tryd.prog.wantsStandIn 26 = false by kernel_rfl)
theorem card : Rows.InodeAppliesCardSaid :=
  Claim7.holds_tied_plain_at .later [] _ _ _ _ said (fun _ h => by cases h) (by kernel_rfl) (fun _ h => by cases h) inodeApplies_row_tie rfl ⟨rfl, rfl⟩ (by kernel_rfl) rfl plain (by kernel_rfl)
end Go.Proofs.YtabebkffcmajkaaDoor.inodeApplies
namespace Go.Proofs.YtabebkffcmajkaaDoor
theorem inodeApplies_holds : Rows.InodeAppliesCardSaid := inodeApplies.card
#print axioms inodeApplies_holds
end Go.Proofs.YtabebkffcmajkaaDoor
