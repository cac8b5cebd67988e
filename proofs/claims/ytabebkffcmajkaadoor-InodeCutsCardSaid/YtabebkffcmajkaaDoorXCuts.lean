/-
  InodeCuts: for every list of seeds and every two numbers the law returns true, and its arguments read as they did. (The table of the sums is laid by the program's text.)
-/
import Derived.Test.YtabebkffcmajkaaDoorCards
import Derived.Test.YtabebkffcmajkaaDoorTie
import Derived.WalkKit
import Derived.ProofKit
import Derived.OpenShut
import Derived.ShutString
import Derived.Deep.DeepHandedRow
import Derived.Lib.LaidTab
import Derived.Test.YtabebkffcmajkaaDoorG10
import Derived.Test.YtabebkffcmajkaaDoorG6
set_option linter.unusedVariables false
set_option linter.unusedSimpArgs false
/-! Law walk: InodeFiles. -/
namespace Go.Proofs.YtabebkffcmajkaaDoor
open Go.RowKit Go.Maps Go.Shelf
attribute [local go_sem] quietV loudUpon Oper.semAt_some

theorem file_replay (l : List SeedD) : ∃ z f, z = lastSize 0 (writtenL l) ∧ replayErr 1 (writtenL l) = 0 ∧ replayN 1 (writtenL l) = nodeOf (.file z f) (writtenL l).length ∧ PageF f ∧ (0 ≤ z ∧ z ≤ 262144) ∧ FitD (.file z f) ∧ (∀ x : Nat, f x = atR (writtenL l).reverse x) := by
  obtain ⟨f, hp, hf⟩ := written_replay l
  have hp' : playD (zeroD 1) (writtenL l) = (0, .file (lastSize 0 (writtenL l)) f) := hp
  obtain ⟨h1, h2, h3, h4⟩ := replay_ok (k := 1) (.inl rfl) hp'
  exact ⟨_, f, rfl, h1, h2, h3.2, h3.1, h4, hf⟩
theorem file_sep {z : Int} {f : Nat → Int} {j : Nat} (h : PageF f) : (nodeOf (.file z f) j).map.Pairwise Apart2 := by
  rw [nodeOf_map]; exact (runs_sep h.inr 512 (Nat.le_refl _)).apart
theorem file_runs {z : Int} {f : Nat → Int} {j : Nat} (h : PageF f) : ∀ r ∈ (nodeOf (.file z f) j).map, refRun r = true := by
  rw [nodeOf_map]; exact runs_good h

set_option maxRecDepth 100000 in
set_option maxHeartbeats 4000000 in
theorem lawFiles (w : World) (v : Value) (l : List SeedD) (hs : Steps w) (h : ListAt encSeed 6 w v l) (hO : ∀ x ∈ l, x.Ok) : Calls Tryd.prog 4 #[v] w (BoolPost w true) := by
  have hv1 : v.oneCell' = true := by obtain ⟨A, c, rfl, _⟩ := h; rfl
  have HW := hide (written_any w v l h hO)
  have HS := hide hs
  clear h hO hs
  go_enter Tryd.func4, Tryd.ntmps4
  go_wp2_with fail
  refine Calls.mono HW.out ?_
  rintro e w1 ⟨v1, rfl, hown1, hM1⟩
  obtain ⟨z, f, hz, hre, hrn, hpf, hzz, hfit, hat⟩ := file_replay l
  have hfile := written_file l
  have hlen := writtenL_length l
  obtain ⟨L, hL⟩ : ∃ L, L = writtenL l := ⟨_, rfl⟩
  rw [← hL] at hown1 hz hre hrn hat hfile hlen
  have hl60 : L.length ≤ 60 := by omega
  obtain ⟨A1, c1, rfl⟩ := own_slice hown1
  have hl1 := list_of_ownRow (enc := encEntry) (fun _ => rfl) hown1
  have HL1 := hide hl1
  have HZ := hide hz
  have HFI := hide hfile
  have HAT := hide hat
  clear HW hL hown1 hlen hz hfile hat
  go_wp2_with fail
  refine (copyEntries_any w1 _ L HL1.out (by omega)).mono ?_
  rintro e w2 ⟨v2, rfl, hown2, hM2⟩
  have hl2 := list_of_ownRow (enc := encEntry) (fun _ => rfl) hown2
  have hM2t := hM1.trans hM2
  have HRP := hide (replay_any w2 1 v2 L (HS.out.kept hM2t) hl2 (by omega))
  clear hown2 hl2
  go_wp2_with fail
  refine Calls.mono HRP.out ?_
  rintro e w3 ⟨vm, vn, vl, rfl, hO3, hM3⟩
  rw [hre, hrn]
  rw [hrn] at hO3
  obtain ⟨n, hn⟩ : ∃ n, n = nodeOf (.file z f) L.length := ⟨_, rfl⟩
  rw [← hn] at hO3 ⊢
  have n1 : n.kind = 1 := by rw [hn]; rfl
  have n3 : n.size = z := by rw [hn]; rfl
  have n9 : n.entries = L.length := by rw [hn]; rfl
  have n5 : n.names.length = 0 := by rw [hn]; rfl
  have hmap := list_of_ownRow (enc := encRun) (fun _ => rfl) hO3.map
  have hr : ∀ r ∈ n.map, refRun r = true := by rw [hn]; exact file_runs hpf
  have ha : n.map.Pairwise Apart2 := by rw [hn]; exact file_sep hpf
  have hma : ∀ x : Nat, x < 512 → mapGo n.map x 0 = (f x, true) := by rw [hn]; exact fun x hx => map_at hpf hx
  have hnn := hO3.names
  rw [n5] at hnn
  obtain ⟨An, cn, rfl⟩ := own_slice hnn
  have hv2 : vm.oneCell' = true := by obtain ⟨A, c, rfl, _⟩ := hmap; rfl
  have hv3 : vl.oneCell' = true := by obtain ⟨A, c, rfl, _⟩ := list_of_ownRow (enc := encInt) (fun _ => rfl) hO3.log; rfl
  have hM3t := hM2t.trans hM3
  obtain ⟨q, hq⟩ : ∃ q, q = w3.heap.size := ⟨_, rfl⟩
  obtain ⟨w4, hw4⟩ : ∃ w4, w4 = w3.alloc (.cells (nodeC n vm (.slice An 0 cn) vl) 31) := ⟨_, rfl⟩
  have hm4 : Mod None_ w3 w4 := by rw [hw4]; exact (Mod.refl _ w3).alloc _
  have b4 : Blk w4 q 31 (nodeC n vm (.slice An 0 cn) vl) := by rw [hw4, hq]; exact Blk.new w3 _ _
  have hM4 := hM3t.trans hm4
  have HM1 := hide hM1
  have HMA := hide (hmap.kept hm4)
  have HR := hide hr
  have HA := hide ha
  have HMG := hide hma
  have HI := hide (infoNode n vm (.slice An 0 cn) vl)
  have HO1 := hide (nodeC_one n vm (.slice An 0 cn) vl hv2 rfl hv3)
  have HW4 := hide hw4
  have HQ := hide hq
  have HPF := hide hpf
  have hLL1 := HL1.out.kept ((hM2.trans hM3).trans hm4)
  have HLL := hide hLL1
  clear HRP hre hrn hO3 hn hmap hr ha hma hnn hM1 hM2 hM3 hm4 hM2t hM3t hw4 hq hpf HL1 hLL1
  go_upto_region 3 with ((with_reducible refine at_slot 4 ?_); refine wpList_declare rfl rfl 31 4 (.tmp 16) rfl rfl rfl zeroNode (nodeC n vm (.slice An 0 cn) vl) zeroNodeV HI.out (nodeC_size _ _ _ _) HO1.out (by simp) rfl ?_; go_frame; rw [← HW4.out, ← HQ.out])
  have c1_ : w4.cell? ⟨q, 1, none⟩ = some (.int .i64 1) := by rw [← n1]; exact b4.cell 1
  have c3_ : w4.cell? ⟨q, 3, none⟩ = some (.int .i64 z) := by rw [← n3]; exact b4.cell 3
  have c4_ : w4.cell? ⟨q, 4, none⟩ = some vm := b4.cell 4
  have c5_ : w4.cell? ⟨q, 5, none⟩ = some (.slice An 0 cn) := b4.cell 5
  have c9_ : w4.cell? ⟨q, 9, none⟩ = some (.int .i64 L.length) := by rw [← n9]; exact b4.cell 9
  have hln : ∀ w A (n c : Nat), (Builtin.len_ #[22] 3 #[.slice A n c]).run Tryd.prog w = .ok (.int .i64 n) w := fun w A n c => by simp [Builtin.len_, run_underlying Tryd.underlying22]; rfl
  have hld : ∀ w A (n c : Nat), (Builtin.len_ #[28] 3 #[.slice A n c]).run Tryd.prog w = .ok (.int .i64 n) w := fun w A n c => by simp [Builtin.len_, run_underlying Tryd.underlying28]; rfl
  have hzs : L.length = 0 ∧ z = 0 ∨ 0 < L.length ∧ ∃ e : EntD, e.size = z ∧ L[L.length - 1]? = some e := by
    rw [HZ.out]
    by_cases h0 : L.length = 0
    · left; rw [List.length_eq_zero_iff.1 h0]; exact ⟨rfl, rfl⟩
    · right
      refine ⟨by omega, L[L.length - 1]'(by omega), ?_, List.getElem?_eq_getElem _⟩
      unfold lastSize
      rw [List.getLast?_eq_getElem?, List.getElem?_eq_getElem (by omega)]; rfl
  obtain ⟨_, _, hcv, hca, hcb, hcell⟩ := HLL.out
  simp only [Value.slice.injEq, true_and] at hcv
  obtain ⟨rfl, rfl⟩ := hcv
  have HLN := hide hln
  have hN : Hid (n.kind = 1 ∧ n.size = z ∧ n.entries = L.length) := hide ⟨n1, n3, n9⟩
  clear n1 n3 n9 hca hcb
  rcases hzs with ⟨h0, hz0⟩ | ⟨h0, e, hez, hel⟩
  · have h0i : decide (0 < L.length) = false := decide_eq_false (by omega)
    clear h0
    have c3_ : w4.cell? ⟨q, 3, none⟩ = some (.int .i64 0) := by rw [← hz0]; exact c3_
    go_upto_region 8 with fail
    clear hcell
    go_wp2_with fail
    refine Calls.mono (longest_any w4 vm n.map HMA.out HR.out HA.out) ?_
    rintro x w5 ⟨rfl, hm5⟩
    have b5 := b4.mod hm5 id
    have HM4 := hide hM4
    clear c1_ c3_ c4_ c5_ c9_ b4 hM4
    go_wp2_with fail
    go_loopw [7] (fun s7 wr => ∃ k : Nat, k ≤ 512 ∧ s7 = .int .i64 k ∧ Blk wr q 31 (nodeC n vm (.slice An 0 cn) vl) ∧ Mod None_ w4 wr) (fun s7 _ => 512 - (intOf s7).toNat)
    case atStart => exact ⟨0, Nat.zero_le _, rfl, b5, hm5⟩
    clear b5 hm5
    obtain ⟨k, hk, rfl, br, hMr⟩ := hrel
    by_cases hkl : k < 512
    · have hki : (k : Int) < 512 := by omega
      have c4_ : wr.cell? ⟨q, 4, none⟩ = some vm := br.cell 4
      go_wp2_with fail
      refine Calls.mono (mapped_any wr vm n.map (HMA.out.kept hMr) HR.out k (by omega) (by omega)) ?_
      rintro x w6 ⟨rfl, hm6⟩
      rw [HMG.out k hkl]
      have b6 := br.mod hm6 id
      have hM6 := hMr.trans hm6
      have HFX := hide (HAT.out k)
      obtain ⟨p, hp⟩ : ∃ p, p = f k := ⟨_, rfl⟩
      rw [← hp] at HFX ⊢
      clear br hMr hm6 hp c4_
      go_wp2_with fail
      refine Calls.mono (at_any w6 _ L (HLL.out.kept hM6) HFI.out k (by omega) (by omega)) ?_
      rintro x w7 ⟨rfl, hm7⟩
      rw [← HFX.out]
      have b7 := b6.mod hm7 id
      have hM7 := hM6.trans hm7
      clear b6 hM6 hm7
      go_wp2_with fail
      go_roundw
      case rel => exact ⟨k + 1, by omega, by simp, b7, hM7⟩
      case measure => simp [intOf]; omega
    · obtain rfl : k = 512 := by omega
      have HF := hide (HM4.out.trans hMr)
      clear br hMr
      go_wp2
      go_ret
      exact ⟨rfl, HF.out⟩
  · have h0i : decide (0 < L.length) = true := decide_eq_true (by omega)
    obtain ⟨g, o, rfl, hg, hc⟩ := hcell h0
    obtain ⟨hlt, hee⟩ := List.getElem?_eq_some_iff.1 hel
    have x5 : w4.cell? ⟨g, o + (L.length - 1) * 8 + 5, none⟩ = some (.int .i64 z) := by
      have := hc _ hlt 5 (.int .i64 z) (by rw [hee, ← hez]; rfl)
      exact this
    go_upto_region 8 with fail
    clear x5 hee hc
    clear hcell
    go_wp2_with fail
    refine Calls.mono (longest_any w4 vm n.map HMA.out HR.out HA.out) ?_
    rintro x w5 ⟨rfl, hm5⟩
    have b5 := b4.mod hm5 id
    have HM4 := hide hM4
    clear c1_ c3_ c4_ c5_ c9_ b4 hM4
    go_wp2_with fail
    go_loopw [7] (fun s7 wr => ∃ k : Nat, k ≤ 512 ∧ s7 = .int .i64 k ∧ Blk wr q 31 (nodeC n vm (.slice An 0 cn) vl) ∧ Mod None_ w4 wr) (fun s7 _ => 512 - (intOf s7).toNat)
    case atStart => exact ⟨0, Nat.zero_le _, rfl, b5, hm5⟩
    clear b5 hm5
    obtain ⟨k, hk, rfl, br, hMr⟩ := hrel
    by_cases hkl : k < 512
    · have hki : (k : Int) < 512 := by omega
      have c4_ : wr.cell? ⟨q, 4, none⟩ = some vm := br.cell 4
      go_wp2_with fail
      refine Calls.mono (mapped_any wr vm n.map (HMA.out.kept hMr) HR.out k (by omega) (by omega)) ?_
      rintro x w6 ⟨rfl, hm6⟩
      rw [HMG.out k hkl]
      have b6 := br.mod hm6 id
      have hM6 := hMr.trans hm6
      have HFX := hide (HAT.out k)
      obtain ⟨p, hp⟩ : ∃ p, p = f k := ⟨_, rfl⟩
      rw [← hp] at HFX ⊢
      clear br hMr hm6 hp c4_
      go_wp2_with fail
      refine Calls.mono (at_any w6 _ L (HLL.out.kept hM6) HFI.out k (by omega) (by omega)) ?_
      rintro x w7 ⟨rfl, hm7⟩
      rw [← HFX.out]
      have b7 := b6.mod hm7 id
      have hM7 := hM6.trans hm7
      clear b6 hM6 hm7
      go_wp2_with fail
      go_roundw
      case rel => exact ⟨k + 1, by omega, by simp, b7, hM7⟩
      case measure => simp [intOf]; omega
    · obtain rfl : k = 512 := by omega
      have HF := hide (HM4.out.trans hMr)
      clear br hMr
      go_wp2
      go_ret
      exact ⟨rfl, HF.out⟩
end Go.Proofs.YtabebkffcmajkaaDoor

/-! Plain law: Apply on a file of the laws; cuts. -/
namespace Go.Proofs.YtabebkffcmajkaaDoor
open Go.RowKit Go.Maps Go.Shelf

theorem file_step {z : Int} {f : Nat → Int} {e : EntD} (he : FileE e) : stepErr (.file z f) e = 0 := by
  unfold stepErr
  rw [if_neg (by rw [he.good]; decide), if_neg (show ¬ onOk e (.file z f) = false from by rw [show onOk e (.file z f) = decide (e.kind = 1 ∨ e.kind = 2) from rfl, decide_eq_true he.kind]; decide)]
structure GoodFile (z : Int) (f : Nat → Int) : Prop where
  wf : WfD (.file z f)
  fit : FitD (.file z f)
theorem GoodFile.size {z : Int} {f : Nat → Int} (h : GoodFile z f) : 0 ≤ z ∧ z ≤ 262144 := h.wf.1
theorem GoodFile.page {z : Int} {f : Nat → Int} (h : GoodFile z f) : PageF f := h.wf.2
theorem GoodFile.next {z : Int} {f : Nat → Int} (h : GoodFile z f) {e : EntD} (he : FileE e) : GoodFile e.size (nextF e f) :=
  ⟨step_wf h.wf (file_step he), fit_step _ e h.wf (file_step he)⟩
theorem GoodFile.apply {z : Int} {f : Nat → Int} (h : GoodFile z f) {e : EntD} (he : FileE e) {j : Nat} (hj : j ≤ 1000000) : applyErr (nodeOf (.file z f) j) e = 0 ∧ applyN (nodeOf (.file z f) j) e = nodeOf (.file e.size (nextF e f)) (j + 1) :=
  ⟨by rw [applyErr_node h.wf h.fit, file_step he], applyN_node h.wf h.fit (file_step he) hj⟩
def sizeE (s q : Int) : EntD := ⟨2, q, 0, 0, 0, s, 0, ⟨#[]⟩⟩
theorem sizeE_file {s q : Int} (h : 0 ≤ s ∧ s ≤ 262144) : FileE (sizeE s q) :=
  ⟨file_size_ent h, .inr rfl, h, ⟨Int.le_refl _, by show (0 : Int) ≤ 512; omega⟩, ⟨Int.le_refl _, by show (0 : Int) ≤ 16; omega⟩, ⟨Int.le_refl _, by show (0 : Int) ≤ 1024; omega⟩, fun h => by simp [sizeE] at h⟩
theorem GoodFile.cutG {z : Int} {f : Nat → Int} (h : GoodFile z f) {s q : Int} (hs : 0 ≤ s ∧ s ≤ 262144) : GoodFile s (nextF (sizeE s q) f) := h.next (sizeE_file hs)
theorem GoodFile.cut {z : Int} {f : Nat → Int} (h : GoodFile z f) {s q : Int} (hs : 0 ≤ s ∧ s ≤ 262144) {j : Nat} (hj : j ≤ 1000000) : applyErr (nodeOf (.file z f) j) (sizeE s q) = 0 ∧ applyN (nodeOf (.file z f) j) (sizeE s q) = nodeOf (.file s (nextF (sizeE s q) f)) (j + 1) := h.apply (sizeE_file hs) hj
theorem sizeE_at {s q : Int} (h : 0 ≤ s ∧ s ≤ 262144) (f : Nat → Int) (x : Nat) : nextF (sizeE s q) f x = if endOf s ≤ x then 0 else f x := by
  rw [nextF_at (sizeE_file h)]
  show (if endOf s ≤ x then 0 else if (2 : Int) = 1 ∧ _ then _ else f x) = _
  split
  · rfl
  · exact if_neg (fun h => absurd h.1 (by decide))
theorem cuts_same {s t q r : Int} (hs : 0 ≤ s ∧ s ≤ 262144) (ht : s ≤ t ∧ t ≤ 262144) (f : Nat → Int) (x : Nat) : nextF (sizeE t r) (nextF (sizeE s q) f) x = nextF (sizeE s q) f x := by
  rw [sizeE_at (by omega), sizeE_at hs]
  by_cases h : endOf t ≤ x
  · rw [if_pos h]
    have : endOf s ≤ x := by unfold endOf at *; omega
    rw [if_pos this]
  · rw [if_neg h]
theorem node_map_congr {z z2 : Int} {f g : Nat → Int} {j j2 : Nat} (h : ∀ x, f x = g x) : (nodeOf (.file z f) j).map = (nodeOf (.file z2 g) j2).map := by
  rw [nodeOf_map, nodeOf_map]; exact runsT_congr fun i _ => h i
/-- the pages of a file's first so many places -/
def pagesTo (f : Nat → Int) (k : Nat) : List Int := (itemsTo f k).map Prod.snd
theorem pagesTo_zero (f : Nat → Int) : pagesTo f 0 = [] := rfl
theorem pagesTo_no {f : Nat → Int} {k : Nat} (h : f k = 0) : pagesTo f (k + 1) = pagesTo f k := by unfold pagesTo; rw [itemsTo_zero h]
theorem pagesTo_yes {f : Nat → Int} {k : Nat} (h : f k ≠ 0) : pagesTo f (k + 1) = pagesTo f k ++ [f k] := by unfold pagesTo; rw [itemsTo_some h, List.map_append]; rfl
theorem pagesTo_length (f : Nat → Int) (k : Nat) : (pagesTo f k).length ≤ k := by unfold pagesTo; rw [List.length_map]; exact itemsOf_length f 0 k 0
set_option maxRecDepth 100000 in
theorem pages_file {z : Int} {f : Nat → Int} {j : Nat} (h : GoodFile z f) : pagesOf (nodeOf (.file z f) j) = pagesTo f 512 := by
  rw [pagesOf_good (node_good h.wf h.fit), mapPages_eq, nodeOf_map]
  have hi := (runs_items h.page.inr 512 (Nat.le_refl _)).1
  unfold pagesTo
  rw [← hi, List.map_flatMap]
  rfl
end Go.Proofs.YtabebkffcmajkaaDoor

/-! Law walk: InodeCuts. (Printed by mk_LC1.py.) -/
namespace Go.Proofs.YtabebkffcmajkaaDoor
open Go.RowKit Go.Maps Go.Shelf
attribute [local go_sem] quietV loudUpon Oper.semAt_some

theorem node_in {D : SenseD} {j : Nat} (hw : WfD D) {b : Nat} {w : World} {vm vn vl : Value} (h : NodeOwn b w (nodeOf D j) vm vn vl) : NodeIn w (nodeOf D j) vm vn vl :=
  ⟨list_of_ownRow (enc := encRun) (fun _ => rfl) h.map, list_of_ownRow (enc := encDent) (fun _ => rfl) h.names, list_of_ownRow (enc := encInt) (fun _ => rfl) h.log, node_ok hw, (node_i64 hw).1, (node_i64 hw).2⟩
theorem nodeIn_one {w : World} {n : NodeD} {vm vn vl : Value} (h : NodeIn w n vm vn vl) : (nodeC n vm vn vl).all (·.oneCell') = true := by
  obtain ⟨_, _, rfl, _⟩ := h.map
  obtain ⟨_, _, rfl, _⟩ := h.names
  obtain ⟨_, _, rfl, _⟩ := h.log
  exact nodeC_one _ _ _ _ rfl rfl rfl

set_option maxRecDepth 100000 in
set_option maxHeartbeats 8000000 in
theorem lawCuts (w : World) (v : Value) (l : List SeedD) (a b : Int) (hs : Steps w) (h : ListAt encSeed 6 w v l) (hO : ∀ x ∈ l, x.Ok) (ha : I64 a) (hb : I64 b) : Calls Tryd.prog 8 #[v, .int .i64 a, .int .i64 b] w (BoolPost w true) := by
  have hv1 : v.oneCell' = true := by obtain ⟨A, c, rfl, _⟩ := h; rfl
  have HW := hide (written_any w v l h hO)
  have HS := hide hs
  clear h hO hs
  go_enter Tryd.func8, Tryd.ntmps8
  go_wp2_with fail
  refine Calls.mono (HW.out) ?_
  rintro x w1 ⟨v1, rfl, hown1, hM⟩
  replace HS := hide (HS.out.kept hM)
  obtain ⟨z, f, hz, hre, hrn, hpf, hzz, hfit, hat⟩ := file_replay l
  have hlen := writtenL_length l
  obtain ⟨E, hE⟩ : ∃ E, E = writtenL l := ⟨_, rfl⟩
  rw [← hE] at hown1 hre hrn hlen
  have hG : GoodFile z f := ⟨⟨hzz, hpf⟩, hfit⟩
  have hl60 : E.length ≤ 60 := by omega
  obtain ⟨A1, c1, rfl⟩ := own_slice hown1
  have hl1 := list_of_ownRow (enc := encEntry) (fun _ => rfl) hown1
  have HG := hide hG
  clear HW hE hown1 hlen hz hat hpf hzz hfit hG
  go_wp2_with fail
  refine Calls.mono (copyEntries_any w1 _ E hl1 (by omega)) ?_
  rintro x w2 ⟨v2, rfl, hown2, hm2⟩
  have hl2 := list_of_ownRow (enc := encEntry) (fun _ => rfl) hown2
  clear hown2 hl1
  replace HS := hide (HS.out.kept hm2)
  replace hM := hM.trans hm2
  clear hm2
  go_wp2_with fail
  refine Calls.mono (replay_any w2 1 v2 E HS.out hl2 (by omega)) ?_
  rintro x w3 ⟨vm, vn, vl, rfl, hO3, hm3⟩
  rw [hre, hrn]
  rw [hrn] at hO3
  have HN := hide (node_in HG.out.wf hO3)
  clear hO3 hre hrn hl2
  replace HS := hide (HS.out.kept hm3)
  replace hM := hM.trans hm3
  clear hm3
  have HI1 := hide (infoNode (nodeOf (.file z f) E.length) vm vn vl)
  have HO1 := hide (nodeIn_one HN.out)
  obtain ⟨j, hj⟩ : ∃ j, j = E.length := ⟨_, rfl⟩
  rw [← hj] at HN HI1 HO1 hl60 ⊢
  obtain ⟨n, hn⟩ : ∃ n, n = nodeOf (.file z f) j := ⟨_, rfl⟩
  rw [← hn] at HN HI1 HO1 ⊢
  have HNE := hide hn
  have HJ := hide hj
  clear hn hj
  obtain ⟨q1_, hq⟩ : ∃ q, q = w3.heap.size := ⟨_, rfl⟩
  obtain ⟨w4, hw⟩ : ∃ y, y = w3.alloc (.cells (nodeC n vm vn vl) 31) := ⟨_, rfl⟩
  have hm5_ : Mod None_ w3 w4 := by rw [hw]; exact (Mod.refl _ w3).alloc _
  have b2_ := hide (show Blk w4 q1_ 31 (nodeC n vm vn vl) by rw [hw, hq]; exact Blk.new w3 _ _)
  have HW3_ := hide hw
  have HQ4_ := hide hq
  clear hw hq
  replace HS := hide (HS.out.kept hm5_)
  replace hM := hM.trans hm5_
  replace HN := hide (HN.out.kept hm5_)
  clear hm5_
  go_upto_region 3 with ((with_reducible refine at_slot 8 ?_); refine wpList_declare rfl rfl 31 8 (.tmp 26) rfl rfl rfl zeroNode (nodeC n vm vn vl) zeroNodeV HI1.out (nodeC_size _ _ _ _) HO1.out (by simp) rfl ?_; go_frame; rw [← HW3_.out, ← HQ4_.out])
  clear HW3_ HQ4_
  go_wp2_with fail
  refine Calls.mono (mod_any a 262145 w4 ha (by omega) (by omega)) ?_
  rintro x wx ⟨rfl, rfl⟩
  have hs1 : 0 ≤ a % 262145 ∧ a % 262145 ≤ 262144 := by omega
  obtain ⟨s, hse⟩ : ∃ s, s = a % 262145 := ⟨_, rfl⟩
  rw [← hse] at hs1 ⊢
  clear hse
  have HS1 := hide hs1
  obtain ⟨hs0, hs2⟩ := hs1
  have ews : IntKind.i64.wrap (262145 - s) = 262145 - s := IntWalk.i64_in _ (by omega)
  go_wp2_with fail
  refine Calls.mono (mod_any b (262145 - s) w4 hb (by omega) (by omega)) ?_
  rintro x wx ⟨rfl, rfl⟩
  have ht1 := Int.emod_nonneg b (b := 262145 - s) (by omega)
  have ht2 := Int.emod_lt_of_pos b (b := 262145 - s) (by omega)
  obtain ⟨u, hu⟩ : ∃ u, u = b % (262145 - s) := ⟨_, rfl⟩
  rw [← hu] at ht1 ht2 ⊢
  clear hu
  have ewt : IntKind.i64.wrap (s + u) = s + u := IntWalk.i64_in _ (by omega)
  have HT1 : Hid (s ≤ s + u ∧ s + u ≤ 262144) := hide (by omega)
  obtain ⟨t, hte⟩ : ∃ t, t = s + u := ⟨_, rfl⟩
  go_upto_region 5 with fail
  rw [← hte] at HT1 ⊢
  clear hte ewt ht1 ht2 ews
  have HTT : Hid (0 ≤ t ∧ t ≤ 262144) := hide (by have := HT1.out; omega)
  have HG1 := hide (HG.out.cutG (q := 0) HS1.out)
  have HG2 := hide (HG1.out.cutG (q := 0) HTT.out)
  go_wp2_with ((with_reducible refine at_slot 37 ?_); refine wpList_val rfl (ex_load rfl (run_loadRow b2_.out Tryd.underlying31 rfl HI1.out)) ?_; go_frame)
  refine Calls.mono (lawCopy w4 _ _ _ _ HN.out (by rw [HNE.out]; exact node_small (Nat.zero_le _))) ?_
  rintro x w5 ⟨uma, una, ula, rfl, hO, hm⟩
  have hNc := hO.in_ HN.out
  clear hO
  replace HS := hide (HS.out.kept hm)
  replace hM := hM.trans hm
  replace HN := hide (HN.out.kept hm)
  replace b2_ := hide (b2_.out.mod hm id)
  clear hm
  go_wp2_with fail
  refine Calls.mono (apply_any w5 n uma una ula (sizeE s 0) HS.out (hNc.at_ (by rw [HNE.out]; exact node_small (Nat.zero_le _))) (by rw [HNE.out]; exact Nat.zero_le _)) ?_
  rintro x w6 ⟨vma, vna, vla, rfl, hO, hm⟩
  have hap := HG.out.cut (q := 0) HS1.out (j := j) (by omega)
  rw [← HNE.out] at hap
  rw [hap.1, hap.2]
  rw [hap.2] at hO
  have HNa := hide (node_in HG1.out.wf hO)
  clear hO hap hNc
  replace HS := hide (HS.out.kept hm)
  replace hM := hM.trans hm
  replace HN := hide (HN.out.kept hm)
  replace b2_ := hide (b2_.out.mod hm id)
  clear hm
  have HIa := hide (infoNode (nodeOf (.file s (nextF (sizeE s 0) f)) (j + 1)) vma vna vla)
  have HOa := hide (nodeIn_one HNa.out)
  obtain ⟨na, hn⟩ : ∃ n, n = (nodeOf (.file s (nextF (sizeE s 0) f)) (j + 1)) := ⟨_, rfl⟩
  rw [← hn] at HNa HIa HOa ⊢
  have HNEa := hide hn
  clear hn
  obtain ⟨q6_, hq⟩ : ∃ q, q = w6.heap.size := ⟨_, rfl⟩
  obtain ⟨w7, hw⟩ : ∃ y, y = w6.alloc (.cells (nodeC na vma vna vla) 31) := ⟨_, rfl⟩
  have hm10_ : Mod None_ w6 w7 := by rw [hw]; exact (Mod.refl _ w6).alloc _
  have b7_ := hide (show Blk w7 q6_ 31 (nodeC na vma vna vla) by rw [hw, hq]; exact Blk.new w6 _ _)
  have HW8_ := hide hw
  have HQ9_ := hide hq
  clear hw hq
  replace HS := hide (HS.out.kept hm10_)
  replace hM := hM.trans hm10_
  replace HN := hide (HN.out.kept hm10_)
  replace b2_ := hide (b2_.out.mod hm10_ id)
  replace HNa := hide (HNa.out.kept hm10_)
  clear hm10_
  go_upto_region 6 with ((with_reducible refine at_slot 10 ?_); refine wpList_declare rfl rfl 31 10 (.tmp 42) rfl rfl rfl zeroNode (nodeC na vma vna vla) zeroNodeV HIa.out (nodeC_size _ _ _ _) HOa.out (by simp) rfl ?_; go_frame; rw [← HW8_.out, ← HQ9_.out])
  clear HW8_ HQ9_
  go_wp2_with ((with_reducible refine at_slot 45 ?_); refine wpList_val rfl (ex_load rfl (run_loadRow b7_.out Tryd.underlying31 rfl HIa.out)) ?_; go_frame)
  refine Calls.mono (lawCopy w7 _ _ _ _ HNa.out (by rw [HNEa.out]; exact node_small (Nat.zero_le _))) ?_
  rintro x w8 ⟨umb, unb, ulb, rfl, hO, hm⟩
  have hNc := hO.in_ HNa.out
  clear hO
  replace HS := hide (HS.out.kept hm)
  replace hM := hM.trans hm
  replace HN := hide (HN.out.kept hm)
  replace b2_ := hide (b2_.out.mod hm id)
  replace HNa := hide (HNa.out.kept hm)
  replace b7_ := hide (b7_.out.mod hm id)
  clear hm
  go_wp2_with fail
  refine Calls.mono (apply_any w8 na umb unb ulb (sizeE t 0) HS.out (hNc.at_ (by rw [HNEa.out]; exact node_small (Nat.zero_le _))) (by rw [HNEa.out]; exact Nat.zero_le _)) ?_
  rintro x w9 ⟨vmb, vnb, vlb, rfl, hO, hm⟩
  have hap := HG1.out.cut (q := 0) HTT.out (j := j + 1) (by omega)
  rw [← HNEa.out] at hap
  rw [hap.1, hap.2]
  rw [hap.2] at hO
  have HNb := hide (node_in HG2.out.wf hO)
  clear hO hap hNc
  replace HS := hide (HS.out.kept hm)
  replace hM := hM.trans hm
  replace HN := hide (HN.out.kept hm)
  replace b2_ := hide (b2_.out.mod hm id)
  replace HNa := hide (HNa.out.kept hm)
  replace b7_ := hide (b7_.out.mod hm id)
  clear hm
  have HIb := hide (infoNode (nodeOf (.file t (nextF (sizeE t 0) (nextF (sizeE s 0) f))) (j + 1 + 1)) vmb vnb vlb)
  have HOb := hide (nodeIn_one HNb.out)
  obtain ⟨nb, hn⟩ : ∃ n, n = (nodeOf (.file t (nextF (sizeE t 0) (nextF (sizeE s 0) f))) (j + 1 + 1)) := ⟨_, rfl⟩
  rw [← hn] at HNb HIb HOb ⊢
  have HNEb := hide hn
  clear hn
  obtain ⟨q11_, hq⟩ : ∃ q, q = w9.heap.size := ⟨_, rfl⟩
  obtain ⟨w10, hw⟩ : ∃ y, y = w9.alloc (.cells (nodeC nb vmb vnb vlb) 31) := ⟨_, rfl⟩
  have hm15_ : Mod None_ w9 w10 := by rw [hw]; exact (Mod.refl _ w9).alloc _
  have b12_ := hide (show Blk w10 q11_ 31 (nodeC nb vmb vnb vlb) by rw [hw, hq]; exact Blk.new w9 _ _)
  have HW13_ := hide hw
  have HQ14_ := hide hq
  clear hw hq
  replace HS := hide (HS.out.kept hm15_)
  replace hM := hM.trans hm15_
  replace HN := hide (HN.out.kept hm15_)
  replace b2_ := hide (b2_.out.mod hm15_ id)
  replace HNa := hide (HNa.out.kept hm15_)
  replace b7_ := hide (b7_.out.mod hm15_ id)
  replace HNb := hide (HNb.out.kept hm15_)
  clear hm15_
  go_upto_region 7 with ((with_reducible refine at_slot 12 ?_); refine wpList_declare rfl rfl 31 12 (.tmp 50) rfl rfl rfl zeroNode (nodeC nb vmb vnb vlb) zeroNodeV HIb.out (nodeC_size _ _ _ _) HOb.out (by simp) rfl ?_; go_frame; rw [← HW13_.out, ← HQ14_.out])
  clear HW13_ HQ14_
  have na3 : na.size = s := by rw [HNEa.out]; rfl
  have nb3 : nb.size = t := by rw [HNEb.out]; rfl
  have a3_ : w10.cell? ⟨q6_, 3, none⟩ = some (.int .i64 s) := by rw [← na3]; exact b7_.out.cell 3
  have a4_ : w10.cell? ⟨q6_, 4, none⟩ = some vma := b7_.out.cell 4
  have b3_ : w10.cell? ⟨q11_, 3, none⟩ = some (.int .i64 t) := by rw [← nb3]; exact b12_.out.cell 3
  have b4_ : w10.cell? ⟨q11_, 4, none⟩ = some vmb := b12_.out.cell 4
  have HF2 : Hid (∀ x : Nat, nextF (sizeE t 0) (nextF (sizeE s 0) f) x = nextF (sizeE s 0) f x) := hide (cuts_same HS1.out HT1.out f)
  have hmm : na.map = nb.map := by rw [HNEa.out, HNEb.out]; exact node_map_congr fun x => (HF2.out x).symm
  go_wp2_with fail
  have HSR := hide (lawSameRuns w10 vma vmb _ _ HNa.out.map HNb.out.map)
  rw [decide_eq_true hmm] at HSR
  clear na3 nb3 a3_ a4_ b3_ b4_
  refine Calls.mono (HSR.out) ?_
  rintro x w11 ⟨rfl, hm⟩
  clear HSR hmm
  replace HS := hide (HS.out.kept hm)
  replace hM := hM.trans hm
  replace HN := hide (HN.out.kept hm)
  replace b2_ := hide (b2_.out.mod hm id)
  replace HNa := hide (HNa.out.kept hm)
  replace b7_ := hide (b7_.out.mod hm id)
  replace HNb := hide (HNb.out.kept hm)
  replace b12_ := hide (b12_.out.mod hm id)
  clear hm
  go_wp2_with fail
  have HGf : Hid (∀ x : Nat, nextF (sizeE s 0) f x = if endOf s ≤ x then 0 else f x) := hide (sizeE_at HS1.out f)
  obtain ⟨f2, hf2⟩ : ∃ f2, f2 = nextF (sizeE t 0) (nextF (sizeE s 0) f) := ⟨_, rfl⟩
  rw [← hf2] at HF2 HG2
  have HNb2 : Hid (nb = nodeOf (.file t f2) (j + 1 + 1)) := hide (by rw [hf2]; exact HNEb.out)
  have hr1 : ∀ r ∈ n.map, refRun r = true := by rw [HNE.out]; exact file_runs HG.out.page
  have hr2 : ∀ r ∈ nb.map, refRun r = true := by rw [HNb2.out]; exact file_runs HG2.out.page
  have hma1 : ∀ x : Nat, x < 512 → mapGo n.map x 0 = (f x, true) := by rw [HNE.out]; exact fun x hx => map_at HG.out.page hx
  have hma2 : ∀ x : Nat, x < 512 → mapGo nb.map x 0 = (f2 x, true) := by rw [HNb2.out]; exact fun x hx => map_at HG2.out.page hx
  have HR1 := hide hr1
  have HR2 := hide hr2
  have HX1 := hide hma1
  have HX2 := hide hma2
  have HFS : Hid (∀ x : Nat, f2 x = if endOf s ≤ x then 0 else f x) := hide fun x => by rw [HF2.out x, HGf.out x]
  have HPG := hide HG2.out.page
  clear hr1 hr2 hma1 hma2 hf2 HF2 HGf HNEb HG1 HTT HT1 HNEa HNE
  obtain ⟨bl, hbl⟩ : ∃ bl, bl = w11.heap.size := ⟨_, rfl⟩
  have HBL := hide hbl
  clear hbl
  have HMZ := hide hM
  clear hM
  go_loopw [15, 14] (fun s15 s14 wr => ∃ (k : Nat) (v14 : Value), v14 = s14 ∧ k ≤ 512 ∧ s15 = .int .i64 k ∧ wr.ownsRow bl 3 1 v14 (pagesTo f2 k).length (rowOf encInt (pagesTo f2 k)) ∧ Blk wr q1_ 31 (nodeC n vm vn vl) ∧ Blk wr q11_ 31 (nodeC nb vmb vnb vlb) ∧ Mod None_ w11 wr) (fun s15 _ _ => 512 - (intOf s15).toNat)
  case atStart => exact ⟨0, _, rfl, Nat.zero_le _, rfl, ⟨rfl, .inl ⟨rfl, rfl⟩⟩, b2_.out, b12_.out, Mod.refl _ _⟩
  obtain ⟨k, v14, rfl, hk, rfl, hown, bn, bb, hMr⟩ := hrel
  by_cases hkl : k < 512
  · have hki : (k : Int) < 512 := by omega
    have x4_ : wr.cell? ⟨q1_, 4, none⟩ = some vm := bn.cell 4
    have y4_ : wr.cell? ⟨q11_, 4, none⟩ = some vmb := bb.cell 4
    go_wp2_with fail
    refine Calls.mono (mapped_any wr vm n.map (HN.out.map.kept hMr) HR1.out k (by omega) (by omega)) ?_
    rintro x wa ⟨rfl, hma⟩
    rw [HX1.out k hkl]
    replace bn := bn.mod hma id
    replace bb := bb.mod hma id
    replace hMr := hMr.trans hma
    replace hown := own_mod hown hma (fun _ _ f => f)
    have y4_ : wa.cell? ⟨q11_, 4, none⟩ = some vmb := bb.cell 4
    clear hma x4_
    have HFX := hide (HFS.out k)
    have HPY : Hid (f2 k ≠ 0 → pagesTo f2 (k + 1) = pagesTo f2 k ++ [f2 k]) := hide pagesTo_yes
    have HPN : Hid (f2 k = 0 → pagesTo f2 (k + 1) = pagesTo f2 k) := hide pagesTo_no
    have hPL := pagesTo_length f2 k
    have hpv := HPG.out k
    have HX2k := hide (HX2.out k hkl)
    obtain ⟨P, hP⟩ : ∃ P, P = pagesTo f2 k := ⟨_, rfl⟩
    rw [← hP] at HPY HPN hown hPL
    clear hP
    obtain ⟨y, hy⟩ : ∃ y, y = f2 k := ⟨_, rfl⟩
    obtain ⟨y0, hy0⟩ : ∃ y, y = f k := ⟨_, rfl⟩
    rw [← hy] at HFX HPY HPN HX2k hpv
    rw [← hy0] at HFX ⊢
    clear hy hy0
    go_wp2_with fail
    refine Calls.mono (mapped_any wa vmb nb.map (HNb.out.map.kept hMr) HR2.out k (by omega) (by omega)) ?_
    rintro x wb ⟨rfl, hma⟩
    rw [HX2k.out]
    replace bn := bn.mod hma id
    replace bb := bb.mod hma id
    replace hMr := hMr.trans hma
    replace hown := own_mod hown hma (fun _ _ f => f)
    clear hma y4_
    go_wp2_with fail
    refine Calls.mono (ends_any s wb hs0 hs2) ?_
    rintro x wx ⟨rfl, rfl⟩
    obtain ⟨en, hen⟩ : ∃ en, en = (s + 511) / 512 := ⟨_, rfl⟩
    have hFY : (en ≤ k ∧ y = 0) ∨ ((k : Int) < en ∧ y = y0) := by
      have h0 := HFX.out
      unfold endOf at h0
      rw [← hen] at h0
      by_cases hc : en ≤ (k : Int)
      · rw [if_pos hc] at h0; exact .inl ⟨hc, h0⟩
      · rw [if_neg hc] at h0; exact .inr ⟨by omega, h0⟩
    rw [← hen]
    clear hen HFX
    have hbz : bl ≤ wb.heap.size := by have := hMr.size; have := HBL.out; omega
    rcases hFY with ⟨hc, hyy⟩ | ⟨hc, hyy⟩
    · subst hyy
      have hnc : ¬ (k : Int) < en := by omega
      have HT := hide (HPN.out rfl)
      clear HPY HPN hpv hc
      go_wp2_with fail
      go_roundw
      case rel => exact ⟨k + 1, _, rfl, by omega, by simp, by rw [HT.out]; exact hown, bn, bb, hMr⟩
      case measure => simp [intOf]; omega
    · subst hyy
      by_cases hy0 : y = 0
      · subst hy0
        have HT := hide (HPN.out rfl)
        clear HPY HPN hpv
        go_wp2_with fail
        go_roundw
        case rel => exact ⟨k + 1, _, rfl, by omega, by simp, by rw [HT.out]; exact hown, bn, bb, hMr⟩
        case measure => simp [intOf]; omega
      · have HT := hide (HPY.out hy0)
        have hyp : 0 < y := by omega
        clear HPY HPN hpv hy0
        go_wp2_with ((with_reducible refine at_slot 120 ?_); refine wpList_append_row encInt 29 3 (.int .i64 0) 1 8 Tryd.underlying29 infoInt rfl (by decide) (fun _ => rfl) oneInt rfl (.tmp 117) (.tmp 119) rfl wb bl v14 P y rfl rfl wb.heap.size rfl rfl hown hbz (by unfold maxLen; omega) (by omega) ?_; intro v8 w8 hown8 hm8 hat8; have hM8 := hMr.trans' hm8 (fun g hg e => by have := (own_blk hown e.symm).1; have := HBL.out; omega); have L1 := hide hown8; have L2 := hide hM8; have L3 := hide (bn.mod hm8 (fun e => (own_ne hown bn (by decide) e.symm) rfl)); have L4 := hide (bb.mod hm8 (fun e => (own_ne hown bb (by decide) e.symm) rfl)); clear hown8 hm8 hat8 hM8 hown hMr bn bb; go_frame)
        go_roundw
        case rel => exact ⟨k + 1, _, rfl, by omega, by simp, by rw [HT.out]; exact L1.out, L3.out, L4.out, L2.out⟩
        case measure => simp [intOf]; omega
  · obtain rfl : k = 512 := by omega
    have hpg := list_of_ownRow (enc := encInt) (fun _ => rfl) hown
    have bb2 := hide bb
    clear hkl hown bn bb
    go_wp2_with ((with_reducible refine at_slot 121 ?_); refine wpList_val rfl (ex_load rfl (run_loadRow bb2.out Tryd.underlying31 rfl HIb.out)) ?_; go_frame)
    refine Calls.mono (pages_any wr nb vmb vnb vlb ((HNb.out.kept hMr).at_ (by rw [HNb2.out]; exact node_small (Nat.zero_le _)))) ?_
    rintro x wa ⟨v9, rfl, hpl, hma⟩
    rw [HNb2.out, pages_file HG2.out] at hpl
    replace hMr := hMr.trans hma
    replace hpg := hpg.kept hma
    have hv9 : v9.oneCell' = true := by obtain ⟨A, c, rfl, _⟩ := hpl; rfl
    clear hma bb2
    go_wp2_with fail
    refine Calls.mono (lawSameNumbers wa v9 v14 _ _ hpl hpg) ?_
    rintro x wb ⟨hx, hma⟩
    rw [decide_eq_true rfl] at hx
    subst hx
    have HF := hide (HMZ.out.trans (hMr.trans hma))
    clear hMr hma hpl hpg
    go_wp2
    go_ret
    exact ⟨rfl, HF.out⟩
end Go.Proofs.YtabebkffcmajkaaDoor

namespace Go.Proofs.YtabebkffcmajkaaDoor.inodeCuts
open Go.ChangeShapes Go.WideShapes Go.ChangeAt Go.RowKit
open Go.ChangeMaps (open_string shut_string)
set_option linter.unusedVariables false
theorem ownG : ownKnob Tryd.prog.godebug = none := by kernel_rfl
theorem gSteps : Tryd.prog.globalNamed "furrow/codec.steps" = some 0 := by kernel_rfl
theorem gStepsType : (Tryd.prog.globals[0]?).map (·.type) = some 170 := by kernel_rfl
theorem cellsT16 : Tryd.prog.cellsOf 170 = 16 := by kernel_rfl
theorem cellsU32 : Tryd.prog.cellsOf 150 = 1 := by kernel_rfl
theorem steps_tab {W : World} (h : laidMetH Tryd.prog Rows.inodeCutsRow.laid W) : Lib.TabIs Tryd.prog W "furrow/codec.steps" .u32 sumTab :=
  Lib.tabIs_of_head (rest := []) gSteps gStepsType Tryd.underlying170 Tryd.underlying150 cellsU32 cellsT16 h
theorem steps_of {W : World} (h : laidMetH Tryd.prog Rows.inodeCutsRow.laid W) : Steps W := by
  have ht := steps_tab h
  have hc : ∀ i : Nat, i < 16 → W.cell? ⟨0, i, none⟩ = some (.int .u32 (sumTab.getD i 0)) := fun i hi => ht.cell gSteps i hi
  exact ⟨block_lt_of_cell (hc 0 (by omega)), hc⟩
set_option maxRecDepth 100000 in
theorem contract (H : Type) (enc : TypeId × Value → H) (W : World) (base : Nat) (args : Array Value) (ds gs : List (DataW H)) (before : List MemPlace)
    (hval : ∀ (j : Nat) t v, Tryd.f8.params[j]? = some t → args[j]? = some v → Value.okWide Tryd.prog W .any base t v)
    (hW : DataW.Whole enc Tryd.prog Tryd.f8.params.toList Rows.inodeCutsSpec.vars false W args.toList ds gs before) (hL : laidMetH Tryd.prog Rows.inodeCutsRow.laid W) :
    Calls Tryd.prog 8 args W fun e W' => ∃ v, e = .returned v ∧ Rows.inodeCutsSpec.post enc Tryd.prog Tryd.f8 false true false false W args v W' := by
  have hW' := hW
  obtain ⟨p, q, hA0, hV, rfl, hfz, hnd⟩ := hW
  have hA : DataW.TrodAll enc Tryd.prog W 0 (fun _ => true) true Tryd.f8.params.toList args.toList ds p := hA0
  rw [Tryd.params8] at hA hval
  obtain ⟨v0, vs0, d0, ds0, p0, q0, hargs, rfl, rfl, h0, r0⟩ := trodAll_cons hA
  obtain ⟨v1, vs1, d1, ds1, p1, q1, rfl, rfl, rfl, h1, r1⟩ := trodAll_cons r0
  obtain ⟨v2, vs2, d2, ds2, p2, q2, rfl, rfl, rfl, h2, r2⟩ := trodAll_cons r1
  obtain ⟨rfl, rfl, rfl⟩ := trodAll_nil r2
  obtain rfl : args = #[v0, v1, v2] := by cases args; simp_all
  obtain ⟨rfl, rfl⟩ := trodVars_none hV
  have k0 := h0
  have lt0 : ∀ x ∈ p0, x.block < W.heap.size := by obtain ⟨m, hm⟩ := k0; exact DataW.trod_lt m _ _ _ hm
  obtain ⟨sa0, sl0, sc0, rfl⟩ := okWide_slice Tryd.underlying38 (hval 0 38 v0 rfl rfl)
  obtain ⟨l0, hl0, hO0⟩ := open_seeds h0 rfl
  obtain ⟨a1, rfl, rfl, rfl, w1⟩ := open_int Tryd.underlying3 (hval 1 3 v1 rfl rfl) h1
  obtain ⟨a2, rfl, rfl, rfl, w2⟩ := open_int Tryd.underlying3 (hval 2 3 v2 rfl rfl) h2
  clear hA0
  refine (lawCuts W _ l0 a1 a2 (steps_of hL) hl0 hO0 (i64_of w1) (i64_of w2)).mono fun e W' ⟨he, hm⟩ => ?_
  subst he
  have bel := hm.below
  exact ⟨_, rfl, _, _, _, [], _, [], hW', trodAll_mk1 (shut_bool Tryd.underlying4 _),
    (trodAll_cons_mk (Below.trod laidOut (by kernel_rfl) (of_decide_eq_true (by kernel_rfl)) k0 bel lt0) (trodAll_cons_mk (shut_int Tryd.underlying3 w1) (trodAll_cons_mk (shut_int Tryd.underlying3 w2) trodAll_mk0))),
    rfl, bel.frame _, fun h => by cases h⟩
/-- a world for the witness: the settled one, the table (block 0) holding what its initialiser lays -/
noncomputable def laidWorld (os : Os) : World :=
  { World.holding Tryd.prog os ⟨#[], #[], []⟩ with heap := (World.holding Tryd.prog os ⟨#[], #[], []⟩).heap.modify 0 fun
      | .cells _ t frozen => .cells (sumTab.map (Value.int .u32)).toArray t frozen
      | o => o }
theorem laid_met (os : Os) : laidMet Tryd.prog Rows.inodeCutsRow.laid ((laidWorld os).forCall (fun _ _ => 0) ⟨#[], #[.slice none 0 0, .int .i64 0, .int .i64 0], []⟩).memory :=
  laidMet_of_run' 8 (by kernel_rfl) (by kernel_rfl)
theorem reads (os : Os) {H : Type} (enc : TypeId × Value → H) : ∃ places, DataW.whole enc Tryd.prog ((laidWorld os).forCall (fun _ _ => 0) ⟨#[], #[.slice none 0 0, .int .i64 0, .int .i64 0], []⟩).memory Tryd.f8.params.toList Rows.inodeCutsSpec.vars false #[Value.slice none 0 0, .int .i64 0, .int .i64 0].toList 8 = some ([.nil, .lit (.int .i64 0), .lit (.int .i64 0)], [], places) :=
  ⟨[], by kernel_rfl⟩
set_option maxRecDepth 100000 in
theorem lifted (os : Os) (started : os.Started) (H : Type) (enc : TypeId × Value → H) (F : Stop.Interp) :
    ReturnsInHanded {} Tryd.checked os 8 .any ((OpenSpec.ofChange Rows.inodeCutsSpec).preRow enc Tryd.prog Tryd.f8 Rows.inodeCutsRow.domain false Rows.inodeCutsRow.laid) (((OpenSpec.ofChange Rows.inodeCutsSpec).at F).post enc Tryd.prog Tryd.f8 false true false false) := by
  obtain ⟨places, hx⟩ := reads os enc
  refine returnsInHanded_of_row (C := Tryd.checked) (s := OpenSpec.ofChange Rows.inodeCutsSpec) ownG started (by kernel_rfl) Tryd.func8
    (witness_row_at (enc := enc) (C := Tryd.checked) false (laidWorld os) #[.slice none 0 0, .int .i64 0, .int .i64 0] rfl (by kernel_rfl) (by kernel_rfl) (by kernel_rfl)
      (OpenSpec.preRow_of_cond 8 hx (by kernel_rfl) (fun k hk => by cases hk) (by kernel_rfl) (laid_met os))) ?_
  intro W base args ds gs before hval hW _ _ _ hL _ _
  exact contract H enc W base args ds gs before hval hW hL
theorem said : Rows.InodeCutsSaid :=
  OpenClaim.holds_of_cond 8 Tryd.f8 rfl rfl rfl rfl rfl rfl rfl ⟨rfl, rfl, rfl, rfl, rfl⟩ rfl rfl rfl rfl rfl (by kernel_rfl) Tryd.func8 (by kernel_rfl)
    (of_decide_eq_true (by kernel_rfl)) (by unfold Func.isWrapper; first | (rw [if_pos (by decide +kernel)]; kernel_rfl) | (rw [if_neg (by decide +kernel)]; exact ⟨rfl, rfl⟩))
    (fun os started H enc _ F => by rw [OpenClaim.pre_eq_preRow]; exact lifted os started H enc F)
theorem plain (f : FuncId) (fn : Func) (hf : Tryd.pinned.checked.prog.funcNamed "furrow/furrowlaw09.InodeCuts" = some f) (hfn : Tryd.pinned.checked.prog.funcs[f]? = some fn) :
    true = Tryd.pinned.checked.prog.looks [] ∧ ∀ (j : Nat) t, fn.params[j]? = some t → Tryd.pinned.checked.prog.wantsStandIn t = false := by
  obtain rfl : f = 8 := Option.some.inj ((show Tryd.prog.funcNamed "furrow/furrowlaw09.InodeCuts" = some 8 by kernel_rfl).symm.trans hf) |>.symm
  obtain rfl : fn = Tryd.f8 := (Option.some.inj (Tryd.func8.symm.trans hfn)).symm
  refine ⟨by kernel_rfl, fun j t ht => ?_⟩
  rw [Tryd.params8] at ht
  have hm := Array.mem_of_getElem? ht
  simp only [List.mem_toArray, List.mem_cons, List.not_mem_nil, or_false] at hm
  rcases hm with rfl | rfl | rfl
  · exact (show Tryd.prog.wantsStandIn 38 = false by kernel_rfl)
  · exact (show Tryd.prog.wantsStandIn 3 = false by kernel_rfl)
  · exact (show Tryd.prog.wantsStandIn 3 = false by kernel_rfl)
theorem card : Rows.InodeCutsCardSaid :=
  Claim7.holds_tied_plain_at .later [] _ _ _ _ said (fun _ h => by cases h) (by kernel_rfl) (fun _ h => by cases h) inodeCuts_row_tie rfl ⟨rfl, rfl⟩ (by kernel_rfl) rfl plain (by kernel_rfl)
end Go.Proofs.YtabebkffcmajkaaDoor.inodeCuts
namespace Go.Proofs.YtabebkffcmajkaaDoor
theorem inodeCuts_holds : Rows.InodeCutsCardSaid := inodeCuts.card
#print axioms inodeCuts_holds
end Go.Proofs.YtabebkffcmajkaaDoor
