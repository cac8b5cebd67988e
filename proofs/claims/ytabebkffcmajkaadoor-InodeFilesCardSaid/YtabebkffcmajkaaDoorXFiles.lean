/-
  InodeFiles: for every list of seeds the law returns true, and its argument reads as it did. (The table of the sums is laid by the program's text.)
-/
import Derived.Test.YtabebkffcmajkaaDoorCards
import Derived.Test.YtabebkffcmajkaaDoorTie
import Derived.WalkKit
import Derived.ProofKit
import Derived.OpenShut
import Derived.ShutString
import Derived.Deep.DeepHandedRow
import Derived.Lib.LaidTab
import Derived.Test.YtabebkffcmajkaaDoorG10
set_option linter.unusedVariables false
set_option linter.unusedSimpArgs false
/-! Law walk: InodeFiles. -/
namespace Go.Proofs.YtabebkffcmajkaaDoor
open Go.RowKit Go.Maps Go.Shelf
attribute [local go_sem] quietV loudUpon Oper.semAt_some

theorem file_replay (l : List SeedD) : ∃ z f, z = lastSize 0 (writtenL l) ∧ replayErr 1 (writtenL l) = 0 ∧ replayN 1 (writtenL l) = nodeOf (.file z f) (writtenL l).length ∧ PageF f ∧ (0 ≤ z ∧ z ≤ 262144) ∧ FitD (.file z f) ∧ (∀ x : Nat, f x = atR (writtenL l).reverse x) := by
  obtain ⟨f, hp, hf⟩ := written_replay l
  have hp' : playD (zeroD 1) (writtenL l) = (0, .file (lastSize 0 (writtenL l)) f) := hp
  obtain ⟨h1, h2, h3, h4⟩ := replay_ok (k := 1) (.inl rfl) hp'
  exact ⟨_, f, rfl, h1, h2, h3.2, h3.1, h4, hf⟩
theorem file_sep {z : Int} {f : Nat → Int} {j : Nat} (h : PageF f) : (nodeOf (.file z f) j).map.Pairwise Apart2 := by
  rw [nodeOf_map]; exact (runs_sep h.inr 512 (Nat.le_refl _)).apart
theorem file_runs {z : Int} {f : Nat → Int} {j : Nat} (h : PageF f) : ∀ r ∈ (nodeOf (.file z f) j).map, refRun r = true := by
  rw [nodeOf_map]; exact runs_good h

set_option maxRecDepth 100000 in
set_option maxHeartbeats 4000000 in
theorem lawFiles (w : World) (v : Value) (l : List SeedD) (hs : Steps w) (h : ListAt encSeed 6 w v l) (hO : ∀ x ∈ l, x.Ok) : Calls Tryd.prog 4 #[v] w (BoolPost w true) := by
  have hv1 : v.oneCell' = true := by obtain ⟨A, c, rfl, _⟩ := h; rfl
  have HW := hide (written_any w v l h hO)
  have HS := hide hs
  clear h hO hs
  go_enter Tryd.func4, Tryd.ntmps4
  go_wp2_with fail
  refine Calls.mono HW.out ?_
  rintro e w1 ⟨v1, rfl, hown1, hM1⟩
  obtain ⟨z, f, hz, hre, hrn, hpf, hzz, hfit, hat⟩ := file_replay l
  have hfile := written_file l
  have hlen := writtenL_length l
  obtain ⟨L, hL⟩ : ∃ L, L = writtenL l := ⟨_, rfl⟩
  rw [← hL] at hown1 hz hre hrn hat hfile hlen
  have hl60 : L.length ≤ 60 := by omega
  obtain ⟨A1, c1, rfl⟩ := own_slice hown1
  have hl1 := list_of_ownRow (enc := encEntry) (fun _ => rfl) hown1
  have HL1 := hide hl1
  have HZ := hide hz
  have HFI := hide hfile
  have HAT := hide hat
  clear HW hL hown1 hlen hz hfile hat
  go_wp2_with fail
  refine (copyEntries_any w1 _ L HL1.out (by omega)).mono ?_
  rintro e w2 ⟨v2, rfl, hown2, hM2⟩
  have hl2 := list_of_ownRow (enc := encEntry) (fun _ => rfl) hown2
  have hM2t := hM1.trans hM2
  have HRP := hide (replay_any w2 1 v2 L (HS.out.kept hM2t) hl2 (by omega))
  clear hown2 hl2
  go_wp2_with fail
  refine Calls.mono HRP.out ?_
  rintro e w3 ⟨vm, vn, vl, rfl, hO3, hM3⟩
  rw [hre, hrn]
  rw [hrn] at hO3
  obtain ⟨n, hn⟩ : ∃ n, n = nodeOf (.file z f) L.length := ⟨_, rfl⟩
  rw [← hn] at hO3 ⊢
  have n1 : n.kind = 1 := by rw [hn]; rfl
  have n3 : n.size = z := by rw [hn]; rfl
  have n9 : n.entries = L.length := by rw [hn]; rfl
  have n5 : n.names.length = 0 := by rw [hn]; rfl
  have hmap := list_of_ownRow (enc := encRun) (fun _ => rfl) hO3.map
  have hr : ∀ r ∈ n.map, refRun r = true := by rw [hn]; exact file_runs hpf
  have ha : n.map.Pairwise Apart2 := by rw [hn]; exact file_sep hpf
  have hma : ∀ x : Nat, x < 512 → mapGo n.map x 0 = (f x, true) := by rw [hn]; exact fun x hx => map_at hpf hx
  have hnn := hO3.names
  rw [n5] at hnn
  obtain ⟨An, cn, rfl⟩ := own_slice hnn
  have hv2 : vm.oneCell' = true := by obtain ⟨A, c, rfl, _⟩ := hmap; rfl
  have hv3 : vl.oneCell' = true := by obtain ⟨A, c, rfl, _⟩ := list_of_ownRow (enc := encInt) (fun _ => rfl) hO3.log; rfl
  have hM3t := hM2t.trans hM3
  obtain ⟨q, hq⟩ : ∃ q, q = w3.heap.size := ⟨_, rfl⟩
  obtain ⟨w4, hw4⟩ : ∃ w4, w4 = w3.alloc (.cells (nodeC n vm (.slice An 0 cn) vl) 31) := ⟨_, rfl⟩
  have hm4 : Mod None_ w3 w4 := by rw [hw4]; exact (Mod.refl _ w3).alloc _
  have b4 : Blk w4 q 31 (nodeC n vm (.slice An 0 cn) vl) := by rw [hw4, hq]; exact Blk.new w3 _ _
  have hM4 := hM3t.trans hm4
  have HM1 := hide hM1
  have HMA := hide (hmap.kept hm4)
  have HR := hide hr
  have HA := hide ha
  have HMG := hide hma
  have HI := hide (infoNode n vm (.slice An 0 cn) vl)
  have HO1 := hide (nodeC_one n vm (.slice An 0 cn) vl hv2 rfl hv3)
  have HW4 := hide hw4
  have HQ := hide hq
  have HPF := hide hpf
  have hLL1 := HL1.out.kept ((hM2.trans hM3).trans hm4)
  have HLL := hide hLL1
  clear HRP hre hrn hO3 hn hmap hr ha hma hnn hM1 hM2 hM3 hm4 hM2t hM3t hw4 hq hpf HL1 hLL1
  go_upto_region 3 with ((with_reducible refine at_slot 4 ?_); refine wpList_declare rfl rfl 31 4 (.tmp 16) rfl rfl rfl zeroNode (nodeC n vm (.slice An 0 cn) vl) zeroNodeV HI.out (nodeC_size _ _ _ _) HO1.out (by simp) rfl ?_; go_frame; rw [← HW4.out, ← HQ.out])
  have c1_ : w4.cell? ⟨q, 1, none⟩ = some (.int .i64 1) := by rw [← n1]; exact b4.cell 1
  have c3_ : w4.cell? ⟨q, 3, none⟩ = some (.int .i64 z) := by rw [← n3]; exact b4.cell 3
  have c4_ : w4.cell? ⟨q, 4, none⟩ = some vm := b4.cell 4
  have c5_ : w4.cell? ⟨q, 5, none⟩ = some (.slice An 0 cn) := b4.cell 5
  have c9_ : w4.cell? ⟨q, 9, none⟩ = some (.int .i64 L.length) := by rw [← n9]; exact b4.cell 9
  have hln : ∀ w A (n c : Nat), (Builtin.len_ #[22] 3 #[.slice A n c]).run Tryd.prog w = .ok (.int .i64 n) w := fun w A n c => by simp [Builtin.len_, run_underlying Tryd.underlying22]; rfl
  have hld : ∀ w A (n c : Nat), (Builtin.len_ #[28] 3 #[.slice A n c]).run Tryd.prog w = .ok (.int .i64 n) w := fun w A n c => by simp [Builtin.len_, run_underlying Tryd.underlying28]; rfl
  have hzs : L.length = 0 ∧ z = 0 ∨ 0 < L.length ∧ ∃ e : EntD, e.size = z ∧ L[L.length - 1]? = some e := by
    rw [HZ.out]
    by_cases h0 : L.length = 0
    · left; rw [List.length_eq_zero_iff.1 h0]; exact ⟨rfl, rfl⟩
    · right
      refine ⟨by omega, L[L.length - 1]'(by omega), ?_, List.getElem?_eq_getElem _⟩
      unfold lastSize
      rw [List.getLast?_eq_getElem?, List.getElem?_eq_getElem (by omega)]; rfl
  obtain ⟨_, _, hcv, hca, hcb, hcell⟩ := HLL.out
  simp only [Value.slice.injEq, true_and] at hcv
  obtain ⟨rfl, rfl⟩ := hcv
  have HLN := hide hln
  have hN : Hid (n.kind = 1 ∧ n.size = z ∧ n.entries = L.length) := hide ⟨n1, n3, n9⟩
  clear n1 n3 n9 hca hcb
  rcases hzs with ⟨h0, hz0⟩ | ⟨h0, e, hez, hel⟩
  · have h0i : decide (0 < L.length) = false := decide_eq_false (by omega)
    clear h0
    have c3_ : w4.cell? ⟨q, 3, none⟩ = some (.int .i64 0) := by rw [← hz0]; exact c3_
    go_upto_region 8 with fail
    clear hcell
    go_wp2_with fail
    refine Calls.mono (longest_any w4 vm n.map HMA.out HR.out HA.out) ?_
    rintro x w5 ⟨rfl, hm5⟩
    have b5 := b4.mod hm5 id
    have HM4 := hide hM4
    clear c1_ c3_ c4_ c5_ c9_ b4 hM4
    go_wp2_with fail
    go_loopw [7] (fun s7 wr => ∃ k : Nat, k ≤ 512 ∧ s7 = .int .i64 k ∧ Blk wr q 31 (nodeC n vm (.slice An 0 cn) vl) ∧ Mod None_ w4 wr) (fun s7 _ => 512 - (intOf s7).toNat)
    case atStart => exact ⟨0, Nat.zero_le _, rfl, b5, hm5⟩
    clear b5 hm5
    obtain ⟨k, hk, rfl, br, hMr⟩ := hrel
    by_cases hkl : k < 512
    · have hki : (k : Int) < 512 := by omega
      have c4_ : wr.cell? ⟨q, 4, none⟩ = some vm := br.cell 4
      go_wp2_with fail
      refine Calls.mono (mapped_any wr vm n.map (HMA.out.kept hMr) HR.out k (by omega) (by omega)) ?_
      rintro x w6 ⟨rfl, hm6⟩
      rw [HMG.out k hkl]
      have b6 := br.mod hm6 id
      have hM6 := hMr.trans hm6
      have HFX := hide (HAT.out k)
      obtain ⟨p, hp⟩ : ∃ p, p = f k := ⟨_, rfl⟩
      rw [← hp] at HFX ⊢
      clear br hMr hm6 hp c4_
      go_wp2_with fail
      refine Calls.mono (at_any w6 _ L (HLL.out.kept hM6) HFI.out k (by omega) (by omega)) ?_
      rintro x w7 ⟨rfl, hm7⟩
      rw [← HFX.out]
      have b7 := b6.mod hm7 id
      have hM7 := hM6.trans hm7
      clear b6 hM6 hm7
      go_wp2_with fail
      go_roundw
      case rel => exact ⟨k + 1, by omega, by simp, b7, hM7⟩
      case measure => simp [intOf]; omega
    · obtain rfl : k = 512 := by omega
      have HF := hide (HM4.out.trans hMr)
      clear br hMr
      go_wp2
      go_ret
      exact ⟨rfl, HF.out⟩
  · have h0i : decide (0 < L.length) = true := decide_eq_true (by omega)
    obtain ⟨g, o, rfl, hg, hc⟩ := hcell h0
    obtain ⟨hlt, hee⟩ := List.getElem?_eq_some_iff.1 hel
    have x5 : w4.cell? ⟨g, o + (L.length - 1) * 8 + 5, none⟩ = some (.int .i64 z) := by
      have := hc _ hlt 5 (.int .i64 z) (by rw [hee, ← hez]; rfl)
      exact this
    go_upto_region 8 with fail
    clear x5 hee hc
    clear hcell
    go_wp2_with fail
    refine Calls.mono (longest_any w4 vm n.map HMA.out HR.out HA.out) ?_
    rintro x w5 ⟨rfl, hm5⟩
    have b5 := b4.mod hm5 id
    have HM4 := hide hM4
    clear c1_ c3_ c4_ c5_ c9_ b4 hM4
    go_wp2_with fail
    go_loopw [7] (fun s7 wr => ∃ k : Nat, k ≤ 512 ∧ s7 = .int .i64 k ∧ Blk wr q 31 (nodeC n vm (.slice An 0 cn) vl) ∧ Mod None_ w4 wr) (fun s7 _ => 512 - (intOf s7).toNat)
    case atStart => exact ⟨0, Nat.zero_le _, rfl, b5, hm5⟩
    clear b5 hm5
    obtain ⟨k, hk, rfl, br, hMr⟩ := hrel
    by_cases hkl : k < 512
    · have hki : (k : Int) < 512 := by omega
      have c4_ : wr.cell? ⟨q, 4, none⟩ = some vm := br.cell 4
      go_wp2_with fail
      refine Calls.mono (mapped_any wr vm n.map (HMA.out.kept hMr) HR.out k (by omega) (by omega)) ?_
      rintro x w6 ⟨rfl, hm6⟩
      rw [HMG.out k hkl]
      have b6 := br.mod hm6 id
      have hM6 := hMr.trans hm6
      have HFX := hide (HAT.out k)
      obtain ⟨p, hp⟩ : ∃ p, p = f k := ⟨_, rfl⟩
      rw [← hp] at HFX ⊢
      clear br hMr hm6 hp c4_
      go_wp2_with fail
      refine Calls.mono (at_any w6 _ L (HLL.out.kept hM6) HFI.out k (by omega) (by omega)) ?_
      rintro x w7 ⟨rfl, hm7⟩
      rw [← HFX.out]
      have b7 := b6.mod hm7 id
      have hM7 := hM6.trans hm7
      clear b6 hM6 hm7
      go_wp2_with fail
      go_roundw
      case rel => exact ⟨k + 1, by omega, by simp, b7, hM7⟩
      case measure => simp [intOf]; omega
    · obtain rfl : k = 512 := by omega
      have HF := hide (HM4.out.trans hMr)
      clear br hMr
      go_wp2
      go_ret
      exact ⟨rfl, HF.out⟩
end Go.Proofs.YtabebkffcmajkaaDoor

namespace Go.Proofs.YtabebkffcmajkaaDoor.inodeFiles
open Go.ChangeShapes Go.WideShapes Go.ChangeAt Go.RowKit
open Go.ChangeMaps (open_string shut_string)
set_option linter.unusedVariables false
theorem ownG : ownKnob Tryd.prog.godebug = none := by kernel_rfl
theorem gSteps : Tryd.prog.globalNamed "furrow/codec.steps" = some 0 := by kernel_rfl
theorem gStepsType : (Tryd.prog.globals[0]?).map (·.type) = some 170 := by kernel_rfl
theorem cellsT16 : Tryd.prog.cellsOf 170 = 16 := by kernel_rfl
theorem cellsU32 : Tryd.prog.cellsOf 150 = 1 := by kernel_rfl
theorem steps_tab {W : World} (h : laidMetH Tryd.prog Rows.inodeFilesRow.laid W) : Lib.TabIs Tryd.prog W "furrow/codec.steps" .u32 sumTab :=
  Lib.tabIs_of_head (rest := []) gSteps gStepsType Tryd.underlying170 Tryd.underlying150 cellsU32 cellsT16 h
theorem steps_of {W : World} (h : laidMetH Tryd.prog Rows.inodeFilesRow.laid W) : Steps W := by
  have ht := steps_tab h
  have hc : ∀ i : Nat, i < 16 → W.cell? ⟨0, i, none⟩ = some (.int .u32 (sumTab.getD i 0)) := fun i hi => ht.cell gSteps i hi
  exact ⟨block_lt_of_cell (hc 0 (by omega)), hc⟩
set_option maxRecDepth 100000 in
theorem contract (H : Type) (enc : TypeId × Value → H) (W : World) (base : Nat) (args : Array Value) (ds gs : List (DataW H)) (before : List MemPlace)
    (hval : ∀ (j : Nat) t v, Tryd.f4.params[j]? = some t → args[j]? = some v → Value.okWide Tryd.prog W .any base t v)
    (hW : DataW.Whole enc Tryd.prog Tryd.f4.params.toList Rows.inodeFilesSpec.vars false W args.toList ds gs before) (hL : laidMetH Tryd.prog Rows.inodeFilesRow.laid W) :
    Calls Tryd.prog 4 args W fun e W' => ∃ v, e = .returned v ∧ Rows.inodeFilesSpec.post enc Tryd.prog Tryd.f4 false true false false W args v W' := by
  have hW' := hW
  obtain ⟨p, q, hA0, hV, rfl, hfz, hnd⟩ := hW
  have hA : DataW.TrodAll enc Tryd.prog W 0 (fun _ => true) true Tryd.f4.params.toList args.toList ds p := hA0
  rw [Tryd.params4] at hA hval
  obtain ⟨v0, vs0, d0, ds0, p0, q0, hargs, rfl, rfl, h0, r0⟩ := trodAll_cons hA
  obtain ⟨rfl, rfl, rfl⟩ := trodAll_nil r0
  obtain rfl : args = #[v0] := by cases args; simp_all
  obtain ⟨rfl, rfl⟩ := trodVars_none hV
  have k0 := h0
  have lt0 : ∀ x ∈ p0, x.block < W.heap.size := by obtain ⟨m, hm⟩ := k0; exact DataW.trod_lt m _ _ _ hm
  obtain ⟨sa0, sl0, sc0, rfl⟩ := okWide_slice Tryd.underlying38 (hval 0 38 v0 rfl rfl)
  obtain ⟨l0, hl0, hO0⟩ := open_seeds h0 rfl
  clear hA0
  refine (lawFiles W _ l0 (steps_of hL) hl0 hO0).mono fun e W' ⟨he, hm⟩ => ?_
  subst he
  have bel := hm.below
  exact ⟨_, rfl, _, _, _, [], _, [], hW', trodAll_mk1 (shut_bool Tryd.underlying4 _),
    (trodAll_cons_mk (Below.trod laidOut (by kernel_rfl) (of_decide_eq_true (by kernel_rfl)) k0 bel lt0) trodAll_mk0),
    rfl, bel.frame _, fun h => by cases h⟩
/-- a world for the witness: the settled one, the table (block 0) holding what its initialiser lays -/
noncomputable def laidWorld (os : Os) : World :=
  { World.holding Tryd.prog os ⟨#[], #[], []⟩ with heap := (World.holding Tryd.prog os ⟨#[], #[], []⟩).heap.modify 0 fun
      | .cells _ t frozen => .cells (sumTab.map (Value.int .u32)).toArray t frozen
      | o => o }
theorem laid_met (os : Os) : laidMet Tryd.prog Rows.inodeFilesRow.laid ((laidWorld os).forCall (fun _ _ => 0) ⟨#[], #[.slice none 0 0], []⟩).memory :=
  laidMet_of_run' 8 (by kernel_rfl) (by kernel_rfl)
theorem reads (os : Os) {H : Type} (enc : TypeId × Value → H) : ∃ places, DataW.whole enc Tryd.prog ((laidWorld os).forCall (fun _ _ => 0) ⟨#[], #[.slice none 0 0], []⟩).memory Tryd.f4.params.toList Rows.inodeFilesSpec.vars false #[Value.slice none 0 0].toList 8 = some ([.nil], [], places) :=
  ⟨[], by kernel_rfl⟩
set_option maxRecDepth 100000 in
theorem lifted (os : Os) (started : os.Started) (H : Type) (enc : TypeId × Value → H) (F : Stop.Interp) :
    ReturnsInHanded {} Tryd.checked os 4 .any ((OpenSpec.ofChange Rows.inodeFilesSpec).preRow enc Tryd.prog Tryd.f4 Rows.inodeFilesRow.domain false Rows.inodeFilesRow.laid) (((OpenSpec.ofChange Rows.inodeFilesSpec).at F).post enc Tryd.prog Tryd.f4 false true false false) := by
  obtain ⟨places, hx⟩ := reads os enc
  refine returnsInHanded_of_row (C := Tryd.checked) (s := OpenSpec.ofChange Rows.inodeFilesSpec) ownG started (by kernel_rfl) Tryd.func4
    (witness_row_at (enc := enc) (C := Tryd.checked) false (laidWorld os) #[.slice none 0 0] rfl (by kernel_rfl) (by kernel_rfl) (by kernel_rfl)
      (OpenSpec.preRow_of_cond 8 hx (by kernel_rfl) (fun k hk => by cases hk) (by kernel_rfl) (laid_met os))) ?_
  intro W base args ds gs before hval hW _ _ _ hL _ _
  exact contract H enc W base args ds gs before hval hW hL
theorem said : Rows.InodeFilesSaid :=
  OpenClaim.holds_of_cond 4 Tryd.f4 rfl rfl rfl rfl rfl rfl rfl ⟨rfl, rfl, rfl, rfl, rfl⟩ rfl rfl rfl rfl rfl (by kernel_rfl) Tryd.func4 (by kernel_rfl)
    (of_decide_eq_true (by kernel_rfl)) (by unfold Func.isWrapper; first | (rw [if_pos (by decide +kernel)]; kernel_rfl) | (rw [if_neg (by decide +kernel)]; exact ⟨rfl, rfl⟩))
    (fun os started H enc _ F => by rw [OpenClaim.pre_eq_preRow]; exact lifted os started H enc F)
theorem plain (f : FuncId) (fn : Func) (hf : Tryd.pinned.checked.prog.funcNamed "furrow/furrowlaw09.InodeFiles" = some f) (hfn : Tryd.pinned.checked.prog.funcs[f]? = some fn) :
    true = Tryd.pinned.checked.prog.looks [] ∧ ∀ (j : Nat) t, fn.params[j]? = some t → Tryd.pinned.checked.prog.wantsStandIn t = false := by
  obtain rfl : f = 4 := Option.some.inj ((show Tryd.prog.funcNamed "furrow/furrowlaw09.InodeFiles" = some 4 by kernel_rfl).symm.trans hf) |>.symm
  obtain rfl : fn = Tryd.f4 := (Option.some.inj (Tryd.func4.symm.trans hfn)).symm
  refine ⟨by kernel_rfl, fun j t ht => ?_⟩
  rw [Tryd.params4] at ht
  have hm := Array.mem_of_getElem? ht
  simp only [List.mem_toArray, List.mem_cons, List.not_mem_nil, or_false] at hm
  rcases hm with rfl
  · exact (show Tryd.prog.wantsStandIn 38 = false by kernel_rfl)
theorem card : Rows.InodeFilesCardSaid :=
  Claim7.holds_tied_plain_at .later [] _ _ _ _ said (fun _ h => by cases h) (by kernel_rfl) (fun _ h => by cases h) inodeFiles_row_tie rfl ⟨rfl, rfl⟩ (by kernel_rfl) rfl plain (by kernel_rfl)
end Go.Proofs.YtabebkffcmajkaaDoor.inodeFiles
namespace Go.Proofs.YtabebkffcmajkaaDoor
theorem inodeFiles_holds : Rows.InodeFilesCardSaid := inodeFiles.card
#print axioms inodeFiles_holds
end Go.Proofs.YtabebkffcmajkaaDoor
