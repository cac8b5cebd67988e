import Derived.Test.YtabebkffcmajkaaPFD
import Derived.Deep.CutRange
/-! Reference walk: Runs. -/
namespace Go.Proofs.Ytabebkffcmajkaa
open Go.RowKit Go.Maps Go.Shelf

theorem oneRun : ∀ (s : RunD), ∀ u ∈ encRun s, u.oneCell' = true := by
  intro s u hu
  simp only [encRun, List.mem_cons, List.not_mem_nil, or_false] at hu
  rcases hu with rfl | rfl | rfl <;> rfl
def RunsPost (w : World) (f : Nat → Int) : Ending → World → Prop := fun e w' => ∃ v, e = .returned v ∧ ListAt encRun 3 w' v (runsT f) ∧ Mod None_ w w'

set_option maxRecDepth 100000 in
set_option maxHeartbeats 600000 in
theorem refRuns_any (w : World) (f : Nat → Int) (hin : InR f) : Calls Try.prog 36 #[.agg (tabCells f)] w (RunsPost w f) := by
  have HI := hide hin
  clear hin
  obtain ⟨T, hT⟩ : ∃ T : Array Value, T = tabCells f := ⟨_, rfl⟩
  rw [← hT]
  have hget : ∀ i : Nat, i < 512 → T[i]? = some (.int .i64 (f i)) := fun i hi => by rw [hT]; exact tabCells_get _ hi
  have HG := hide hget
  clear hget hT
  go_enter Try.func36, Try.ntmps36
  obtain ⟨m, hm⟩ : ∃ m, m = w.heap.size := ⟨_, rfl⟩
  obtain ⟨w1, hw1⟩ : ∃ w1, w1 = w.alloc (.cells T 73) := ⟨_, rfl⟩
  have hM : Mod None_ w w1 := by rw [hw1]; exact (Mod.refl _ w).alloc _
  have b1 : Blk w1 m 73 T := by rw [hw1, hm]; exact Blk.new w 73 _
  have hgem : w.heap.size ≤ m := by omega
  have hsz : m < w1.heap.size := b1.lt
  have HW := hide hw1
  have HM := hide hm
  clear hw1 hm
  go_wp2_with fail
  rw [← HW.out, ← HM.out]
  clear HW HM
  go_loopw [4, 3] (fun s4 s3 wr => ∃ (k : Nat) (L : List RunD) (v3 : Value), v3 = s3 ∧ k ≤ 512 ∧ s4 = .int .i64 k ∧ RunsCl f k L ∧ wr.ownsRow w1.heap.size 51 3 v3 L.length (rowOf encRun L) ∧ Mod None_ w wr ∧ w1.heap.size ≤ wr.heap.size ∧ Blk wr m 73 T) (fun s4 _ _ => 512 - (intOf s4).toNat)
  case atStart => exact ⟨0, [], _, rfl, Nat.zero_le _, rfl, RunsCl.start f, ⟨rfl, .inl ⟨rfl, rfl⟩⟩, hM, Nat.le_refl _, b1⟩
  clear b1 hM
  obtain ⟨k, L, v3, rfl, hk, rfl, hcl, hown, hM, hsz1, b1⟩ := hrel
  by_cases hlt : k < 512
  · have hki : (k : Int) < 512 := by omega
    have x0 : wr.cell? ⟨m, k, none⟩ = some (.int .i64 (f k)) := by rw [b1.cell]; exact HG.out k hlt
    by_cases h0 : f k = 0
    · have hz := hcl.zero h0
      have d0 : (f k == 0) = true := by rw [h0]; rfl
      have HZ := hide hz
      clear hz h0 hcl
      go_wp2_with fail
      go_roundw
      case rel => exact ⟨k + 1, L, _, rfl, by omega, by simp, HZ.out, hown, hM, hsz1, b1⟩
      case measure => simp [intOf]; omega
    · have d0 : (f k == 0) = false := by simpa using h0
      have h1 := hcl.one HI.out hlt h0
      have HC := hide hcl
      have H0 := hide h0
      clear hcl h0
      go_wp2_with fail
      obtain ⟨wo, rfl⟩ : ∃ wo : World, wo = wr := ⟨_, rfl⟩
      go_loopw [5] (fun s5 wv => ∃ n : Nat, 1 ≤ n ∧ k + n ≤ 512 ∧ s5 = .int .i64 n ∧ runsTo f (k + n) = L ++ [⟨k, f k, n⟩] ∧ Mod None_ wo wv) (fun s5 _ => 512 - (intOf s5).toNat)
      case atStart => exact ⟨1, Nat.le_refl _, by omega, rfl, h1, Mod.refl _ _⟩
      clear h1
      obtain ⟨n, hn1, hn, rfl, hru, hmo⟩ := hrel
      have hLk := HC.out.len
      obtain ⟨q, hq⟩ : ∃ q, q = k + n := ⟨_, rfl⟩
      have ekn : (k : Int) + n = (q : Int) := by omega
      rw [← hq] at hru
      have hfk := HI.out k
      have HRU := hide hru
      clear hru
      have eq1 : IntKind.i64.wrap (q : Int) = q := IntWalk.i64_in _ (by omega)
      have eq2 : IntKind.i64.wrap (f k + (n : Int)) = f k + n := IntWalk.i64_in _ (by omega)
      have HQ := hide hq
      clear hq
      go_upto_region 7 with fail
      go_cut [30] from 14 to 30 (fun s wx => s = .bool (decide (q < 512 ∧ f q = f k + n)) ∧ Mod None_ wo wx)
      case first =>
        by_cases hc1 : q < 512
        · have hi1 : (q : Int) < 512 := by omega
          by_cases hc2 : f q = f k + n
          · have d2 : (f q == f k + n) = true := by rw [hc2]; simp
            have HD : Hid (decide (q < 512 ∧ f q = f k + n) = true) := hide (decide_eq_true ⟨hc1, hc2⟩)
            clear hfk hc2
            go_wp2_with fail
            refine region_stw (by kernel_rfl) (by kernel_rfl) ?_
            rintro w3 hw3
            have hm3 : Mod None_ wo w3 := by rw [hw3]; exact hmo.drew
            have b3 := b1.mod hm3 id
            have y0 : w3.cell? ⟨m, k, none⟩ = some (.int .i64 (f k)) := by rw [b3.cell]; exact HG.out k hlt
            have y1 : w3.cell? ⟨m, q, none⟩ = some (.int .i64 (f q)) := by rw [b3.cell]; exact HG.out q hc1
            clear hw3 hmo x0
            repeat (refine stw_step (fun K hK => ?_); go_simp; refine hK _ ?_; clear hK K)
            refine stw_nil ?_
            go_wp2_with fail
            go_meet
            case rel => exact ⟨by rw [HD.out], hm3⟩
          · have d2 : (f q == f k + n) = false := by simpa using hc2
            have HD : Hid (decide (q < 512 ∧ f q = f k + n) = false) := hide (decide_eq_false (fun h => hc2 h.2))
            clear hfk hc2
            go_wp2_with fail
            refine region_stw (by kernel_rfl) (by kernel_rfl) ?_
            rintro w3 hw3
            have hm3 : Mod None_ wo w3 := by rw [hw3]; exact hmo.drew
            have b3 := b1.mod hm3 id
            have y0 : w3.cell? ⟨m, k, none⟩ = some (.int .i64 (f k)) := by rw [b3.cell]; exact HG.out k hlt
            have y1 : w3.cell? ⟨m, q, none⟩ = some (.int .i64 (f q)) := by rw [b3.cell]; exact HG.out q hc1
            clear hw3 hmo x0
            repeat (refine stw_step (fun K hK => ?_); go_simp; refine hK _ ?_; clear hK K)
            refine stw_nil ?_
            go_wp2_with fail
            go_meet
            case rel => exact ⟨by rw [HD.out], hm3⟩
        · have hi1 : ¬ (q : Int) < 512 := by omega
          have d9 : decide ((q : Int) < 512) = false := decide_eq_false hi1
          have HD : Hid (decide (q < 512 ∧ f q = f k + n) = false) := hide (decide_eq_false (fun h => hc1 h.1))
          clear hfk
          go_wp2_with fail
          refine region_stw (by kernel_rfl) (by kernel_rfl) ?_
          rintro w3 hw3
          have hm3 : Mod None_ wo w3 := by rw [hw3]; exact hmo.drew
          clear hw3 hmo x0
          repeat (refine stw_step (fun K hK => ?_); go_simp; refine hK _ ?_; clear hK K)
          refine stw_nil ?_
          go_wp2_with fail
          go_meet
          case rel => exact ⟨by rw [HD.out], hm3⟩
      case rest =>
        obtain ⟨rfl, hmc⟩ := hcut
        clear hmo
        by_cases hc : q < 512 ∧ f q = f k + n
        · rw [decide_eq_true hc]
          have hmore := run_more (n := n) (by rw [← HQ.out]; exact HRU.out) HI.out H0.out (by rw [← HQ.out]; exact hc.1) (by rw [← HQ.out]; exact hc.2)
          have HMO := hide hmore
          have hq5 : n + 1 ≤ 512 - k := by have := HQ.out; omega
          clear hmore hc hfk eq1 eq2 ekn
          go_wp2_with fail
          go_roundw
          case rel => exact ⟨n + 1, by omega, by omega, by simp, HMO.out, hmc⟩
          case measure => simp [intOf]; omega
        · rw [decide_eq_false hc]
          have hend := run_end (n := n) HC.out HI.out (by rw [← HQ.out]; exact HRU.out) H0.out hn1 (by rw [← HQ.out]; exact fun h e => hc ⟨h, e⟩)
          have HE := hide hend
          have b3 := b1.mod hmc id
          have x1 : wc.cell? ⟨m, k, none⟩ = some (.int .i64 (f k)) := by rw [b3.cell]; exact HG.out k hlt
          have hownc := own_mod hown hmc (fun _ _ f => f)
          have hMc := hM.trans hmc
          have hszc := Nat.le_trans hsz1 hmc.size
          clear hend hc eq1 eq2 x0 hown hM hsz1 b1 hmc
          have hLn : L.length ≤ 512 := by omega
          go_wp2_with ((with_reducible refine at_slot 41 ?_); refine wpList_append_row encRun 22 51 (.agg #[.int .i64 0, .int .i64 0, .int .i64 0]) 3 24 Try.underlying22 infoRun rfl (by decide) (fun _ => rfl) oneRun rfl (.tmp 33) (.tmp 40) rfl wc w1.heap.size v3 L ⟨k, f k, n⟩ rfl rfl wc.heap.size rfl rfl hownc hszc (by unfold maxLen; omega) (by omega) ?_; intro v8 w8 hown8 hm8 hat8
                       have hM8 := hMc.trans' hm8 (fun g hg e => by have := (own_blk hownc e.symm).1; omega)
                       have hz8 := Nat.le_trans hszc hm8.size
                       have b8 := b3.mod hm8 (fun e => by have := (own_blk hownc e.symm).1; omega)
                       have L1 := hide hown8
                       have L2 := hide hM8
                       have L3 := hide hz8
                       have L4 := hide b8
                       clear hown8 hm8 hat8 hM8 hz8 b8 hownc hMc hszc b3 x1
                       go_frame)
          go_roundw
          case rel => exact ⟨q, _, _, rfl, by omega, by simp, by rw [HQ.out]; exact HE.out, L1.out, L2.out, L3.out, L4.out⟩
          case measure => simp [intOf]; omega
  · obtain rfl : k = 512 := by omega
    have hfin : RunsPost w f (.returned v3) wr := by
      unfold RunsPost
      rw [RunsCl.done hcl]
      exact ⟨_, rfl, list_of_ownRow (enc := encRun) (fun _ => rfl) hown, hM⟩
    have HF := hide hfin
    clear hfin hown hM hcl hlt
    go_wp2
    go_ret
    exact HF.out
end Go.Proofs.Ytabebkffcmajkaa
