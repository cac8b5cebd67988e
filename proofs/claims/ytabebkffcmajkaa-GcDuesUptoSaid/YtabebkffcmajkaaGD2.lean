import Derived.Test.YtabebkffcmajkaaGD1
import Derived.Test.YtabebkffcmajkaaLWC
/-! Walks: gc's Want and Due, and the reference's. -/
namespace Go.Proofs.Ytabebkffcmajkaa
open Go.RowKit Go.Maps Go.Shelf
attribute [local go_sem] quietV loudUpon Oper.semAt_some

def encSl (x : Option Addr × Nat × Nat) : List Value := [.slice x.1 x.2.1 x.2.2]
theorem oneSl : ∀ (x : Option Addr × Nat × Nat), ∀ u ∈ encSl x, u.oneCell' = true := by
  intro x u hu
  simp only [encSl, List.mem_singleton] at hu
  subst hu; rfl
theorem infoSl : (Try.prog.info? 29).map (fun i => (i.zero, i.size, i.bytes)) = some (some (.slice none 0 0), 1, 24) := by kernel_rfl

set_option maxRecDepth 100000 in
set_option maxHeartbeats 1000000 in
theorem byPage_any (w : World) (v : Value) (L : List EntD) (h : ListAt encEntry 8 w v L) (hL : L.length ≤ 1000000000) : Calls Try.prog 27 #[v] w fun e w' => ∃ A c, e = .returned (.slice A ((L.length + 6) / 7) c) ∧ Mod None_ w w' := by
  obtain ⟨A, c, rfl, hc1, hc2, hA⟩ := h
  unfold maxLen at hc2
  have hll : ∀ w, (Builtin.len_ #[29] 3 #[.slice A L.length c]).run Try.prog w = .ok (.int .i64 L.length) w := fun w => by simp [Builtin.len_, run_underlying Try.underlying29]; rfl
  go_enter Try.func27, Try.ntmps27
  go_wp2_with fail
  go_loopw [4, 3] (fun s4 s3 wr => ∃ (k : Nat) (R : List (Option Addr × Nat × Nat)) (v3 : Value), v3 = s3 ∧ 7 * k ≤ L.length + 6 ∧ s4 = .int .i64 ((7 * k : Nat) : Int) ∧ R.length = k ∧ wr.ownsRow w.heap.size 29 1 v3 R.length (rowOf encSl R) ∧ Mod None_ w wr) (fun s4 _ _ => L.length - (intOf s4).toNat)
  case atStart => exact ⟨0, [], _, rfl, by omega, rfl, rfl, ⟨rfl, .inl ⟨rfl, rfl⟩⟩, Mod.refl _ _⟩
  obtain ⟨k, R, v3, rfl, hk, rfl, hR, hown, hM⟩ := hrel
  obtain ⟨q, hq⟩ : ∃ q, q = 7 * k := ⟨_, rfl⟩
  rw [← hq] at hk ⊢
  by_cases hlt : q < L.length
  · have hqi : (q : Int) < L.length := by omega
    obtain ⟨g, o, rfl, hg, _⟩ := hA (by omega)
    obtain ⟨t, ht⟩ : ∃ t : Nat, t = min (q + 7) L.length := ⟨_, rfl⟩
    have em : min ((q : Int) + 7) (L.length : Int) = (t : Int) := by omega
    have et : q ≤ t ∧ t ≤ L.length := by omega
    obtain ⟨et1, et2⟩ := et
    have eti1 : (q : Int) ≤ t := by omega
    have eti2 : (t : Int) ≤ c := by omega
    have E7 : Hid ((q : Int) + 7 = ((7 * (k + 1) : Nat) : Int)) := hide (by omega)
    have hRl : R.length ≤ 1000000000 := by omega
    have hbz := hM.size
    have HQ := hide hq
    have HR := hide hR
    clear hq hR ht
    go_wp2_with ((with_reducible refine at_slot 24 ?_); refine wpList_append_row encSl 61 29 (.slice none 0 0) 1 24 Try.underlying61 infoSl rfl (by decide) (fun _ => rfl) oneSl rfl (.tmp 17) (.tmp 23) rfl wr w.heap.size v3 R (some ⟨g, o + q * 8, none⟩, t - q, t - q) rfl rfl wr.heap.size rfl rfl hown hbz (by unfold maxLen; omega) (by omega) ?_; intro v8 w8 hown8 hm8 hat8
                 have hM8 := hM.trans' hm8 (fun g hg e => by have := (own_blk hown e.symm).1; omega)
                 have L1 := hide hown8
                 have L2 := hide hM8
                 clear hown8 hm8 hat8 hM8 hown hM
                 go_frame)
    go_roundw
    case rel => exact ⟨k + 1, _, _, rfl, by have := HQ.out; omega, by rw [← E7.out], by rw [List.length_append, HR.out]; rfl, L1.out, L2.out⟩
    case measure => simp [intOf]; omega
  · have hqi : ¬ (q : Int) < L.length := by omega
    obtain ⟨A3, c3, rfl⟩ := own_slice hown
    have HF : Hid (k = (L.length + 6) / 7) := hide (by omega)
    go_wp2
    go_ret
    exact ⟨⟨A3, c3, by rw [← HF.out]; rfl⟩, hM⟩

/-- so many pages -/
def wantOf (n : NodeD) : Nat := ((canonList n).length + 6) / 7
def dueOf (n : NodeD) : Bool := decide (nodeGood n = true) && (decide (14 ≤ n.entries) && decide (2 * ((canonList n).length : Int) ≤ n.entries))
theorem Short.at_ {w : World} {n : NodeD} {vm vn vl : Value} (h : NodeIn w n vm vn vl) (hs : Short n) : NodeAt w n vm vn vl :=
  ⟨runsAt_of_list h.map (by have := hs.1; omega) h.runs, h.names, h.log, h.kind, h.size, by have := hs.2.1; omega⟩
theorem canonList_length {n : NodeD} (hs : Short n) : (canonList n).length ≤ 100000000 := by
  unfold canonList
  split
  · rename_i hg
    obtain ⟨h1, h2⟩ := good_tame hg
    have := stepsOf_length h2 h1
    have := hs.2.1
    unfold canonOf
    rw [entsFrom_length]
    omega
  · simp
set_option maxRecDepth 100000 in
set_option maxHeartbeats 1000000 in
theorem gcWant (w : World) (n : NodeD) (vm vn vl : Value) (h : NodeIn w n vm vn vl) (hs : Short n) : Calls Try.prog 15 #[.agg (nodeC n vm vn vl)] w fun e w' => e = .returned (.int .i64 (wantOf n)) ∧ Mod None_ w w' := by
  obtain ⟨m, hm⟩ : ∃ m, m = w.heap.size := ⟨_, rfl⟩
  obtain ⟨w1, hw1⟩ : ∃ w1, w1 = w.alloc (.cells (nodeC n vm vn vl) 26) := ⟨_, rfl⟩
  have hM : Mod None_ w w1 := by rw [hw1]; exact (Mod.refl _ w).alloc _
  have b1 : Blk w1 m 26 (nodeC n vm vn vl) := by rw [hw1, hm]; exact Blk.new w 26 _
  have HW1 := hide hw1
  have HMM := hide hm
  have HN := hide (hs.at_ (h.kept hM))
  have HI := hide (infoNode n vm vn vl)
  have hcl := canonList_length hs
  clear hw1 hm h
  go_enter Try.func15, Try.ntmps15
  go_upto_region 1 with fail
  rw [← HMM.out, ← HW1.out]
  clear HMM HW1
  go_wp2_with ((with_reducible refine at_slot 6 ?_); refine wpList_val rfl (ex_load rfl (run_loadRow b1 Try.underlying26 rfl HI.out)) ?_; go_frame)
  refine (canon_any w1 n vm vn vl HN.out).mono ?_
  rintro e w2 hp
  obtain ⟨v, rfl, hl, hm2⟩ := canon_post hp
  have hM2 := hM.trans hm2
  clear hp hm2 hM b1 HN
  by_cases hg : nodeGood n = true
  · have e0 : canonErr n = 0 := by unfold canonErr; rw [if_pos hg]
    rw [e0]
    clear hg e0
    go_wp2_with fail
    refine (byPage_any w2 v _ hl (by omega)).mono ?_
    rintro e w3 ⟨A, c, rfl, hm3⟩
    have hM3 := hM2.trans hm3
    have hll : ∀ w, (Builtin.len_ #[61] 3 #[.slice A (((canonList n).length + 6) / 7) c]).run Try.prog w = .ok (.int .i64 (((canonList n).length + 6) / 7 : Nat)) w := fun w => by simp [Builtin.len_, run_underlying Try.underlying61]; rfl
    go_wp2
    go_ret
    exact ⟨rfl, hM3⟩
  · have e0 : canonErr n = 90 := by unfold canonErr; rw [if_neg hg]
    have e1 : wantOf n = 0 := by unfold wantOf canonList; rw [if_neg hg]; rfl
    rw [e0]
    have E1 := hide e1
    clear hg e0 e1
    go_wp2
    go_ret
    exact ⟨by rw [E1.out]; rfl, hM2⟩

set_option maxRecDepth 100000 in
set_option maxHeartbeats 1000000 in
theorem gcDue (w : World) (n : NodeD) (vm vn vl : Value) (h : NodeIn w n vm vn vl) (hs : Short n) (hi : I64 n.entries) : Calls Try.prog 16 #[.agg (nodeC n vm vn vl)] w (BoolPost w (dueOf n)) := by
  obtain ⟨m, hm⟩ : ∃ m, m = w.heap.size := ⟨_, rfl⟩
  obtain ⟨w1, hw1⟩ : ∃ w1, w1 = w.alloc (.cells (nodeC n vm vn vl) 26) := ⟨_, rfl⟩
  have hM : Mod None_ w w1 := by rw [hw1]; exact (Mod.refl _ w).alloc _
  have b1 : Blk w1 m 26 (nodeC n vm vn vl) := by rw [hw1, hm]; exact Blk.new w 26 _
  have HW1 := hide hw1
  have HMM := hide hm
  have HN := hide (hs.at_ (h.kept hM))
  have HI := hide (infoNode n vm vn vl)
  have hcl := canonList_length hs
  obtain ⟨hi1, hi2⟩ := hi
  clear hw1 hm h
  go_enter Try.func16, Try.ntmps16
  go_upto_region 1 with fail
  rw [← HMM.out, ← HW1.out]
  clear HMM HW1
  go_wp2_with ((with_reducible refine at_slot 6 ?_); refine wpList_val rfl (ex_load rfl (run_loadRow b1 Try.underlying26 rfl HI.out)) ?_; go_frame)
  refine (canon_any w1 n vm vn vl HN.out).mono ?_
  rintro e w2 hp
  obtain ⟨v, rfl, hl, hm2⟩ := canon_post hp
  have hM2 := hM.trans hm2
  have c9 : w2.cell? ⟨m, 9, none⟩ = some (.int .i64 n.entries) := (b1.mod hm2 id).cell 9
  obtain ⟨A, c, rfl, hc1, hc2, _⟩ := hl
  have hll : ∀ w, (Builtin.len_ #[29] 3 #[.slice A (canonList n).length c]).run Try.prog w = .ok (.int .i64 (canonList n).length) w := fun w => by simp [Builtin.len_, run_underlying Try.underlying29]; rfl
  clear hp hm2 hM b1 HN
  obtain ⟨N, hN⟩ : ∃ N, N = (canonList n).length := ⟨_, rfl⟩
  by_cases hg : nodeGood n = true
  · have e0 : canonErr n = 0 := by unfold canonErr; rw [if_pos hg]
    rw [e0]
    rw [← hN] at hll hcl ⊢
    by_cases h1 : 14 ≤ n.entries
    · have d1 : decide (14 ≤ n.entries) = true := decide_eq_true h1
      by_cases h2 : 2 * (N : Int) ≤ n.entries
      · have d2 : decide (2 * (N : Int) ≤ n.entries) = true := decide_eq_true h2
        have d3 : decide ((N : Int) ≤ n.entries - N) = true := decide_eq_true (by omega)
        have E : Hid (dueOf n = true) := hide (by unfold dueOf; rw [decide_eq_true hg, decide_eq_true h1, ← hN, d2]; rfl)
        clear hg e0 hN
        go_wp2
        go_ret
        exact ⟨by rw [E.out]; rfl, hM2⟩
      · have d2 : decide (2 * (N : Int) ≤ n.entries) = false := decide_eq_false h2
        have d3 : decide ((N : Int) ≤ n.entries - N) = false := decide_eq_false (by omega)
        have E : Hid (dueOf n = false) := hide (by unfold dueOf; rw [← hN, d2]; simp)
        clear hg e0 hN
        go_wp2
        go_ret
        exact ⟨by rw [E.out]; rfl, hM2⟩
    · have d1 : decide (14 ≤ n.entries) = false := decide_eq_false h1
      have E : Hid (dueOf n = false) := hide (by unfold dueOf; rw [d1]; simp)
      clear hg e0 hN
      go_wp2
      go_ret
      exact ⟨by rw [E.out]; rfl, hM2⟩
  · have e0 : canonErr n = 90 := by unfold canonErr; rw [if_neg hg]
    rw [e0]
    have E : Hid (dueOf n = false) := hide (by unfold dueOf; rw [decide_eq_false hg]; rfl)
    clear hg e0 hN
    go_wp2
    go_ret
    exact ⟨by rw [E.out]; rfl, hM2⟩

set_option maxRecDepth 100000 in
set_option maxHeartbeats 1000000 in
theorem refDue (w : World) (n : NodeD) (vm vn vl : Value) (h : NodeIn w n vm vn vl) (hs : Short n) (hi : I64 n.entries) : Calls Try.prog 18 #[.agg (nodeC n vm vn vl)] w (BoolPost w (dueOf n)) := by
  obtain ⟨m, hm⟩ : ∃ m, m = w.heap.size := ⟨_, rfl⟩
  obtain ⟨w1, hw1⟩ : ∃ w1, w1 = w.alloc (.cells (nodeC n vm vn vl) 26) := ⟨_, rfl⟩
  have hM : Mod None_ w w1 := by rw [hw1]; exact (Mod.refl _ w).alloc _
  have b1 : Blk w1 m 26 (nodeC n vm vn vl) := by rw [hw1, hm]; exact Blk.new w 26 _
  have HW1 := hide hw1
  have HMM := hide hm
  have HN := hide (hs.at_ (h.kept hM))
  have HI := hide (infoNode n vm vn vl)
  have hcl := canonList_length hs
  obtain ⟨hi1, hi2⟩ := hi
  clear hw1 hm h
  go_enter Try.func18, Try.ntmps18
  go_upto_region 1 with fail
  rw [← HMM.out, ← HW1.out]
  clear HMM HW1
  go_wp2_with ((with_reducible refine at_slot 6 ?_); refine wpList_val rfl (ex_load rfl (run_loadRow b1 Try.underlying26 rfl HI.out)) ?_; go_frame)
  refine (refCanon_any w1 n vm vn vl HN.out).mono ?_
  rintro e w2 hp
  obtain ⟨v, rfl, hl, hm2⟩ := canon_post hp
  have hM2 := hM.trans hm2
  have c9 : w2.cell? ⟨m, 9, none⟩ = some (.int .i64 n.entries) := (b1.mod hm2 id).cell 9
  obtain ⟨A, c, rfl, hc1, hc2, _⟩ := hl
  have hll : ∀ w, (Builtin.len_ #[29] 3 #[.slice A (canonList n).length c]).run Try.prog w = .ok (.int .i64 (canonList n).length) w := fun w => by simp [Builtin.len_, run_underlying Try.underlying29]; rfl
  clear hp hm2 hM b1 HN
  obtain ⟨N, hN⟩ : ∃ N, N = (canonList n).length := ⟨_, rfl⟩
  by_cases hg : nodeGood n = true
  · have e0 : canonErr n = 0 := by unfold canonErr; rw [if_pos hg]
    rw [e0]
    rw [← hN] at hll hcl ⊢
    by_cases h1 : 14 ≤ n.entries
    · have d1 : decide (14 ≤ n.entries) = true := decide_eq_true h1
      by_cases h2 : 2 * (N : Int) ≤ n.entries
      · have d2 : decide (2 * (N : Int) ≤ n.entries) = true := decide_eq_true h2
        have d3 : decide ((N : Int) ≤ n.entries - N) = true := decide_eq_true (by omega)
        have E : Hid (dueOf n = true) := hide (by unfold dueOf; rw [decide_eq_true hg, decide_eq_true h1, ← hN, d2]; rfl)
        clear hg e0 hN
        go_wp2
        go_ret
        exact ⟨by rw [E.out]; rfl, hM2⟩
      · have d2 : decide (2 * (N : Int) ≤ n.entries) = false := decide_eq_false h2
        have d3 : decide ((N : Int) ≤ n.entries - N) = false := decide_eq_false (by omega)
        have E : Hid (dueOf n = false) := hide (by unfold dueOf; rw [← hN, d2]; simp)
        clear hg e0 hN
        go_wp2
        go_ret
        exact ⟨by rw [E.out]; rfl, hM2⟩
    · have d1 : decide (14 ≤ n.entries) = false := decide_eq_false h1
      have E : Hid (dueOf n = false) := hide (by unfold dueOf; rw [d1]; simp)
      clear hg e0 hN
      go_wp2
      go_ret
      exact ⟨by rw [E.out]; rfl, hM2⟩
  · have e0 : canonErr n = 90 := by unfold canonErr; rw [if_neg hg]
    rw [e0]
    have E : Hid (dueOf n = false) := hide (by unfold dueOf; rw [decide_eq_false hg]; rfl)
    clear hg e0 hN
    go_wp2
    go_ret
    exact ⟨by rw [E.out]; rfl, hM2⟩

set_option maxRecDepth 100000 in
set_option maxHeartbeats 1000000 in
theorem refWant (w : World) (n : NodeD) (vm vn vl : Value) (h : NodeIn w n vm vn vl) (hs : Short n) : Calls Try.prog 17 #[.agg (nodeC n vm vn vl)] w fun e w' => e = .returned (.int .i64 (wantOf n)) ∧ Mod None_ w w' := by
  obtain ⟨m, hm⟩ : ∃ m, m = w.heap.size := ⟨_, rfl⟩
  obtain ⟨w1, hw1⟩ : ∃ w1, w1 = w.alloc (.cells (nodeC n vm vn vl) 26) := ⟨_, rfl⟩
  have hM : Mod None_ w w1 := by rw [hw1]; exact (Mod.refl _ w).alloc _
  have b1 : Blk w1 m 26 (nodeC n vm vn vl) := by rw [hw1, hm]; exact Blk.new w 26 _
  have HW1 := hide hw1
  have HMM := hide hm
  have HN := hide (hs.at_ (h.kept hM))
  have HI := hide (infoNode n vm vn vl)
  have hcl := canonList_length hs
  clear hw1 hm h
  go_enter Try.func17, Try.ntmps17
  go_upto_region 1 with fail
  rw [← HMM.out, ← HW1.out]
  clear HMM HW1
  go_wp2_with ((with_reducible refine at_slot 7 ?_); refine wpList_val rfl (ex_load rfl (run_loadRow b1 Try.underlying26 rfl HI.out)) ?_; go_frame)
  refine (refCanon_any w1 n vm vn vl HN.out).mono ?_
  rintro e w2 hp
  obtain ⟨v, rfl, hl, hm2⟩ := canon_post hp
  have hM2 := hM.trans hm2
  obtain ⟨A, c, rfl, hc1, hc2, _⟩ := hl
  have hll : ∀ w, (Builtin.len_ #[29] 3 #[.slice A (canonList n).length c]).run Try.prog w = .ok (.int .i64 (canonList n).length) w := fun w => by simp [Builtin.len_, run_underlying Try.underlying29]; rfl
  clear hp hm2 hM b1 HN
  by_cases hg : nodeGood n = true
  · have e0 : canonErr n = 0 := by unfold canonErr; rw [if_pos hg]
    rw [e0]
    have E : Hid (wantOf n = ((canonList n).length + 6) / 7) := hide rfl
    obtain ⟨N, hN⟩ : ∃ N, N = (canonList n).length := ⟨_, rfl⟩
    rw [← hN] at hll hcl E ⊢
    clear hg e0 hN
    go_wp2_with fail
    go_loopw [5] (fun s5 wr => ∃ k : Nat, 7 * k ≤ N + 6 ∧ s5 = .int .i64 k ∧ w2 = wr) (fun s5 _ => N - (intOf s5).toNat)
    case atStart => exact ⟨0, by omega, rfl, rfl⟩
    obtain ⟨k, hk, rfl, rfl⟩ := hrel
    by_cases hlt : 7 * k < N
    · have hi : 7 * (k : Int) < N := by omega
      go_wp2_with fail
      go_roundw
      case rel => exact ⟨k + 1, by omega, by simp, trivial⟩
      case measure => simp [intOf]; omega
    · have hi : ¬ 7 * (k : Int) < N := by omega
      have HK : Hid (k = (N + 6) / 7) := hide (by omega)
      go_wp2
      go_ret
      exact ⟨by rw [E.out, ← HK.out]; rfl, hM2⟩
  · have e0 : canonErr n = 90 := by unfold canonErr; rw [if_neg hg]
    have e1 : wantOf n = 0 := by unfold wantOf canonList; rw [if_neg hg]; rfl
    rw [e0]
    have E1 := hide e1
    clear hg e0 e1
    go_wp2
    go_ret
    exact ⟨by rw [E1.out]; rfl, hM2⟩
end Go.Proofs.Ytabebkffcmajkaa
