import Derived.Test.YtabebkffcmajkaaIN6
/-! Walk: Canon. -/
namespace Go.Proofs.Ytabebkffcmajkaa
open Go.RowKit Go.Maps Go.Shelf

theorem mapSteps_length (z : Int) : ∀ (l : List RunD), (∀ r ∈ l, Tame r) → (l.flatMap (runSteps z)).length ≤ l.length * 512
  | [], _ => by simp
  | r :: l, h => by
    have h1 := runSteps_length z (h r (by simp))
    have h2 := mapSteps_length z l (fun x hx => h x (by simp [hx]))
    simp only [List.flatMap_cons, List.length_append, List.length_cons]
    omega
theorem stepsOf_length {n : NodeD} (h : ∀ r ∈ n.map, Tame r) (hm : n.map.length ≤ 512) : (stepsOf n).length ≤ 262145 + n.names.length := by
  have h1 := mapSteps_length n.size n.map h
  unfold stepsOf sizeSteps mapSteps
  rw [List.length_append, List.length_map]
  split
  · simp
  · omega
theorem good_tame {n : NodeD} (h : nodeGood n = true) : n.map.length ≤ 512 ∧ ∀ r ∈ n.map, Tame r := by
  unfold nodeGood at h
  split at h
  · unfold fileGood at h
    simp only [Bool.and_eq_true, decide_eq_true_eq] at h
    obtain ⟨⟨⟨⟨⟨_, _⟩, h3⟩, h4⟩, h5⟩, _⟩ := h
    refine ⟨by rw [← h4]; exact Nat.le_trans (runsOf_length _) (itemsOf_length _ _ _ _), fun r hr => ?_⟩
    have a := List.all_eq_true.1 h3 r hr
    have b := List.all_eq_true.1 h5 r hr
    simp only [okRun, pageOk, Bool.and_eq_true, decide_eq_true_eq, Bool.not_eq_true', Bool.or_eq_false_iff, decide_eq_false_iff_not] at a b
    exact ⟨by omega, by omega, by omega, by omega, by omega, by omega⟩
  · split at h
    · unfold dirGood at h
      simp only [Bool.and_eq_true, decide_eq_true_eq] at h
      have h0 : n.map = [] := List.length_eq_zero_iff.1 h.1.2
      rw [h0]
      exact ⟨by simp, fun r hr => by cases hr⟩
    · cases h
/-- the entries that steps mean, from number q on -/
def entsFrom : Int → List StepD → List EntD
  | _, [] => []
  | q, s :: l => entOf s q :: entsFrom (q + 1) l
theorem entsFrom_snoc (s : StepD) : ∀ (q : Int) (l : List StepD), entsFrom q (l ++ [s]) = entsFrom q l ++ [entOf s (q + l.length)]
  | q, [] => by simp [entsFrom]
  | q, x :: l => by
    have := entsFrom_snoc s (q + 1) l
    simp only [List.cons_append, entsFrom, this, List.length_cons, List.cons.injEq, true_and]
    congr 3
    push_cast; omega
theorem entsFrom_length : ∀ (q : Int) (l : List StepD), (entsFrom q l).length = l.length
  | _, [] => rfl
  | q, _ :: l => by simp [entsFrom, entsFrom_length (q + 1) l]
def canonOf (n : NodeD) : List EntD := entsFrom 1 (stepsOf n)
theorem oneEntry : ∀ (s : EntD), ∀ u ∈ encEntry s, u.oneCell' = true := by
  intro s u hu
  simp only [encEntry, List.mem_cons, List.not_mem_nil, or_false] at hu
  rcases hu with rfl | rfl | rfl | rfl | rfl | rfl | rfl | rfl <;> rfl
theorem infoEntry : (Try.prog.info? 46).map (fun i => (i.zero, i.size, i.bytes)) = some (some (.agg #[.int .i64 0, .int .u64 0, .int .i64 0, .int .i64 0, .int .i64 0, .int .i64 0, .int .i64 0, .string ⟨#[]⟩]), 8, 72) := by kernel_rfl
def CanonPost (w : World) (n : NodeD) : Ending → World → Prop := fun e w' =>
  Mod None_ w w' ∧ if nodeGood n = true then ∃ v, e = .returned (.tuple #[v, .int .i64 0]) ∧ ListAt encEntry 8 w' v (canonOf n) else e = .returned (.tuple #[.slice none 0 0, .int .i64 90])

set_option maxRecDepth 100000 in
set_option maxHeartbeats 1000000 in
theorem canon_any (w : World) (n : NodeD) (vm vn vl : Value) (h : NodeAt w n vm vn vl) : Calls Try.prog 7 #[.agg (nodeC n vm vn vl)] w (CanonPost w n) := by
  have hM : Mod None_ w (w.alloc (.cells (nodeC n vm vn vl) 26)) := (Mod.refl None_ w).alloc _
  have HS := hide (sense_any _ n vm vn vl (h.kept hM))
  have b1 : Blk (w.alloc (.cells (nodeC n vm vn vl) 26)) w.heap.size 26 (nodeC n vm vn vl) := Blk.new w 26 _
  have HN := hide h
  have HM := hide hM
  have B1 := hide b1
  have hnl := h.nlen
  clear hM h b1
  unfold nodeC at HM HS B1 ⊢
  go_enter Try.func7, Try.ntmps7
  obtain ⟨m, hm⟩ : ∃ m, m = w.heap.size := ⟨_, rfl⟩
  rw [← hm] at B1
  have HMM := hide hm
  clear hm
  go_wp2_with fail
  rw [← HMM.out]
  refine Calls.mono HS.out ?_
  rintro e w2 hp
  obtain ⟨hm2, hp⟩ := sense_pages hp
  have hM := HM.out.trans hm2
  have b1 := B1.out.mod hm2 id
  clear hm2 HM HS B1 HMM
  by_cases hg : nodeGood n = true
  · rw [if_pos hg] at hp
    obtain ⟨s, k, tp, ip, rfl, bs, hs, hk⟩ := hp
    obtain ⟨hml, htm⟩ := good_tame hg
    have hlen := stepsOf_length htm hml
    have HST := hide (steps_any w2 n vm vn vl (HN.out.kept hM) s k tp ip bs hml htm)
    have HG := hide hg
    clear hg hk htm hs
    have c0 := b1.cell 0
    have c1 := b1.cell 1
    have c2 := b1.cell 2
    have c3 := b1.cell 3
    have c4 := b1.cell 4
    have c5 := b1.cell 5
    have c6 := b1.cell 6
    have c7 := b1.cell 7
    have c8 := b1.cell 8
    have c9 := b1.cell 9
    go_wp2_with fail
    refine Calls.mono HST.out ?_
    rintro e w3 ⟨v, rfl, ho, hm3⟩
    have hli := list_of_ownRow (enc := encStep) (fun _ => rfl) ho
    replace hM := hM.trans hm3
    obtain ⟨T, hT⟩ : ∃ T, T = stepsOf n := ⟨_, rfl⟩
    rw [← hT] at hli hlen
    obtain ⟨As, cs, rfl, hcs1, hcs2, hcell⟩ := id hli
    have hll : ∀ w, (Builtin.len_ #[40] 3 #[.slice As T.length cs]).run Try.prog w = .ok (.int .i64 T.length) w := fun w => by simp [Builtin.len_, run_underlying Try.underlying40]; rfl
    have HLI := hide hli
    have HT := hide hT
    clear ho hm3 bs b1 c0 c1 c2 c3 c4 c5 c6 c7 c8 c9 HST hcell hli hT
    go_wp2_with fail
    go_loopw [16, 5] (fun s16 s5 wr => ∃ (k : Nat) (v5 : Value), v5 = s5 ∧ k ≤ T.length ∧ s16 = .int .i64 k ∧ wr.ownsRow w3.heap.size 46 8 v5 (entsFrom 1 (T.take k)).length (rowOf encEntry (entsFrom 1 (T.take k))) ∧ Mod None_ w3 wr) (fun s16 _ _ => T.length - (intOf s16).toNat)
    case atStart => exact ⟨0, _, rfl, Nat.zero_le _, rfl, ⟨rfl, .inl ⟨rfl, rfl⟩⟩, Mod.refl _ _⟩
    obtain ⟨k, v5, rfl, hk, rfl, hown, hMr⟩ := hrel
    by_cases hlt : k < T.length
    · have hki : (k : Int) < T.length := by omega
      have hli := HLI.out.kept hMr
      obtain ⟨_, _, hcv, _, _, hcell⟩ := hli
      simp only [Value.slice.injEq, true_and] at hcv
      obtain ⟨rfl, rfl⟩ := hcv
      obtain ⟨g, o, rfl, hg, hcell⟩ := hcell (by omega)
      have x0 : wr.cell? ⟨g, o + k, none⟩ = some (stepV T[k]) := by simpa using hcell k hlt 0 _ rfl
      have hsn : entsFrom 1 (T.take (k + 1)) = entsFrom 1 (T.take k) ++ [entOf T[k] (1 + k)] := by
        rw [List.take_succ_eq_append_getElem hlt, entsFrom_snoc, List.length_take, Nat.min_eq_left hk]
      have hEl := entsFrom_length 1 (T.take k)
      rw [List.length_take, Nat.min_eq_left hk] at hEl
      obtain ⟨x, hx⟩ : ∃ x, x = T[k] := ⟨_, rfl⟩
      rw [← hx] at x0 hsn
      obtain ⟨E, hE⟩ : ∃ E, E = entsFrom 1 (T.take k) := ⟨_, rfl⟩
      rw [← hE] at hown hsn hEl
      have HSN := hide hsn
      clear hcell hx hsn hE
      have hq : (k : Int) + 1 = 1 + k := by omega
      go_wp2_with fail
      refine (entry_any wr x (1 + (k : Int)) (by omega) (by omega)).mono ?_
      rintro e w4 ⟨rfl, hm4⟩
      obtain ⟨y, hy⟩ : ∃ y, y = entOf x (1 + k) := ⟨_, rfl⟩
      rw [← hy]
      have HY := hide hy
      have hown4 := own_mod hown hm4 (fun _ _ f => f)
      have hM4 := hMr.trans hm4
      clear hown hMr hm4 x0 hq hy
      have hb4 := hM4.size
      have hy8 : (encEntry y).length = 8 := rfl
      go_wp2_with ((with_reducible refine at_slot 27 ?_); refine wpList_append_row encEntry 29 46 (.agg #[.int .i64 0, .int .u64 0, .int .i64 0, .int .i64 0, .int .i64 0, .int .i64 0, .int .i64 0, .string ⟨#[]⟩]) 8 72 Try.underlying29 infoEntry rfl (by decide) (fun _ => rfl) oneEntry rfl (.tmp 21) (.tmp 26) rfl w4 w3.heap.size v5 E y rfl rfl w4.heap.size rfl rfl hown4 hb4 (by unfold maxLen; omega) (by omega) ?_; intro v8 w8 hown8 hm8 hat8
                   have hM8 := hM4.trans' hm8 (fun k hk e => by have := (own_blk hown4 e.symm).1; omega)
                   have L1 := hide hown8
                   have L2 := hide hM8
                   clear hown8 hm8 hat8 hM8 hown4 hM4
                   go_frame)
      go_roundw
      case rel => exact ⟨k + 1, _, rfl, by omega, by simp, by rw [HSN.out, ← HY.out]; exact L1.out, L2.out⟩
      case measure => simp [intOf]; omega
    · obtain rfl : k = T.length := by omega
      have hkn : ¬ (T.length : Int) < T.length := by omega
      rw [List.take_length] at hown
      have hl2 := list_of_ownRow (enc := encEntry) (fun _ => rfl) hown
      have HF : Hid (CanonPost w n (.returned (.tuple #[v5, .int .i64 0])) wr) := hide ⟨hM.trans hMr, by
        rw [if_pos HG.out]; exact ⟨v5, rfl, by unfold canonOf; rw [← HT.out]; exact hl2⟩⟩
      clear hown hMr hM hlt hl2
      go_wp2
      go_ret2
      exact HF.out
  · rw [if_neg hg] at hp
    obtain rfl := hp
    have HF : Hid (CanonPost w n (.returned (.tuple #[.slice none 0 0, .int .i64 90])) w2) := hide ⟨hM, by rw [if_neg hg]⟩
    clear hg hM b1
    go_wp2
    go_ret2
    exact HF.out
end Go.Proofs.Ytabebkffcmajkaa

