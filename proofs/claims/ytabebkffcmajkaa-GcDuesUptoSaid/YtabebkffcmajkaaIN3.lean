import Derived.Test.YtabebkffcmajkaaIN2
/-! Walk: senseOf. -/
namespace Go.Proofs.Ytabebkffcmajkaa
open Go.RowKit Go.Maps Go.Shelf

theorem FilePost.up {w w1 w' : World} {n : NodeD} {e : Ending} (hm : Mod None_ w w1) (h : FilePost w1 n e w') : FilePost w n e w' := by
  have hs := hm.size
  unfold FilePost at h ⊢
  by_cases hg : fileGood n = true
  · rw [if_pos hg] at h ⊢
    obtain ⟨s, t, r, mid, leaf, many, rfl, hb, hT, h1, h2, h3⟩ := h
    exact ⟨s, t, r, mid, leaf, many, rfl, hb, hT, by omega, fun g hg => ⟨by have := (h2 g hg).1; omega, (h2 g hg).2⟩, hm.trans h3⟩
  · rw [if_neg hg] at h ⊢
    exact ⟨h.1, hm.trans h.2⟩
theorem DirPost.up {w w1 w' : World} {n : NodeD} {e : Ending} (hm : Mod None_ w w1) (h : DirPost w1 n e w') : DirPost w n e w' := by
  have hs := hm.size
  unfold DirPost at h ⊢
  by_cases hg : dirGood n = true
  · rw [if_pos hg] at h ⊢
    obtain ⟨s, b, rows, rfl, hb, hI, hr, h1, h2, h3⟩ := h
    exact ⟨s, b, rows, rfl, hb, hI, hr, by omega, h2, hm.trans h3⟩
  · rw [if_neg hg] at h ⊢
    exact ⟨h.1, hm.trans h.2⟩
/-- what senseOf leaves -/
def SensePost (w : World) (n : NodeD) : Ending → World → Prop := fun e w' =>
  if n.kind = 1 then FilePost w n e w' else if n.kind = 2 then DirPost w n e w' else e = .returned (.pointer none) ∧ Mod None_ w w'

theorem file_returns {w w' : World} {n : NodeD} {e : Ending} (h : FilePost w n e w') : ∃ v, e = .returned v := by
  unfold FilePost at h
  split at h
  · obtain ⟨s, t, r, mid, leaf, many, rfl, _⟩ := h; exact ⟨_, rfl⟩
  · exact ⟨_, h.1⟩
theorem dir_returns {w w' : World} {n : NodeD} {e : Ending} (h : DirPost w n e w') : ∃ v, e = .returned v := by
  unfold DirPost at h
  split at h
  · obtain ⟨s, b, rows, rfl, _⟩ := h; exact ⟨_, rfl⟩
  · exact ⟨_, h.1⟩

set_option maxRecDepth 100000 in
set_option maxHeartbeats 2000000 in
theorem sense_any (w : World) (n : NodeD) (vm vn vl : Value) (h : NodeAt w n vm vn vl) : Calls Try.prog 20 #[.agg (nodeC n vm vn vl)] w (SensePost w n) := by
  have hM : Mod None_ w (w.alloc (.cells (nodeC n vm vn vl) 26)) := (Mod.refl None_ w).alloc _
  have HF := hide (file_any _ n vm vn vl (h.kept hM))
  have HD := hide (dir_any _ n vm vn vl (h.kept hM))
  have HM := hide hM
  clear hM h
  by_cases h1 : n.kind = 1
  · have d1 : (n.kind == 1) = true := by simp [h1]
    have HP : Hid (∀ e w', FilePost w n e w' → SensePost w n e w') := hide fun e w' hp => by unfold SensePost; rw [if_pos h1]; exact hp
    clear h1
    unfold nodeC at HF HM ⊢
    go_enter Try.func20, Try.ntmps20
    go_wp2_with fail
    refine Calls.mono HF.out ?_
    rintro e w2 hp
    obtain ⟨v, rfl⟩ := file_returns hp
    have HQ := hide (HP.out _ _ (FilePost.up HM.out hp))
    clear hp
    go_wp2
    go_ret
    exact HQ.out
  · by_cases h2 : n.kind = 2
    · have d1 : (n.kind == 1) = false := by simp [h2]
      have d2 : (n.kind == 2) = true := by simp [h2]
      have HP : Hid (∀ e w', DirPost w n e w' → SensePost w n e w') := hide fun e w' hp => by unfold SensePost; rw [if_neg h1, if_pos h2]; exact hp
      clear h1 h2
      unfold nodeC at HD HM ⊢
      go_enter Try.func20, Try.ntmps20
      go_wp2_with fail
      refine Calls.mono HD.out ?_
      rintro e w2 hp
      obtain ⟨v, rfl⟩ := dir_returns hp
      have HQ := hide (HP.out _ _ (DirPost.up HM.out hp))
      clear hp
      go_wp2
      go_ret
      exact HQ.out
    · have d1 : (n.kind == 1) = false := by simpa using h1
      have d2 : (n.kind == 2) = false := by simpa using h2
      have HP := hide (show SensePost w n (.returned (.pointer none)) (w.alloc (.cells (nodeC n vm vn vl) 26)) from by unfold SensePost; rw [if_neg h1, if_neg h2]; exact ⟨rfl, HM.out⟩)
      clear h1 h2
      unfold nodeC at HP ⊢
      go_enter Try.func20, Try.ntmps20
      go_wp2
      go_ret
      exact HP.out

/-- a good node, and what it is then -/
def nodeGood (n : NodeD) : Bool := if n.kind = 1 then fileGood n else if n.kind = 2 then dirGood n else false
theorem sense_pages {w w' : World} {n : NodeD} {e : Ending} (h : SensePost w n e w') : Mod None_ w w' ∧
    (if nodeGood n = true then ∃ s k tp ip, e = .returned (.pointer (some ⟨s, 0, none⟩)) ∧ Blk w' s 55 #[.int .i64 k, .int .i64 n.size, tp, ip] ∧ w.heap.size ≤ s ∧
      (n.kind = 1 ∧ (∃ t r mid leaf many, tp = .pointer (some ⟨t, 0, none⟩) ∧ RadixAt w' t r mid leaf (tableOf n.map) many) ∨ n.kind = 2 ∧ tp = .pointer none) else e = .returned (.pointer none)) := by
  unfold SensePost at h
  unfold nodeGood
  by_cases h1 : n.kind = 1
  · rw [if_pos h1] at h ⊢
    unfold FilePost at h
    split at h
    · rename_i hg
      obtain ⟨s, t, r, mid, leaf, many, rfl, hb, hT, hs, _, hm⟩ := h
      rw [if_pos hg]
      exact ⟨hm, s, _, _, _, rfl, hb, hs, .inl ⟨h1, t, r, mid, leaf, many, rfl, hT⟩⟩
    · rename_i hg
      rw [if_neg hg]
      exact ⟨h.2, h.1⟩
  · rw [if_neg h1] at h ⊢
    by_cases h2 : n.kind = 2
    · rw [if_pos h2] at h ⊢
      unfold DirPost at h
      split at h
      · rename_i hg
        obtain ⟨s, b, rows, rfl, hb, hI, _, hs, hs2, hm⟩ := h
        rw [if_pos hg]
        have hz : n.size = 0 := by
          unfold dirGood at hg
          simp only [Bool.and_eq_true, decide_eq_true_eq] at hg
          exact hg.1.1
        rw [hz]
        exact ⟨hm, s, _, _, _, rfl, hb, by omega, .inr ⟨h2, rfl⟩⟩
      · rename_i hg
        rw [if_neg hg]
        exact ⟨h.2, h.1⟩
    · rw [if_neg h2] at h ⊢
      exact ⟨h.2, by simpa using h.1⟩
end Go.Proofs.Ytabebkffcmajkaa
