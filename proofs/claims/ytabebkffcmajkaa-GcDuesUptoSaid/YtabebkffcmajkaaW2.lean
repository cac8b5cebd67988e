import Derived.Test.YtabebkffcmajkaaI
/-! Walks: count. -/
namespace Go.Proofs.Ytabebkffcmajkaa
open Go.RowKit Go.Maps

theorem putBlk_mod (w : World) (b : Nat) (o : Obj) : Mod (· = b) w (putBlk w b o) := Mod.putBlk (Mod.refl (· = b) w) (.inr rfl) o

set_option maxHeartbeats 400000 in
theorem count_up (w : World) (b : Nat) (f : Int → Nat) (n : Int) (hn : (Lit.int .i64 n).wf = true) (h : Counts w b f) (hb : f n + 1 < 4611686018427387904) :
    Calls Try.prog 57 #[.map (some b), .int .i64 n, .int .i64 1] w fun e w' => e = .returned (.tuple #[]) ∧ Mod (· = b) w w' ∧ w'.heap.size = w.heap.size ∧ Counts w' b (upd f n (f n + 1)) := by
  obtain ⟨o, hs, hc⟩ := h.store n hn (f n + 1) (by omega)
  have hl := h.look n hn
  have hl2 := hc.look n hn
  have e1 : upd f n (f n + 1) n = f n + 1 := by simp [upd]
  rw [e1] at hl2
  obtain ⟨w1, hw1⟩ : ∃ w1, w1 = putBlk w b o := ⟨_, rfl⟩
  have hM : Mod (· = b) w w1 := by rw [hw1]; exact putBlk_mod w b o
  have hS : w1.heap.size = w.heap.size := by rw [hw1]; simp
  rw [← hw1] at hs hc hl2
  clear hw1
  obtain ⟨c, hcv⟩ : ∃ c, c = f n := ⟨_, rfl⟩
  rw [← hcv] at hs hl2 hb hl
  have hc0 : (((c : Int) + 1) == 0) = false := by simp; omega
  have hb' : (c : Int) + 1 < 4611686018427387904 := by omega
  have hp : 0 ≤ (c : Int) := by omega
  have HS := hide hS
  have e2 : ((c + 1 : Nat) : Int) = (c : Int) + 1 := by omega
  rw [e2] at hs hl2
  clear hS e1 hcv hb e2
  go_enter Try.func57, Try.ntmps57
  go_wp2_with (first
    | ((with_reducible refine at_slot 8 ?_); refine wpList_val rfl (ex_lookup rfl hl) ?_; go_frame)
    | ((with_reducible refine at_slot 13 ?_); refine wpList_val rfl (ex_lookup rfl hl2) ?_; go_frame)
    | ((with_reducible refine at_update ?_); refine wpList_skp rfl (ex_mapUpdate rfl hs) ?_; go_frame))
  go_end0
  exact ⟨rfl, hM, HS.out, hc⟩

set_option maxHeartbeats 400000 in
theorem count_down (w : World) (b : Nat) (f : Int → Nat) (n : Int) (hn : (Lit.int .i64 n).wf = true) (h : Counts w b f) (h0 : f n ≠ 0) (hb : f n < 4611686018427387904) :
    Calls Try.prog 57 #[.map (some b), .int .i64 n, .int .i64 (-1)] w fun e w' => e = .returned (.tuple #[]) ∧ Mod (· = b) w w' ∧ w'.heap.size = w.heap.size ∧ Counts w' b (upd f n (f n - 1)) := by
  have hl := h.look n hn
  obtain ⟨c, hcv⟩ : ∃ c, c = f n := ⟨_, rfl⟩
  by_cases h1 : f n = 1
  · obtain ⟨o, o', hs, hl2, hd, hc⟩ := h.store0 n h0
    obtain ⟨w1, hw1⟩ : ∃ w1, w1 = putBlk w b o := ⟨_, rfl⟩
    rw [← hw1] at hs hl2 hd hc
    obtain ⟨w2, hw2⟩ : ∃ w2, w2 = putBlk w1 b o' := ⟨_, rfl⟩
    rw [← hw2] at hd hc
    have hM : Mod (· = b) w w2 := by rw [hw2, hw1]; exact Mod.putBlk (putBlk_mod w b o) (.inr rfl) o'
    have hS : w2.heap.size = w.heap.size := by rw [hw2, hw1]; simp
    have HS := hide hS
    have HC : Counts w2 b (upd f n (f n - 1)) := by rw [h1]; exact hc
    rw [h1] at hl
    replace hl : (Instr.lookup 104 (.map (some b)) (.int .i64 n) false).run Try.prog w = .ok (.int .i64 1) w := hl
    clear hw1 hw2 hS hcv h0 h1 hc
    go_enter Try.func57, Try.ntmps57
    go_wp2_with (first
      | ((with_reducible refine at_slot 8 ?_); refine wpList_val rfl (ex_lookup rfl hl) ?_; go_frame)
      | ((with_reducible refine at_slot 13 ?_); refine wpList_val rfl (ex_lookup rfl hl2) ?_; go_frame)
      | ((with_reducible refine at_update ?_); refine wpList_skp rfl (ex_mapUpdate rfl hs) ?_; go_frame))
    go_end0
    exact ⟨rfl, hM, HS.out, HC⟩
  · obtain ⟨o, hs, hc⟩ := h.store n hn (f n - 1) (by omega)
    have hl2 := hc.look n hn
    have e1 : upd f n (f n - 1) n = f n - 1 := by simp [upd]
    rw [e1] at hl2
    obtain ⟨w1, hw1⟩ : ∃ w1, w1 = putBlk w b o := ⟨_, rfl⟩
    have hM : Mod (· = b) w w1 := by rw [hw1]; exact putBlk_mod w b o
    have hS : w1.heap.size = w.heap.size := by rw [hw1]; simp
    rw [← hw1] at hs hc hl2
    clear hw1
    have e2 : ((f n - 1 : Nat) : Int) = (f n : Int) - 1 := by omega
    rw [e2] at hs hl2
    rw [← hcv] at hs hl2 hb hl h1 h0
    have hc0 : (((c : Int) - 1) == 0) = false := by simp; omega
    have hc1 : (1 : Int) < c := by omega
    have hb' : (c : Int) < 4611686018427387904 := by omega
    have HS := hide hS
    have e3 : (c : Int) + -1 = (c : Int) - 1 := by omega
    clear hS e1 hcv hb e2 h0 h1
    have HE := hide e3
    clear e3
    go_enter Try.func57, Try.ntmps57
    go_wp2_with (first
      | ((with_reducible refine at_slot 8 ?_); refine wpList_val rfl (ex_lookup rfl hl) ?_; go_frame)
      | ((with_reducible refine at_slot 13 ?_); refine wpList_val rfl (ex_lookup rfl hl2) ?_; go_frame)
      | ((with_reducible refine at_update ?_); refine wpList_skp rfl (ex_mapUpdate rfl (by simpa [Act.eval, HE.out] using hs)) ?_; go_frame))
    go_end0
    exact ⟨rfl, hM, HS.out, hc⟩
end Go.Proofs.Ytabebkffcmajkaa
