import Derived.Test.YtmamdacmpikdbaaW7
/-! Walks: Drop. -/
namespace Go.Proofs.Ytmamdacmpikdbaa
open Go.RowKit Go.Maps

def dropRows (rows : List Row) (d : Int) (s : ByteArray) : List Row := rows.filter (fun r => !decide (r.dir = d ∧ r.name = s))
def dropErr (rows : List Row) (d : Int) (s : ByteArray) : Int := if findIno rows d s = 0 then 82 else 0
def DropPost (w : World) (b : Nat) (rows : List Row) (d : Int) (s : ByteArray) : Ending → World → Prop :=
  fun e w' => e = .returned (.tuple #[.int .i64 (findIno rows d s), .int .i64 (dropErr rows d s)]) ∧ Mod (Ix b) w w' ∧ IndexAt w' b (dropRows rows d s)

theorem dropRows_none {rows : List Row} {d : Int} {s : ByteArray} (h : rows.find? (fun r => decide (r.dir = d ∧ r.name = s)) = none) : dropRows rows d s = rows := by
  unfold dropRows
  rw [List.filter_eq_self]
  intro r hr
  have := List.find?_eq_none.1 h r hr
  simp only [Bool.not_eq_true] at this
  rw [this]; rfl
theorem drop_perm {rows : List Row} {r : Row} (hn : (rows.map (fun r => (r.dir, r.name))).Nodup) (h : r ∈ rows) : rows.Perm (r :: dropRows rows r.dir r.name) := by
  induction rows with
  | nil => cases h
  | cons x l ih =>
    simp only [List.map_cons, List.nodup_cons] at hn
    rcases List.mem_cons.1 h with rfl | h
    · have : dropRows (r :: l) r.dir r.name = l := by
        unfold dropRows
        rw [List.filter_cons_of_neg (by simp), List.filter_eq_self]
        intro y hy
        have hne : ¬ (y.dir = r.dir ∧ y.name = r.name) := fun e => hn.1 (by rw [← e.1, ← e.2]; exact List.mem_map_of_mem (f := fun r : Row => (r.dir, r.name)) hy)
        rw [decide_eq_false hne]; rfl
      rw [this]
    · have hne : ¬ (x.dir = r.dir ∧ x.name = r.name) := fun e => hn.1 (by rw [e.1, e.2]; exact List.mem_map_of_mem (f := fun r : Row => (r.dir, r.name)) h)
      have : dropRows (x :: l) r.dir r.name = x :: dropRows l r.dir r.name := by
        unfold dropRows
        rw [List.filter_cons_of_pos (by rw [decide_eq_false hne]; rfl)]
      rw [this]
      exact ((ih hn.2 h).cons x).trans (List.Perm.swap _ _ _)

set_option maxRecDepth 100000 in
set_option maxHeartbeats 1000000 in
theorem drop_any (w : World) (b : Nat) (rows : List Row) (d : Int) (s : ByteArray) (hlen : rows.length < 4611686018427387900) (hwd : (Lit.int .i64 d).wf = true) (h : IndexAt w b rows) :
    Calls Try.prog 25 #[.pointer (some ⟨b + 3, 0, none⟩), .int .i64 d, .string s] w (DropPost w b rows d s) := by
  by_cases hsz : s.size ≤ 28
  · have HK := hide (keyA_size d s hsz)
    have HI := hide h
    have hbl := h.lt
    have hfb := findIno_bd (d := d) (s := s) h.ok
    clear h
    go_enter Try.func25, Try.ntmps25
    go_wp2_with (first
      | (go_at_call 33; refine (keyOf_good _ _ _ hsz).mono ?_; rintro e w2 ⟨rfl, hm2⟩)
      | ((with_reducible refine at_slot 8 ?_); refine wpList_declare rfl rfl 55 8 (.tmp 15) rfl rfl rfl zeroK (keyA d s) zero55 (size55' HK.out) (zeroK_size.trans HK.out.symm) (keyA_one d s) (by simp) rfl ?_; go_frame))
    have hm3 : Mod None_ w (w2.alloc (.cells (keyA d s) 55)).drew := (hm2.alloc _).drew
    have hI3 : IndexAt (w2.alloc (.cells (keyA d s) 55)).drew b rows := HI.out.kept hm3
    have hB3 : Blk (w2.alloc (.cells (keyA d s) 55)).drew w2.heap.size 55 (keyA d s) := (Blk.new w2 55 _).drew
    have hge : w.heap.size ≤ w2.heap.size := hm2.size
    generalize w2.heap.size = g at hB3 hge ⊢
    refine region_still (by kernel_rfl) (by kernel_rfl) ?_
    rintro w3 hw3
    rw [← hw3] at hI3 hB3 hm3
    clear hw3 hm2
    obtain ⟨c0, c1, c2⟩ := hI3.cells
    repeat still_step
    refine still_val rfl (ex_load rfl (run_loadRow hB3 Try.underlying55 rfl (size55' HK.out))) ?_
    go_frame
    refine still_val rfl (ex_lookup rfl (hI3.look d s hwd hsz)) ?_
    go_frame
    repeat still_step
    refine wpStill_nil ?_
    cases hfi : (findIno rows d s == 0) with
    | true =>
      have hz : findIno rows d s = 0 := by simpa using hfi
      have hf : DropPost w b rows d s (.returned (.tuple #[.int .i64 0, .int .i64 82])) w3 := by
        refine ⟨by unfold dropErr; rw [hz]; rfl, hm3.none, ?_⟩
        rw [dropRows_none (findIno_zero HI.out.ok hz)]
        exact hI3
      have HF := hide hf
      clear hf hz
      go_wp2
      go_ret2
      exact HF.out
    | false =>
      have hz : findIno rows d s ≠ 0 := by simpa using hfi
      obtain ⟨r, hr, h1, h2, h3⟩ := findIno_ne HI.out.ok hz
      have hp : rows.Perm (r :: dropRows rows d s) := by rw [← h1, ← h2]; exact drop_perm HI.out.nodup hr
      have hrun := out_any w3 b rows (dropRows rows d s) r hp (by omega) hI3
      rw [h1, h2] at hrun
      have HO := hide hrun
      have HZ := hide hz
      have hld := run_loadRow (P := Try.prog) hB3 Try.underlying55 rfl (size55' HK.out)
      have HL := hide hld
      clear hrun hz hp h1 h2 h3 hr hld
      go_wp2_with ((with_reducible refine at_slot 30 ?_); refine wpList_val rfl (ex_load rfl HL.out) ?_; go_frame)
      refine Calls.mono HO.out ?_
      rintro e w4 ⟨rfl, hm4, hI4, _⟩
      have hf : DropPost w b rows d s (.returned (.tuple #[.int .i64 (findIno rows d s), .int .i64 0])) w4 :=
        ⟨by unfold dropErr; rw [if_neg HZ.out], hm3.none.trans hm4, hI4⟩
      have HF := hide hf
      clear hf hm4 hI4 c0 c1 c2
      go_wp2
      go_ret2
      exact HF.out
  · have hs' : 28 < s.size := by omega
    have hz := findIno_long h.ok (d := d) hs'
    have hf : ∀ w', Mod None_ w w' → DropPost w b rows d s (.returned (.tuple #[.int .i64 0, .int .i64 82])) w' := fun w' hm => by
      refine ⟨by unfold dropErr; rw [hz]; rfl, hm.none, ?_⟩
      rw [dropRows_none (findIno_zero h.ok hz)]
      exact h.kept hm
    have HF := hide hf
    have HI := hide h
    clear h hf hz
    go_enter Try.func25, Try.ntmps25
    go_wp2_with (first
      | (go_at_call 33; refine (keyOf_bad _ _ _ hs').mono ?_; rintro e w2 ⟨rfl, hm2⟩)
      | ((with_reducible refine at_slot 8 ?_); refine wpList_declare rfl rfl 55 8 (.tmp 15) rfl rfl rfl zeroK zeroK zero55 (size55' zeroK_size) rfl (keyA_one 0 _) (by simp) rfl ?_; go_frame))
    have hm3 : Mod None_ w (w2.alloc (.cells zeroK 55)).drew := (hm2.alloc _).drew
    have hI3 : IndexAt (w2.alloc (.cells zeroK 55)).drew b rows := HI.out.kept hm3
    have hB3 : Blk (w2.alloc (.cells zeroK 55)).drew w2.heap.size 55 zeroK := (Blk.new w2 55 _).drew
    have hge : w.heap.size ≤ w2.heap.size := hm2.size
    generalize w2.heap.size = g at hB3 hge ⊢
    refine region_still (by kernel_rfl) (by kernel_rfl) ?_
    rintro w3 hw3
    rw [← hw3] at hI3 hB3 hm3
    clear hw3 hm2
    obtain ⟨c0, c1, c2⟩ := hI3.cells
    repeat still_step
    refine still_val rfl (ex_load rfl (run_loadRow hB3 Try.underlying55 rfl (size55' zeroK_size))) ?_
    go_frame
    refine still_val rfl (ex_lookup rfl (hI3.look 0 ByteArray.empty (by decide) (by decide))) ?_
    go_frame
    repeat still_step
    refine wpStill_nil ?_
    go_wp2
    go_ret2
    exact HF.out _ hm3
end Go.Proofs.Ytmamdacmpikdbaa
