import Derived.RangeFuncNested
import Derived.RangeFuncBound
import Derived.RangeFuncCalls
import Derived.RangeFuncLeaves
import Derived.Shelf.Abstract
import Derived.Shelf.RegionOpen
import Derived.OwnWalkIn
import Derived.TacticsInMore
import Derived.LoopNIn
import Derived.LoopIn
import Derived.Test.YtmamdacmpikdbaaD2
/-! All: its answer is an iterator with its contract. -/
namespace Go.Proofs.Ytmamdacmpikdbaa
open Go.RowKit Go.Maps Go.Shelf
attribute [local go_sem] Oper.semAt_some

set_option maxRecDepth 100000 in
set_option maxHeartbeats 400000 in
theorem all_call (w : World) (b : Nat) (d : Int) : Calls Try.prog 28 #[.pointer (some ⟨b + 3, 0, none⟩), .int .i64 d] w fun e w' =>
    e = .returned (.func (.func 42) #[] #[.pointer (some ⟨w.heap.size, 0, none⟩), .pointer (some ⟨w.heap.size + 1, 0, none⟩)]) ∧ w' = (w.alloc (.cells #[.pointer (some ⟨b + 3, 0, none⟩)] 24)).alloc (.cells #[.int .i64 d] 3) := by
  go_enter Try.func28, Try.ntmps28
  go_wp2
  go_ret
  exact ⟨rfl, rfl⟩

/-- whatever is cells from block B on stays -/
structure KpR (B : Nat) (W W' : World) : Prop where
  size : W.heap.size ≤ W'.heap.size
  same : ∀ k cs t fr, B ≤ k → W.heap[k]? = some (.cells cs t fr) → W'.heap[k]? = some (.cells cs t fr)
theorem KpR.refl (B : Nat) (W : World) : KpR B W W := ⟨Nat.le_refl _, fun _ _ _ _ _ h => h⟩
theorem KpR.trans {B : Nat} {A C D : World} (h : KpR B A C) (k : KpR B C D) : KpR B A D := ⟨Nat.le_trans h.size k.size, fun i cs t fr hB hi => k.same i cs t fr hB (h.same i cs t fr hB hi)⟩
theorem KpR.putObj {B : Nat} (W : World) (l : Nat) (o o' : Obj) (hl : W.heap[l]? = some o) (ho : o.isCells = false) : KpR B W (W.putObj l o') :=
  ⟨by simp, fun k cs t fr _ hk => by
    by_cases e : k = l
    · subst e; rw [hk] at hl; cases hl; simp [Obj.isCells] at ho
    · exact (World.putObj_heap_other e).trans hk⟩
theorem Mod.grownBy {w w' : World} (h : Mod None_ w w') : w.grownBy w' Option.none := ⟨h.os, h.tape, h.output, h.size, fun k hk _ => h.block k hk id⟩
theorem Mod.kpR {S : Nat → Prop} {B : Nat} {w w' : World} (h : Mod S w w') (hs : ∀ k, B ≤ k → k < w.heap.size → ¬ S k) : KpR B w w' :=
  ⟨h.size, fun k cs t fr hB hk => by
    have hlt := (Array.getElem?_eq_some_iff.1 hk).1
    exact (h.block k hlt (hs k hB hlt)).trans hk⟩
theorem KpR.cell {B : Nat} {W W' : World} (h : KpR B W W') {g i : Nat} {v : Value} (hg : B ≤ g) (hc : W.cell? ⟨g, i, none⟩ = some v) : W'.cell? ⟨g, i, none⟩ = some v := by
  obtain ⟨o, ho, hoc⟩ := cells_of_cell hc
  cases o <;> simp [Obj.isCells] at hoc
  exact (World.cell?_of_block ((h.same g _ _ _ hg ho).trans ho.symm)).trans hc

/-- the block that the slice in a variable lies in -/
def ownerAt (W : World) (bl : Nat) : Option Nat := match W.cell? ⟨bl, 0, none⟩ with | some v => v.ownBlock | none => none
/-- whatever is cells from block B on stays, but for the row of the slice in the variable bl, which may be a new one -/
structure KpO (B bl : Nat) (W W' : World) : Prop where
  size : W.heap.size ≤ W'.heap.size
  same : ∀ k cs t fr, B ≤ k → W.heap[k]? = some (.cells cs t fr) → some k ≠ ownerAt W bl → W'.heap[k]? = some (.cells cs t fr)
  own : ∀ k, ownerAt W' bl = some k → ownerAt W bl = some k ∨ W.heap.size ≤ k
theorem KpO.refl (B bl : Nat) (W : World) : KpO B bl W W := ⟨Nat.le_refl _, fun _ _ _ _ _ h _ => h, fun _ h => .inl h⟩
theorem KpO.trans {B bl : Nat} {A C D : World} (h : KpO B bl A C) (k : KpO B bl C D) : KpO B bl A D :=
  ⟨Nat.le_trans h.size k.size, fun i cs t fr hB hi hne => k.same i cs t fr hB (h.same i cs t fr hB hi hne) (fun e => by
      rcases h.own i e.symm with e2 | e2
      · exact hne e2.symm
      · have := (Array.getElem?_eq_some_iff.1 hi).1; omega),
   fun i hi => by
    rcases k.own i hi with e | e
    · exact h.own i e
    · exact .inr (Nat.le_trans h.size e)⟩
theorem ownerAt_block {W W' : World} {bl : Nat} (h : W'.heap[bl]? = W.heap[bl]?) : ownerAt W' bl = ownerAt W bl := by
  unfold ownerAt; rw [World.cell?_of_block h]
theorem KpO.of_mod {S : Nat → Prop} {B bl : Nat} {W W' : World} (h : Mod S W W') (hbl : bl < W.heap.size) (hs : ¬ S bl) (hB : ∀ k, B ≤ k → k < W.heap.size → ¬ S k) : KpO B bl W W' :=
  ⟨h.size, fun k cs t fr hBk hk _ => by
      have hlt := (Array.getElem?_eq_some_iff.1 hk).1
      exact (h.block k hlt (hB k hBk hlt)).trans hk, fun k hk => .inl ((ownerAt_block (h.block bl hbl hs)).symm.trans hk)⟩
theorem KpO.putObj {B bl : Nat} (W : World) (l : Nat) (o o' : Obj) (hbl : bl ≠ l) (hl : W.heap[l]? = some o) (ho : o.isCells = false) : KpO B bl W (W.putObj l o') :=
  ⟨by simp, fun k cs t fr _ hk _ => by
    by_cases e : k = l
    · subst e; rw [hk] at hl; cases hl; simp [Obj.isCells] at ho
    · exact (World.putObj_heap_other e).trans hk, fun k hk => .inl ((ownerAt_block (World.putObj_heap_other hbl)).symm.trans hk)⟩
theorem KpO.alloc {B bl : Nat} (W : World) (o : Obj) (hbl : bl < W.heap.size) : KpO B bl W (W.alloc o) := KpO.of_mod ((Mod.refl None_ W).alloc o) hbl id (fun _ _ _ f => f)
/-- the iterator's word, where the variable held no row of its own when the loop began -/
theorem KpO.keep {w : World} {bl : Nat} (hbl : bl < w.heap.size) (hno : ownerAt w bl = none) : ∀ W0 W1 W' g j v, Below w.heap.size w W0 → Mod None_ W0 W1 → W0.heap.size ≤ g → KpO w.heap.size bl W1 W' → W1.cell? ⟨g, j, none⟩ = some v → W'.cell? ⟨g, j, none⟩ = some v := by
  intro W0 W1 W' g j v hb hm hg hk hc
  obtain ⟨o, ho, hoc⟩ := cells_of_cell hc
  have e : ownerAt W1 bl = none := by
    rw [ownerAt_block (hm.block bl (by have := hb.size; omega) id), ownerAt_block (hb.block bl hbl)]; exact hno
  cases o <;> simp [Obj.isCells] at hoc
  exact (World.cell?_of_block ((hk.same g _ _ _ (by have := hb.size; omega) ho (by rw [e]; simp)).trans ho.symm)).trans hc

set_option maxRecDepth 100000 in
set_option maxHeartbeats 2000000 in
theorem all_stops (n : Nat) (hn : 1 ≤ n) (w : World) (Kp : World → World → Prop) (hrf : ∀ W, w.heap.size ≤ W.heap.size → Kp W W) (htr : ∀ {A B C : World}, Kp A B → Kp B C → Kp A C) (hal : ∀ W o, w.heap.size ≤ W.heap.size → Kp W (W.alloc o))
    (hkeep : ∀ W0 W1 W' g j v, Below w.heap.size w W0 → Mod None_ W0 W1 → W0.heap.size ≤ g → Kp W1 W' → W1.cell? ⟨g, j, none⟩ = some v → W'.cell? ⟨g, j, none⟩ = some v)
    (hsz : ∀ {A B : World}, Kp A B → A.heap.size ≤ B.heap.size) (b : Nat) (R : List Row) (d : Int) (bx bd : Nat) (hlen : R.length ≤ 5000000000000) (hd : (Lit.int .i64 d).wf = true) (hI : IndexAt w b R)
    (cx : w.cell? ⟨bx, 0, none⟩ = some (.pointer (some ⟨b + 3, 0, none⟩))) (cd : w.cell? ⟨bd, 0, none⟩ = some (.int .i64 d)) (hbx : bx < w.heap.size) (hbd : bd < w.heap.size) :
    SeqStopsK Fence.wide n Try.prog 42 #[.pointer (some ⟨bx, 0, none⟩), .pointer (some ⟨bd, 0, none⟩)] (fun p : ByteArray × Int => #[.string p.1, .int .i64 p.2]) Kp
      (fun xs => xs = listPairs R d) (fun pre => pre <+: listPairs R d) (listPairs R d).length w := by
  intro l J Jx W hW hJ hJx hY h0
  have hm := Mod.of_below hW
  have hIW := hI.kept hm
  have cx' : W.cell? ⟨bx, 0, none⟩ = some (.pointer (some ⟨b + 3, 0, none⟩)) := (hW.cell (p := ⟨bx, 0, none⟩) hbx).trans cx
  have cd' : W.cell? ⟨bd, 0, none⟩ = some (.int .i64 d) := (hW.cell (p := ⟨bd, 0, none⟩) hbd).trans cd
  have HL := hide (list_dents W b R d hlen hd hIW)
  have hPl : (listPairs R d).length ≤ 5000000000000 := by rw [listPairs_length]; exact Nat.le_trans (cntDir_le R d) hlen
  have hws := hW.size
  obtain ⟨P, hP⟩ : ∃ P, P = listPairs R d := ⟨_, rfl⟩
  rw [← hP] at hY hPl HL ⊢
  have HJ := hide hJ
  have HY := hide hY
  have HW := hide hW
  have HM := hide hm
  clear hP hI hIW cx cd hJ hJx hY hm hW
  refine callsIn_of_wp Try.func42 rfl trivial ?_ rfl
  simp only [Try.ntmps42, List.size_toArray, List.length_cons, List.length_nil, Nat.reduceAdd, Nat.reduceSub, Array.replicate_succ, Array.replicate_zero, List.push_toArray, List.append_toArray, List.nil_append, List.cons_append]
  gi_wp2_with (refine ⟨trivial, ?_⟩; gi_at_call 19; refine (callsIn_wide.2 HL.out).mono ?_; rintro e w4 ⟨v4, rfl, hD4, hm4⟩)
  obtain ⟨A, c, rfl, hc1, hc2, hA⟩ := hD4
  have hJ4 : J [] w4 := HJ.out [] W w4 none h0 hm4.grownBy (fun r e => by cases e)
  have HA := hide hA
  have HM4 := hide hm4
  have hz4 : w.heap.size ≤ w4.heap.size := by have := hm4.size; omega
  have hln : (Builtin.len_ #[28] 3 #[.slice A P.length c]).run Try.prog w4 = .ok (.int .i64 P.length) w4 := by simp [Builtin.len_, run_underlying Try.underlying28]; rfl
  clear hA hm4 h0 cx' cd' HL
  go_simp
  gi_wp2
  gi_loopw [10] (fun i wr => ∃ k : Nat, k ≤ P.length ∧ i = .int .i64 k ∧ J (P.take k) wr ∧ Kp w4 wr)
    (fun i _ => P.length - (intOf i).toNat)
  case atStart => exact ⟨0, Nat.zero_le _, rfl, hJ4, hrf _ hz4⟩
  case round =>
    obtain ⟨k, hk, rfl, hJs, hnx⟩ := hrel
    by_cases hlt : k < P.length
    · obtain ⟨g, rfl, hgl, hg, hcc⟩ := HA.out (by omega)
      have x0 : wr.cell? ⟨g, k * 2, none⟩ = some (.string P[k].1) := hkeep _ _ _ g _ _ HW.out HM4.out hgl hnx (hcc _ _ (pairCells_fst P k hlt))
      have x1 : wr.cell? ⟨g, k * 2 + 1, none⟩ = some (.int .i64 P[k].2) := hkeep _ _ _ g _ _ HW.out HM4.out hgl hnx (hcc _ _ (pairCells_snd P k hlt))
      have hki : (k : Int) < P.length := by omega
      have hJ5 : J (P.take k) (wr.alloc (.cells #[.string P[k].1, .int .i64 P[k].2] 36)) := HJ.out _ wr _ Option.none hJs (World.grownBy_alloc _ _ _) (fun r e => by cases e)
      obtain ⟨fn, tmps, assign, body, hy, hR⟩ := HY.out (P.take k) P[k] _ hJ5 (by rw [List.length_take]; omega)
      have ht : P.take k ++ [P[k]] = P.take (k + 1) := by rw [List.take_succ_eq_append_getElem hlt]
      rw [ht] at hR
      have hnx5 : Kp w4 (wr.alloc (.cells #[.string P[k].1, .int .i64 P[k].2] 36)) := htr hnx (hal _ _ (by have := hsz hnx; omega))
      obtain ⟨p, hp⟩ : ∃ p, p = P[k] := ⟨_, rfl⟩
      rw [← hp] at x0 x1 hy hR hnx5
      clear hp ht hcc hJ5 hnx
      gi_wp2
      refine hR.mono ?_
      rintro e W3 (⟨rfl, hJ3, hk3⟩ | ⟨rfl, hJx3⟩)
      · have hnx3 := htr hnx5 hk3
        clear hR hy hnx5 hk3 x0 x1
        gi_wp2
        go_roundw
        case rel => exact ⟨k + 1, by omega, by simp, hJ3, hnx3⟩
        case measure => simp [intOf]; omega
      · gi_wp2
        refine bodyPost_ret (results_none rfl _ _ _) rfl ?_
        exact ⟨⟨_, rfl⟩, .inr ⟨_, List.take_prefix _ _, hJx3⟩⟩
    · have hki : ¬ (k : Int) < P.length := by omega
      have ht : P.take k = P := List.take_of_length_le (by omega)
      rw [ht] at hJs
      gi_wp2
      go_end0
      exact ⟨⟨_, rfl⟩, .inl hJs⟩
end Go.Proofs.Ytmamdacmpikdbaa
