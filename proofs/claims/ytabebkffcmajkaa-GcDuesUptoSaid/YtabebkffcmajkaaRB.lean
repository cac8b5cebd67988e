import Derived.Test.YtabebkffcmajkaaRA
import Derived.Test.YtabebkffcmajkaaSt
import Derived.Deep.MidRow
/-! Walks: leaf where it may grow; Set. (Printed by mk_R3.py.) -/
namespace Go.Proofs.Ytabebkffcmajkaa
open Go.RowKit Go.Maps

set_option maxRecDepth 100000 in
set_option maxHeartbeats 1000000 in
theorem leaf_grow (w : World) (t r : Nat) (mid leaf : Nat → Option Nat) (f : Nat → Int) (many off : Int) (k j : Nat) (h : RadixAt w t r mid leaf f many) (h0 : 0 ≤ off) (h1 : off < 512) (hk : k < 8) (hj : j < 8) (e1 : off / 64 % 8 = k) (e2 : off / 8 % 8 = j) :
    Calls Try.prog 62 #[.pointer (some ⟨t, 0, none⟩), .int .i64 off, .bool true] w (LeafPost w t r mid leaf f many (k * 8 + j)) := by
  have c0 := h.cRoot
  have c1 := h.cMid hk
  have hki : (k : Int) < 8 := by omega
  have hji : (j : Int) < 8 := by omega
  cases hm : mid k with
  | none =>
    have hl := h.nomid k j hk hj hm
    rw [hm] at c1
    have c1' : w.cell? ⟨r, k, none⟩ = some (.pointer none) := c1
    have f1 : w.frozen? ⟨r, k, none⟩ = false := h.root.frozen k
    have ca1 : (w.alloc (.cells #[.pointer none, .pointer none, .pointer none, .pointer none, .pointer none, .pointer none, .pointer none, .pointer none, .int .i64 0, .int .i64 0, .int .i64 0, .int .i64 0, .int .i64 0, .int .i64 0, .int .i64 0, .int .i64 0] 93)).cell? ⟨r, k, none⟩ = some (.pointer none) := by rw [(h.root.alloc _).cell, nodeCells_ptr _ _ hk, hm]; rfl
    have fa1 : (w.alloc (.cells #[.pointer none, .pointer none, .pointer none, .pointer none, .pointer none, .pointer none, .pointer none, .pointer none, .int .i64 0, .int .i64 0, .int .i64 0, .int .i64 0, .int .i64 0, .int .i64 0, .int .i64 0, .int .i64 0] 93)).frozen? ⟨r, k, none⟩ = false := (h.root.alloc _).frozen k
    obtain ⟨w1, hw1⟩ : ∃ w1, w1 = (w.alloc (.cells #[.pointer none, .pointer none, .pointer none, .pointer none, .pointer none, .pointer none, .pointer none, .pointer none, .int .i64 0, .int .i64 0, .int .i64 0, .int .i64 0, .int .i64 0, .int .i64 0, .int .i64 0, .int .i64 0] 93)).setCell ⟨r, k, none⟩ (.pointer (some ⟨w.heap.size, 0, none⟩)) := ⟨_, rfl⟩
    obtain ⟨h2, hM1, hB1⟩ := h.addMid hk hm hw1
    have c0' : ((w.alloc (.cells #[.pointer none, .pointer none, .pointer none, .pointer none, .pointer none, .pointer none, .pointer none, .pointer none, .int .i64 0, .int .i64 0, .int .i64 0, .int .i64 0, .int .i64 0, .int .i64 0, .int .i64 0, .int .i64 0] 93)).setCell ⟨r, k, none⟩ (.pointer (some ⟨w.heap.size, 0, none⟩))).cell? ⟨t, 0, none⟩ = some (.pointer (some ⟨r, 0, none⟩)) := by rw [← hw1]; exact h2.cRoot
    have c2 := h2.cMid hk
    rw [setAt_same] at c2
    have c2' : ((w.alloc (.cells #[.pointer none, .pointer none, .pointer none, .pointer none, .pointer none, .pointer none, .pointer none, .pointer none, .int .i64 0, .int .i64 0, .int .i64 0, .int .i64 0, .int .i64 0, .int .i64 0, .int .i64 0, .int .i64 0] 93)).setCell ⟨r, k, none⟩ (.pointer (some ⟨w.heap.size, 0, none⟩))).cell? ⟨r, k, none⟩ = some (.pointer (some ⟨w.heap.size, 0, none⟩)) := by rw [← hw1]; exact c2
    have c3 := h2.cLeaf hk hj (setAt_same mid k _)
    rw [hl] at c3
    have c3' : w1.cell? ⟨w.heap.size, j, none⟩ = some (.pointer none) := c3
    have f3 : w1.frozen? ⟨w.heap.size, j, none⟩ = false := (h2.mids k _ hk (setAt_same mid k _)).frozen j
    have ca3 : (w1.alloc (.cells #[.pointer none, .pointer none, .pointer none, .pointer none, .pointer none, .pointer none, .pointer none, .pointer none, .int .i64 0, .int .i64 0, .int .i64 0, .int .i64 0, .int .i64 0, .int .i64 0, .int .i64 0, .int .i64 0] 93)).cell? ⟨w.heap.size, j, none⟩ = some (.pointer none) := by rw [((h2.mids k _ hk (setAt_same mid k _)).alloc _).cell, nodeCells_ptr _ _ hj, hl]; rfl
    have fa3 : (w1.alloc (.cells #[.pointer none, .pointer none, .pointer none, .pointer none, .pointer none, .pointer none, .pointer none, .pointer none, .int .i64 0, .int .i64 0, .int .i64 0, .int .i64 0, .int .i64 0, .int .i64 0, .int .i64 0, .int .i64 0] 93)).frozen? ⟨w.heap.size, j, none⟩ = false := ((h2.mids k _ hk (setAt_same mid k _)).alloc _).frozen j
    have hs1 : w1.heap.size = w.heap.size + 1 := by rw [hw1]; simp [World.setCell]
    obtain ⟨w2, hw2⟩ : ∃ w2, w2 = (w1.alloc (.cells #[.pointer none, .pointer none, .pointer none, .pointer none, .pointer none, .pointer none, .pointer none, .pointer none, .int .i64 0, .int .i64 0, .int .i64 0, .int .i64 0, .int .i64 0, .int .i64 0, .int .i64 0, .int .i64 0] 93)).setCell ⟨w.heap.size, j, none⟩ (.pointer (some ⟨w1.heap.size, 0, none⟩)) := ⟨_, rfl⟩
    obtain ⟨h3, hM2, hB2⟩ := h2.addLeaf hk hj (setAt_same mid k _) hl hw2
    have hfin : LeafPost w t r mid leaf f many (k * 8 + j) (.returned (.pointer (some ⟨w1.heap.size, 0, none⟩))) w2 := by
      refine ⟨_, _, _, rfl, h3, setAt_same _ _ _, hM1.trans' hM2 (fun g hg e => ?_), fun g hg => ?_⟩
      · rcases hB1 g e with e | e
        · exact e
        · omega
      · rcases hB2 g hg with e | e
        · exact hB1 g e
        · right; omega
    have HF := hide hfin
    have HW1 := hide hw1
    have HW2 := hide hw2
    have HS := hide hs1
    clear hm h h2 h3 hM1 hM2 hB1 hB2 hfin hw1 hw2 hl c1 c2 c3 hs1
    go_enter Try.func62, Try.ntmps62
    go_wp2_with fail
    refine wp_loop_rounds 3 ?_
    rw [rounds_succ]
    go_wp2_with fail
    rw [rounds_succ]
    rw [← HW1.out]
    clear c0' c2'
    go_wp2_with fail
    rw [rounds_succ]
    go_wp2
    go_ret
    rw [← HW2.out]
    exact HF.out
  | some m =>
    have c2 := h.cLeaf hk hj hm
    rw [hm] at c1
    have c1' : w.cell? ⟨r, k, none⟩ = some (.pointer (some ⟨m, 0, none⟩)) := c1
    cases hl : leaf (k * 8 + j) with
    | none =>
      rw [hl] at c2
      have c2' : w.cell? ⟨m, j, none⟩ = some (.pointer none) := c2
      have f2 : w.frozen? ⟨m, j, none⟩ = false := (h.mids k m hk hm).frozen j
      have ca2 : (w.alloc (.cells #[.pointer none, .pointer none, .pointer none, .pointer none, .pointer none, .pointer none, .pointer none, .pointer none, .int .i64 0, .int .i64 0, .int .i64 0, .int .i64 0, .int .i64 0, .int .i64 0, .int .i64 0, .int .i64 0] 93)).cell? ⟨m, j, none⟩ = some (.pointer none) := by rw [((h.mids k m hk hm).alloc _).cell, nodeCells_ptr _ _ hj, hl]; rfl
      have fa2 : (w.alloc (.cells #[.pointer none, .pointer none, .pointer none, .pointer none, .pointer none, .pointer none, .pointer none, .pointer none, .int .i64 0, .int .i64 0, .int .i64 0, .int .i64 0, .int .i64 0, .int .i64 0, .int .i64 0, .int .i64 0] 93)).frozen? ⟨m, j, none⟩ = false := ((h.mids k m hk hm).alloc _).frozen j
      obtain ⟨w2, hw2⟩ : ∃ w2, w2 = (w.alloc (.cells #[.pointer none, .pointer none, .pointer none, .pointer none, .pointer none, .pointer none, .pointer none, .pointer none, .int .i64 0, .int .i64 0, .int .i64 0, .int .i64 0, .int .i64 0, .int .i64 0, .int .i64 0, .int .i64 0] 93)).setCell ⟨m, j, none⟩ (.pointer (some ⟨w.heap.size, 0, none⟩)) := ⟨_, rfl⟩
      obtain ⟨h3, hM2, hB2⟩ := h.addLeaf hk hj hm hl hw2
      have hfin : LeafPost w t r mid leaf f many (k * 8 + j) (.returned (.pointer (some ⟨w.heap.size, 0, none⟩))) w2 := ⟨_, _, _, rfl, h3, setAt_same _ _ _, hM2, hB2⟩
      have HF := hide hfin
      have HW2 := hide hw2
      clear hm h h3 hM2 hB2 hfin hw2 hl c1 c2
      go_enter Try.func62, Try.ntmps62
      go_wp2_with fail
      refine wp_loop_rounds 3 ?_
      rw [rounds_succ]
      go_wp2_with fail
      rw [rounds_succ]
      go_wp2_with fail
      rw [rounds_succ]
      go_wp2
      go_ret
      rw [← HW2.out]
      exact HF.out
    | some l =>
      rw [hl] at c2
      have c2' : w.cell? ⟨m, j, none⟩ = some (.pointer (some ⟨l, 0, none⟩)) := c2
      have hfin : LeafPost w t r mid leaf f many (k * 8 + j) (.returned (.pointer (some ⟨l, 0, none⟩))) w := ⟨_, _, _, rfl, h, hl, Mod.refl _ _, fun _ h => .inl h⟩
      have HF := hide hfin
      clear hm h hfin hl c1 c2
      go_enter Try.func62, Try.ntmps62
      go_wp2_with fail
      refine wp_loop_rounds 3 ?_
      rw [rounds_succ]
      go_wp2_with fail
      rw [rounds_succ]
      go_wp2_with fail
      rw [rounds_succ]
      go_wp2
      go_ret
      exact HF.out
end Go.Proofs.Ytabebkffcmajkaa

/-! Walk: Set. (Printed by mk_R4.py.) -/
namespace Go.Proofs.Ytabebkffcmajkaa
open Go.RowKit Go.Maps

theorem RadixAt.congrF {w : World} {t r : Nat} {mid leaf : Nat → Option Nat} {f g : Nat → Int} {many : Int} (h : RadixAt w t r mid leaf f many) (he : ∀ i, i < 512 → f i = g i) : RadixAt w t r mid leaf g many :=
  ⟨h.tree, h.root, h.mids, h.nomid, fun q l hq hl => by
    rw [nodeCells_congr (ch' := none8) (vs' := fun i => f (q * 8 + i)) (fun _ _ => rfl) (fun i hi => (he _ (by omega)).symm)]; exact h.leaves q l hq hl,
    fun q i hq hi hl => by rw [← he _ (by omega)]; exact h.noleaf q i hq hi hl, h.leafInj, h.midInj, h.midLeaf, h.above, h.midAbove, h.leafAbove⟩
theorem RadixAt.setVal {w w' : World} {t r : Nat} {mid leaf : Nat → Option Nat} {f : Nat → Int} {many : Int} (h : RadixAt w t r mid leaf f many) {q i l : Nat} (hq : q < 64) (hi : i < 8) (hl : leaf q = some l) (v : Int)
    (hw : w' = w.setCell ⟨l, 8 + i, none⟩ (.int .i64 v)) : RadixAt w' t r mid leaf (setAt f (q * 8 + i) v) many ∧ Mod (· = l) w w' := by
  have hM : Mod (· = l) w w' := by rw [hw]; exact (Mod.refl (· = l) w).setCell (p := ⟨l, 8 + i, none⟩) (.inr rfl) _
  have hla := h.leafAbove q l hq hl
  refine ⟨⟨h.tree.mod hM (fun e => hla.2 e.symm), h.root.mod hM (fun e => hla.1 e.symm), fun k m hk he => (h.mids k m hk he).mod hM (fun e => h.midLeaf k q m hk hq he (by rw [e]; exact hl)), h.nomid, fun q' l' hq' he => ?_, fun q' i' hq' hi' he => ?_,
    h.leafInj, h.midInj, h.midLeaf, h.above, h.midAbove, h.leafAbove⟩, hM⟩
  · by_cases e : q' = q
    · subst e
      rw [hl] at he
      injection he with he
      subst he
      have h2 : Blk w' l 93 ((nodeCells none8 (fun i => f (q' * 8 + i))).setIfInBounds (8 + i) (.int .i64 v)) := by rw [hw]; exact (h.leaves q' l hq hl).set_ _ _
      rw [nodeCells_setVal _ _ hi] at h2
      rw [nodeCells_congr (ch' := none8) (vs' := setAt (fun i => f (q' * 8 + i)) i v) (fun _ _ => rfl) (fun j hj => ?_)]
      · exact h2
      · unfold setAt
        by_cases e2 : j = i
        · subst e2; simp
        · rw [if_neg e2, if_neg (by omega)]
    · have hne : l' ≠ l := fun e2 => e (h.leafInj q' q l' hq' hq he (by rw [e2]; exact hl))
      rw [nodeCells_congr (ch' := none8) (vs' := fun i => f (q' * 8 + i)) (fun _ _ => rfl) (fun j hj => setAt_ne _ _ (by omega))]
      exact (h.leaves q' l' hq' he).mod hM hne
  · have e : q' ≠ q := fun e => by subst e; rw [hl] at he; cases he
    rw [setAt_ne _ _ (by omega)]
    exact h.noleaf q' i' hq' hi' he
theorem RadixAt.setMany {w w' : World} {t r : Nat} {mid leaf : Nat → Option Nat} {f : Nat → Int} {many : Int} (h : RadixAt w t r mid leaf f many) (m : Int) (hw : w' = w.setCell ⟨t, 1, none⟩ (.int .i64 m)) :
    RadixAt w' t r mid leaf f m ∧ Mod (· = t) w w' := by
  have hM : Mod (· = t) w w' := by rw [hw]; exact (Mod.refl (· = t) w).setCell (p := ⟨t, 1, none⟩) (.inr rfl) _
  have habv := h.above
  refine ⟨⟨?_, h.root.mod hM (by intro e; omega), fun k m hk he => (h.mids k m hk he).mod hM (h.midAbove k m hk he).2, h.nomid, fun q l hq he => (h.leaves q l hq he).mod hM (h.leafAbove q l hq he).2, h.noleaf, h.leafInj, h.midInj, h.midLeaf, h.above, h.midAbove, h.leafAbove⟩, hM⟩
  rw [hw]
  simpa using h.tree.set_ 1 (.int .i64 m)

/-- what Set leaves -/
def SetPost (w : World) (t r : Nat) (mid leaf : Nat → Option Nat) (f : Nat → Int) (o : Nat) (v : Int) : Ending → World → Prop := fun e w' =>
  ∃ mid' leaf' many', e = .returned (.tuple #[.int .i64 (f o), .int .i64 0]) ∧ RadixAt w' t r mid' leaf' (setAt f o v) many' ∧ Mod (TreeB t r mid leaf) w w' ∧ (∀ g, TreeB t r mid' leaf' g → TreeB t r mid leaf g ∨ w.heap.size ≤ g)

set_option maxRecDepth 100000 in
set_option maxHeartbeats 1000000 in
theorem set_out (w : World) (t : Nat) (off v : Int) (h : ¬ (0 ≤ off ∧ off < 512)) :
    Calls Try.prog 52 #[.pointer (some ⟨t, 0, none⟩), .int .i64 off, .int .i64 v] w fun e w' => e = .returned (.tuple #[.int .i64 0, .int .i64 70]) ∧ w = w' := by
  have ho := isOff_any off w
  rw [decide_eq_false h] at ho
  have HO := hide ho
  clear ho h
  go_enter Try.func52, Try.ntmps52
  go_wp2_with fail
  refine Calls.mono HO.out ?_
  rintro e w1 ⟨rfl, rfl⟩
  go_wp2
  go_ret2
  exact ⟨rfl, rfl⟩

set_option maxRecDepth 100000 in
set_option maxHeartbeats 2000000 in
theorem set_any (w : World) (t r : Nat) (mid leaf : Nat → Option Nat) (f : Nat → Int) (many v : Int) (q i : Nat) (h : RadixAt w t r mid leaf f many) (hq : q < 64) (hi : i < 8) :
    Calls Try.prog 52 #[.pointer (some ⟨t, 0, none⟩), .int .i64 ((q * 8 + i : Nat) : Int), .int .i64 v] w (SetPost w t r mid leaf f (q * 8 + i) v) := by
  obtain ⟨o, ho⟩ : ∃ o : Int, o = ((q * 8 + i : Nat) : Int) := ⟨_, rfl⟩
  rw [← ho]
  have e1 : o / 64 % 8 = ((q / 8 : Nat) : Int) := by omega
  have e2 : o / 8 % 8 = ((q % 8 : Nat) : Int) := by omega
  have e3 : o % 8 = (i : Int) := by omega
  have hii : (i : Int) < 8 := by omega
  have ho0 : 0 ≤ o := by omega
  have ho1 : o < 512 := by omega
  have eq : q / 8 * 8 + q % 8 = q := by omega
  have hof := isOff_any o w
  rw [decide_eq_true ⟨ho0, ho1⟩] at hof
  have HO := hide hof
  have E1 := hide e1
  have E2 := hide e2
  have EQ := hide eq
  clear hof ho e1 e2 eq
  by_cases hv : v = 0
  · have hvb : (v != 0) = false := by rw [hv]; rfl
    cases hl : leaf q with
    | none =>
      have hz : f (q * 8 + i) = 0 := h.noleaf q i hq hi hl
      have hfin : SetPost w t r mid leaf f (q * 8 + i) v (.returned (.tuple #[.int .i64 0, .int .i64 0])) w := by
        refine ⟨mid, leaf, many, by rw [hz], h.congrF (fun j _ => ?_), Mod.refl _ _, fun _ hg => .inl hg⟩
        unfold setAt
        by_cases e : j = q * 8 + i
        · rw [if_pos e, hv, e, hz]
        · rw [if_neg e]
      have HF := hide hfin
      have HC := hide (leaf_get w t r mid leaf f many o (q / 8) (q % 8) h ho0 ho1 (by omega) (by omega) E1.out E2.out)
      rw [EQ.out, hl] at HC
      clear hfin hz hl h hv
      go_enter Try.func52, Try.ntmps52
      go_wp2_with fail
      refine Calls.mono HO.out ?_
      rintro e w1 ⟨rfl, rfl⟩
      go_wp2_with fail
      refine Calls.mono HC.out ?_
      rintro e w1 ⟨rfl, rfl⟩
      unfold ptrV
      go_wp2
      go_ret2
      exact HF.out
    | some l =>
      have HC := hide (leaf_get w t r mid leaf f many o (q / 8) (q % 8) h ho0 ho1 (by omega) (by omega) E1.out E2.out)
      rw [EQ.out, hl] at HC
      clear hv
      go_enter Try.func52, Try.ntmps52
      have hR := hide h
      have HL := hide hl
      clear h hl
      go_wp2_with fail
      refine Calls.mono HO.out ?_
      rintro e w1 ⟨rfl, rfl⟩
      go_wp2_with fail
      refine Calls.mono HC.out ?_
      rintro e w1 ⟨rfl, rfl⟩
      unfold ptrV
      have h := hR.out
      have hl := HL.out
      have hM := Mod.refl (TreeB t r mid leaf) w
      have hB : ∀ g, TreeB t r mid leaf g → TreeB t r mid leaf g ∨ w.heap.size ≤ g := fun _ hg => .inl hg
      have hb : ∀ g, g < w.heap.size → TreeB t r mid leaf g → TreeB t r mid leaf g := fun _ _ hg => hg
      replace hR := hR.out
      clear HC HL HO E1 E2 EQ

      have hlf := hR.leaves q l hq hl
      have c1 : w.cell? ⟨l, 8 + i, none⟩ = some (.int .i64 (f (q * 8 + i))) := by rw [hlf.cell, nodeCells_val _ _ hi]
      have f1 : w.frozen? ⟨l, 8 + i, none⟩ = false := hlf.frozen _
      obtain ⟨w2, hw2⟩ : ∃ w2, w2 = w.setCell ⟨l, 8 + i, none⟩ (.int .i64 v) := ⟨_, rfl⟩
      obtain ⟨h2, hM2⟩ := hR.setVal hq hi hl v hw2
      have c2 : (w.setCell ⟨l, 8 + i, none⟩ (.int .i64 v)).cell? ⟨t, 1, none⟩ = some (.int .i64 many) := by rw [← hw2]; exact h2.tree.cell 1
      have f2 : (w.setCell ⟨l, 8 + i, none⟩ (.int .i64 v)).frozen? ⟨t, 1, none⟩ = false := by rw [← hw2]; exact h2.tree.frozen 1
      have hF : ∀ (w3 : World) (m m2 : Int), w3 = w2 ∨ w3 = w2.setCell ⟨t, 1, none⟩ (.int .i64 m) ∨ w3 = (w2.setCell ⟨t, 1, none⟩ (.int .i64 m)).setCell ⟨t, 1, none⟩ (.int .i64 m2) → SetPost w t r mid leaf f (q * 8 + i) v (.returned (.tuple #[.int .i64 (f (q * 8 + i)), .int .i64 0])) w3 := by
        rintro w3 m m2 (rfl | hw3 | hw3)
        · exact ⟨_, _, _, rfl, h2, hM.trans' hM2 (fun g hg e => hb _ hg (.inr (.inr (.inr ⟨q, hq, by rw [e]; exact hl⟩)))), hB⟩
        · obtain ⟨h3, hM3⟩ := h2.setMany m hw3
          refine ⟨_, _, _, rfl, h3, (hM.trans' hM2 (fun g hg e => hb _ hg (.inr (.inr (.inr ⟨q, hq, by rw [e]; exact hl⟩))))).trans' hM3 (fun g hg e => .inl e), hB⟩
        · obtain ⟨h3, hM3⟩ := h2.setMany m rfl
          obtain ⟨h4, hM4⟩ := h3.setMany m2 hw3
          refine ⟨_, _, _, rfl, h4, ((hM.trans' hM2 (fun g hg e => hb _ hg (.inr (.inr (.inr ⟨q, hq, by rw [e]; exact hl⟩))))).trans' hM3 (fun g hg e => .inl e)).trans' hM4 (fun g hg e => .inl e), hB⟩
      have HF := hide hF
      have HW2 := hide hw2
      clear hF hw2 h2 hM2 hR hM hB hb hl hlf h
      by_cases hwas : f (q * 8 + i) = 0
      · have hz : (f (q * 8 + i) != 0) = false := by rw [hwas]; rfl
        have hz' : (f (q * 8 + i) == 0) = true := by rw [hwas]; rfl
        clear hwas
        generalize f (q * 8 + i) = was at c1 hz hz' HF ⊢
        go_wp2
        go_ret2
        rw [← HW2.out]
        exact HF.out _ 0 0 (.inl rfl)
      · have hz : (f (q * 8 + i) != 0) = true := by rw [bne_iff_ne]; exact hwas
        have hz' : (f (q * 8 + i) == 0) = false := by rw [beq_eq_false_iff_ne]; exact hwas
        clear hwas
        generalize f (q * 8 + i) = was at c1 hz hz' HF ⊢
        go_wp2
        go_ret2
        rw [← HW2.out]
        exact HF.out _ _ 0 (.inr (.inl rfl))

  · have hvb : (v != 0) = true := by rw [bne_iff_ne]; exact hv
    have HC := hide (leaf_grow w t r mid leaf f many o (q / 8) (q % 8) h ho0 ho1 (by omega) (by omega) E1.out E2.out)
    rw [EQ.out] at HC
    go_enter Try.func52, Try.ntmps52
    clear hv h
    go_wp2_with fail
    refine Calls.mono HO.out ?_
    rintro e w1 ⟨rfl, rfl⟩
    go_wp2_with fail
    refine Calls.mono HC.out ?_
    rintro e w1 ⟨l, mid1, leaf1, rfl, hR, hl, hM, hB⟩
    have h := hR
    have hb : ∀ g, g < w.heap.size → TreeB t r mid1 leaf1 g → TreeB t r mid leaf g := fun g hg e => by
      rcases hB g e with e | e
      · exact e
      · omega
    clear HC HO E1 E2 EQ

    have hlf := hR.leaves q l hq hl
    have c1 : w1.cell? ⟨l, 8 + i, none⟩ = some (.int .i64 (f (q * 8 + i))) := by rw [hlf.cell, nodeCells_val _ _ hi]
    have f1 : w1.frozen? ⟨l, 8 + i, none⟩ = false := hlf.frozen _
    obtain ⟨w2, hw2⟩ : ∃ w2, w2 = w1.setCell ⟨l, 8 + i, none⟩ (.int .i64 v) := ⟨_, rfl⟩
    obtain ⟨h2, hM2⟩ := hR.setVal hq hi hl v hw2
    have c2 : (w1.setCell ⟨l, 8 + i, none⟩ (.int .i64 v)).cell? ⟨t, 1, none⟩ = some (.int .i64 many) := by rw [← hw2]; exact h2.tree.cell 1
    have f2 : (w1.setCell ⟨l, 8 + i, none⟩ (.int .i64 v)).frozen? ⟨t, 1, none⟩ = false := by rw [← hw2]; exact h2.tree.frozen 1
    have hF : ∀ (w3 : World) (m m2 : Int), w3 = w2 ∨ w3 = w2.setCell ⟨t, 1, none⟩ (.int .i64 m) ∨ w3 = (w2.setCell ⟨t, 1, none⟩ (.int .i64 m)).setCell ⟨t, 1, none⟩ (.int .i64 m2) → SetPost w t r mid leaf f (q * 8 + i) v (.returned (.tuple #[.int .i64 (f (q * 8 + i)), .int .i64 0])) w3 := by
      rintro w3 m m2 (rfl | hw3 | hw3)
      · exact ⟨_, _, _, rfl, h2, hM.trans' hM2 (fun g hg e => hb _ hg (.inr (.inr (.inr ⟨q, hq, by rw [e]; exact hl⟩)))), hB⟩
      · obtain ⟨h3, hM3⟩ := h2.setMany m hw3
        refine ⟨_, _, _, rfl, h3, (hM.trans' hM2 (fun g hg e => hb _ hg (.inr (.inr (.inr ⟨q, hq, by rw [e]; exact hl⟩))))).trans' hM3 (fun g hg e => .inl e), hB⟩
      · obtain ⟨h3, hM3⟩ := h2.setMany m rfl
        obtain ⟨h4, hM4⟩ := h3.setMany m2 hw3
        refine ⟨_, _, _, rfl, h4, ((hM.trans' hM2 (fun g hg e => hb _ hg (.inr (.inr (.inr ⟨q, hq, by rw [e]; exact hl⟩))))).trans' hM3 (fun g hg e => .inl e)).trans' hM4 (fun g hg e => .inl e), hB⟩
    have HF := hide hF
    have HW2 := hide hw2
    clear hF hw2 h2 hM2 hR hM hB hb hl hlf h
    by_cases hwas : f (q * 8 + i) = 0
    · have hz : (f (q * 8 + i) != 0) = false := by rw [hwas]; rfl
      have hz' : (f (q * 8 + i) == 0) = true := by rw [hwas]; rfl
      clear hwas
      generalize f (q * 8 + i) = was at c1 hz hz' HF ⊢
      go_wp2
      go_ret2
      rw [← HW2.out]
      exact HF.out _ _ 0 (.inr (.inl rfl))
    · have hz : (f (q * 8 + i) != 0) = true := by rw [bne_iff_ne]; exact hwas
      have hz' : (f (q * 8 + i) == 0) = false := by rw [beq_eq_false_iff_ne]; exact hwas
      clear hwas
      generalize f (q * 8 + i) = was at c1 hz hz' HF ⊢
      go_wp2
      go_ret2
      rw [← HW2.out]
      exact HF.out _ _ _ (.inr (.inr rfl))

end Go.Proofs.Ytabebkffcmajkaa

/-! Walk: copied. -/
namespace Go.Proofs.Ytabebkffcmajkaa
open Go.RowKit Go.Maps
attribute [local go_sem] quietV loudUpon Oper.semAt_some

def ptrCells (ch : Nat → Option Nat) : List Value := [ptrV (ch 0), ptrV (ch 1), ptrV (ch 2), ptrV (ch 3), ptrV (ch 4), ptrV (ch 5), ptrV (ch 6), ptrV (ch 7)]
def valCells (vs : Nat → Int) : List Value := [.int .i64 (vs 0), .int .i64 (vs 1), .int .i64 (vs 2), .int .i64 (vs 3), .int .i64 (vs 4), .int .i64 (vs 5), .int .i64 (vs 6), .int .i64 (vs 7)]
theorem range_ptr {w : World} {p : Nat} {ch : Nat → Option Nat} {vs : Nat → Int} (h : Blk w p 93 (nodeCells ch vs)) : w.rangeAt p 0 (ptrCells ch) := fun j v hj => by
  have hl : j < 8 := (List.getElem?_eq_some_iff.1 hj).1
  rw [Nat.zero_add, h.cell, nodeCells_ptr _ _ hl, ← hj]
  match j, hl with
  | 0, _ => rfl
  | 1, _ => rfl
  | 2, _ => rfl
  | 3, _ => rfl
  | 4, _ => rfl
  | 5, _ => rfl
  | 6, _ => rfl
  | 7, _ => rfl
theorem range_val {w : World} {p : Nat} {ch : Nat → Option Nat} {vs : Nat → Int} (h : Blk w p 93 (nodeCells ch vs)) : w.rangeAt p 8 (valCells vs) := fun j v hj => by
  have hl : j < 8 := (List.getElem?_eq_some_iff.1 hj).1
  rw [h.cell, nodeCells_val _ _ hl, ← hj]
  match j, hl with
  | 0, _ => rfl
  | 1, _ => rfl
  | 2, _ => rfl
  | 3, _ => rfl
  | 4, _ => rfl
  | 5, _ => rfl
  | 6, _ => rfl
  | 7, _ => rfl
theorem run_vals {w : World} {p : Nat} {ch : Nat → Option Nat} {vs : Nat → Int} (h : Blk w p 93 (nodeCells ch vs)) : (Instr.loadAt 91 (.pointer (some ⟨p, 8, none⟩))).run Try.prog w = .ok (.agg (valCells vs).toArray) w :=
  run_loadAt_mid w p 8 91 (valCells vs) _ (range_val h) Try.underlying91 rfl (by kernel_rfl)
theorem run_ptrs {w : World} {p : Nat} {ch : Nat → Option Nat} {vs : Nat → Int} (h : Blk w p 93 (nodeCells ch vs)) : (Instr.loadAt 90 (.pointer (some ⟨p, 0, none⟩))).run Try.prog w = .ok (.agg (ptrCells ch).toArray) w :=
  run_loadAt_mid w p 0 90 (ptrCells ch) _ (range_ptr h) Try.underlying90 rfl (by kernel_rfl)
theorem run_buildV (vs : Nat → Int) (w : World) : (Instr.build 93 #[(1, .agg (valCells vs).toArray)]).run Try.prog w = .ok (.agg (nodeCells none8 vs)) w := by
  unfold valCells
  kernel_rfl
theorem run_ixP (ch : Nat → Option Nat) {k : Nat} (hk : k < 8) (w : World) : (Instr.index 90 (.agg (ptrCells ch).toArray) (.int .i64 k)).run Try.prog w = .ok (ptrV (ch k)) w := by
  unfold ptrCells
  rcases (show k = 0 ∨ k = 1 ∨ k = 2 ∨ k = 3 ∨ k = 4 ∨ k = 5 ∨ k = 6 ∨ k = 7 by omega) with rfl | rfl | rfl | rfl | rfl | rfl | rfl | rfl
  all_goals kernel_rfl
theorem ex_index {P : Program} {o : Oper} {a : Act} {w w' : World} {v : Value} {t : TypeId} {x y : Operand} (h : o.op = .index t x y) (hr : (Instr.index t (a.eval x) (a.eval y)).run P w = .ok v w') : (execOp a.eval o).run P w = .ok (.value v) w' := by
  unfold execOp; simp only [h]; simp [hr]
/-- the loop of copied, at child k -/
def CopyRelR (w : World) (n : Nat) (ch : Nat → Option Nat) (vs : Nat → Int) (fk : Nat → Nat → Int) (k : Nat) (wr : World) : Prop :=
  ∃ ch', Blk wr w.heap.size 93 (nodeCells ch' vs) ∧ (∀ j, j < k → (ch j = none → ch' j = none) ∧ (ch' j = none → ch j = none) ∧ ∀ q', ch' j = some q' → NodeR wr (w.heap.size + 1) n q' (fk j)) ∧ (∀ j, k ≤ j → ch' j = none) ∧ Mod None_ w wr
theorem CopyRelR.skip {w wr : World} {n k : Nat} {ch : Nat → Option Nat} {vs : Nat → Int} {fk : Nat → Nat → Int} (h : CopyRelR w n ch vs fk k wr) (hk : ch k = none) : CopyRelR w n ch vs fk (k + 1) wr := by
  obtain ⟨ch', h1, h2, h3, h4⟩ := h
  refine ⟨ch', h1, fun j hj => ?_, fun j hj => h3 j (by omega), h4⟩
  by_cases e : j = k
  · subst e
    exact ⟨fun _ => h3 j (Nat.le_refl _), fun _ => hk, fun q' hq => by rw [h3 j (Nat.le_refl _)] at hq; cases hq⟩
  · exact h2 j (by omega)
theorem CopyRelR.step {w wr w2 w3 : World} {n k q' : Nat} {ch : Nat → Option Nat} {vs : Nat → Int} {fk : Nat → Nat → Int} (h : CopyRelR w n ch vs fk k wr) (hk8 : k < 8) (hk : ch k ≠ none) (hm : Mod None_ wr w2) (hq : NodeR w2 wr.heap.size n q' (fk k))
    (hw : w3 = w2.setCell ⟨w.heap.size, k, none⟩ (.pointer (some ⟨q', 0, none⟩))) : CopyRelR w n ch vs fk (k + 1) w3 := by
  obtain ⟨ch', h1, h2, h3, h4⟩ := h
  have hM : Mod (· = w.heap.size) w2 w3 := by rw [hw]; exact (Mod.refl (· = w.heap.size) w2).setCell (p := ⟨w.heap.size, k, none⟩) (.inr rfl) _
  have hlt := h1.lt
  refine ⟨setAt ch' k (some q'), ?_, fun j hj => ?_, fun j hj => by rw [setAt_ne _ _ (by omega)]; exact h3 j (by omega), (h4.trans hm).trans' hM (fun g hg e => by omega)⟩
  · have h5 : Blk w3 w.heap.size 93 ((nodeCells ch' vs).setIfInBounds k (.pointer (some ⟨q', 0, none⟩))) := by rw [hw]; exact (h1.mod hm id).set_ k _
    rw [show (Value.pointer (some ⟨q', 0, none⟩)) = ptrV (some q') from rfl, nodeCells_setPtr _ _ hk8] at h5
    exact h5
  · by_cases e : j = k
    · subst e
      rw [setAt_same]
      refine ⟨fun h => absurd h hk, fun h => (by cases h), fun q hq' => ?_⟩
      injection hq' with hq'
      subst hq'
      exact (hq.lo hlt).mod hM (fun g hg e => by omega)
    · rw [setAt_ne _ _ e]
      obtain ⟨a1, a2, a3⟩ := h2 j (by omega)
      exact ⟨a1, a2, fun q hq' => ((a3 q hq').mod hm (fun _ _ f => f)).mod hM (fun g hg e => by omega)⟩

set_option maxRecDepth 100000 in
set_option maxHeartbeats 1000000 in
theorem copied_node (w : World) (p n : Nat) (ch : Nat → Option Nat) (vs : Nat → Int) (hB : Blk w p 93 (nodeCells ch vs)) (fk : Nat → Nat → Int)
    (HC : ∀ k q, k < 8 → ch k = some q → ∀ W, Mod None_ w W → Calls Try.prog 39 #[.pointer (some ⟨q, 0, none⟩)] W fun e W' => ∃ q', e = .returned (.pointer (some ⟨q', 0, none⟩)) ∧ NodeR W' W.heap.size n q' (fk k) ∧ Mod None_ W W') :
    Calls Try.prog 39 #[.pointer (some ⟨p, 0, none⟩)] w fun e w' => ∃ ch', e = .returned (.pointer (some ⟨w.heap.size, 0, none⟩)) ∧ Blk w' w.heap.size 93 (nodeCells ch' vs) ∧
      (∀ k, k < 8 → (ch k = none → ch' k = none) ∧ (ch' k = none → ch k = none) ∧ ∀ q', ch' k = some q' → NodeR w' w.heap.size n q' (fk k)) ∧ Mod None_ w w' := by
  have hv := run_vals hB
  have HCH := hide HC
  clear HC
  go_enter Try.func39, Try.ntmps39
  have hbv := run_buildV vs
  have hp1 := run_ptrs (hB.alloc (.cells (nodeCells none8 vs) 93))
  have hB1 := hB.alloc (.cells (nodeCells none8 vs) 93)
  have hN1 := Blk.new w 93 (nodeCells none8 vs)
  go_wp2_with (first
    | ((with_reducible refine at_slot 9 ?_); refine wpList_val rfl (ex_load rfl hv) ?_; go_frame)
    | ((with_reducible refine at_slot 10 ?_); refine wpList_val rfl (ex_build (ps := [(1, .tmp 9)]) rfl (hbv _)) ?_; go_frame)
    | ((with_reducible refine at_slot 11 ?_); refine wpList_val (w' := w.alloc (.cells (nodeCells none8 vs) 93)) rfl (ex_box rfl rfl) ?_; go_frame)
    | ((with_reducible refine at_slot 15 ?_); refine wpList_val rfl (ex_load rfl hp1) ?_; go_frame))
  have h0 : CopyRelR w n ch vs fk 0 (w.alloc (.cells (nodeCells none8 vs) 93)) := ⟨none8, hN1, fun j hj => by omega, fun _ _ => rfl, (Mod.refl _ w).alloc _⟩
  clear hv hp1 hB1 hN1 hbv
  go_loopw [16] (fun i wr => ∃ k : Nat, k ≤ 8 ∧ i = .int .i64 k ∧ CopyRelR w n ch vs fk k wr) (fun i _ => 8 - (intOf i).toNat)
  case atStart => exact ⟨0, by omega, rfl, h0⟩
  case round =>
    obtain ⟨k, hk8, rfl, hR⟩ := hrel
    by_cases hk : k < 8
    · have hix := run_ixP ch hk
      have hki : (k : Int) < 8 := by omega
      cases hck : ch k with
      | none =>
        rw [hck] at hix
        have hix' : ∀ w, (Instr.index 90 (.agg (ptrCells ch).toArray) (.int .i64 k)).run Try.prog w = .ok (.pointer none) w := hix
        have HR := hide (hR.skip hck)
        clear hix hck hR h0
        go_wp2_with ((with_reducible refine at_slot 19 ?_); refine wpList_val rfl (ex_index rfl (hix' _)) ?_; go_frame)
        go_roundw
        case rel => exact ⟨k + 1, by omega, by go_num, HR.out⟩
        case measure => simp [intOf]; omega
      | some q =>
        rw [hck] at hix
        have hix' : ∀ w, (Instr.index 90 (.agg (ptrCells ch).toArray) (.int .i64 k)).run Try.prog w = .ok (.pointer (some ⟨q, 0, none⟩)) w := hix
        obtain ⟨ch', hm, _, _, hM⟩ := id hR
        have hM2 : Mod None_ w wr.drew := hM.drew
        have HQ := hide (HCH.out k q hk hck wr.drew hM2)
        have HR := hide hR
        have HM := hide hm
        have HCK := hide hck
        have hwd : ∃ wd, wd = wr.drew := ⟨_, rfl⟩
        clear hix hck hR h0 hm hM hM2
        go_wp2_with ((with_reducible refine at_slot 19 ?_); refine wpList_val rfl (ex_index rfl (hix' _)) ?_; go_frame)
        refine region_mxw [(true, 0), (true, 1), (true, 2), (true, 4), (true, 5), (false, 3), (true, 6), (false, 7)] (fun _ => True) (by kernel_rfl) (by kernel_rfl) ?_
        rintro w9 hw9
        rw [← hw9] at HQ
        have HW9 := hide hw9
        clear hw9
        refine ⟨trivial, ?_⟩
        iterate 5 (refine mxw_quiet rfl (fun w' _ K hK => by go_simp; exact hK) ?_; go_frame)
        refine mxw_loud rfl (fun K hK => ?_)
        go_simp
        refine Calls.mono HQ.out ?_
        rintro e w10 ⟨q', rfl, hn, hm10⟩
        have hd : Mod None_ wr w9 := by rw [HW9.out]; exact (Mod.refl _ wr).drew
        have hs9 : w9.heap.size = wr.heap.size := by rw [HW9.out]; rfl
        have c0 : w10.cell? ⟨w.heap.size, k, none⟩ = some (ptrV (ch' k)) := by rw [((HM.out.mod hd id).mod hm10 id).cell, nodeCells_ptr _ _ hk]
        have f0 : w10.frozen? ⟨w.heap.size, k, none⟩ = false := ((HM.out.mod hd id).mod hm10 id).frozen k
        obtain ⟨w11, hw11⟩ : ∃ w11, w11 = w10.setCell ⟨w.heap.size, k, none⟩ (.pointer (some ⟨q', 0, none⟩)) := ⟨_, rfl⟩
        have hst := HR.out.step hk (by rw [HCK.out]; exact fun e => by cases e) (hd.trans hm10) (by rw [hs9] at hn; exact hn) hw11
        have HST := hide hst
        have HW11 := hide hw11
        clear hst hw11 hd hs9 hn hm10
        refine ⟨_, rfl, hK _ _ ?_⟩
        clear hK K
        try go_frame
        refine mxw_quiet rfl (fun w' _ K hK => by go_simp; exact hK) ?_
        go_frame
        refine mxw_loud rfl (fun K hK => ?_)
        go_simp
        refine hK _ _ ?_
        clear hK K
        refine mxw_nil ?_
        go_wp2
        rw [← HW11.out]
        go_roundw
        case rel => exact ⟨k + 1, by omega, by go_num, HST.out⟩
        case measure => simp [intOf]; omega
    · obtain rfl : k = 8 := by omega
      have HR := hide hR
      clear hR h0
      go_wp2
      go_ret
      obtain ⟨ch', h1, h2, h3, h4⟩ := HR.out
      exact ⟨ch', rfl, h1, fun k hk => ⟨(h2 k hk).1, (h2 k hk).2.1, fun q' hq => ((h2 k hk).2.2 q' hq).lo (Nat.le_succ _)⟩, h4⟩

theorem copied_any : ∀ (n : Nat) (w : World) (lo p : Nat) (f : Nat → Int), NodeR w lo n p f →
    Calls Try.prog 39 #[.pointer (some ⟨p, 0, none⟩)] w fun e w' => ∃ q, e = .returned (.pointer (some ⟨q, 0, none⟩)) ∧ NodeR w' w.heap.size n q f ∧ Mod None_ w w'
  | 0, w, lo, p, f, h => by
    refine (copied_node w p 0 none8 f h.2 (fun _ _ => 0) (fun k q _ hq => by cases hq)).mono ?_
    rintro e w' ⟨ch', rfl, h1, h2, h3⟩
    refine ⟨_, rfl, ⟨Nat.le_refl _, ?_⟩, h3⟩
    rw [nodeCells_congr (ch := none8) (ch' := ch') (vs := f) (vs' := f) (fun k hk => ((h2 k hk).1 rfl).symm) (fun _ _ => rfl)]
    exact h1
  | n + 1, w, lo, p, f, h => by
    obtain ⟨hp, ch, hB, hc⟩ := h
    refine (copied_node w p n ch zero8 hB (fun k i => f (k * 8 ^ (n + 1) + i)) (fun k q hk hq W hM => copied_any n W lo q _ (((hc k hk).2 q hq).mod hM (fun _ _ f => f)))).mono ?_
    rintro e w' ⟨ch', rfl, h1, h2, h3⟩
    exact ⟨_, rfl, ⟨Nat.le_refl _, ch', h1, fun k hk => ⟨fun hn => (hc k hk).1 ((h2 k hk).2.1 hn), fun q hq => (h2 k hk).2.2 q hq⟩⟩, h3⟩
end Go.Proofs.Ytabebkffcmajkaa
