import Derived.LoopN
import Derived.Deep.MidRow
import Derived.RangeFuncNested
import Derived.RangeFuncBound
import Derived.RangeFuncCalls
import Derived.RangeFuncLeaves
import Derived.OwnWalkIn
import Derived.TacticsInMore
import Derived.LoopNIn
import Derived.LoopIn
import Derived.Deep.CutRange
import Derived.IntWalk
import Derived.Test.YtabebkffcmajkaaGreatDoorG1
import Derived.Test.YtabebkffcmajkaaGreatDoorG2
/-! A tree of fan-out 8: how it lies in memory. -/
namespace Go.Proofs.YtabebkffcmajkaaGreatDoor
open Go.RowKit Go.Maps

def ptrV (o : Option Nat) : Value := .pointer (o.map fun b => ⟨b, 0, none⟩)
/-- the cells of a part -/
def nodeCells (ch : Nat → Option Nat) (vs : Nat → Int) : Array Value :=
  #[ptrV (ch 0), ptrV (ch 1), ptrV (ch 2), ptrV (ch 3), ptrV (ch 4), ptrV (ch 5), ptrV (ch 6), ptrV (ch 7),
    .int .i64 (vs 0), .int .i64 (vs 1), .int .i64 (vs 2), .int .i64 (vs 3), .int .i64 (vs 4), .int .i64 (vs 5), .int .i64 (vs 6), .int .i64 (vs 7)]
def none8 : Nat → Option Nat := fun _ => none
def zero8 : Nat → Int := fun _ => 0
theorem nodeCells_ptr (ch : Nat → Option Nat) (vs : Nat → Int) {k : Nat} (h : k < 8) : (nodeCells ch vs)[k]? = some (ptrV (ch k)) := by
  match k, h with
  | 0, _ => rfl
  | 1, _ => rfl
  | 2, _ => rfl
  | 3, _ => rfl
  | 4, _ => rfl
  | 5, _ => rfl
  | 6, _ => rfl
  | 7, _ => rfl
theorem nodeCells_val (ch : Nat → Option Nat) (vs : Nat → Int) {k : Nat} (h : k < 8) : (nodeCells ch vs)[8 + k]? = some (.int .i64 (vs k)) := by
  match k, h with
  | 0, _ => rfl
  | 1, _ => rfl
  | 2, _ => rfl
  | 3, _ => rfl
  | 4, _ => rfl
  | 5, _ => rfl
  | 6, _ => rfl
  | 7, _ => rfl
def setAt {α : Type} (f : Nat → α) (k : Nat) (v : α) : Nat → α := fun i => if i = k then v else f i
theorem setAt_same {α : Type} (f : Nat → α) (k : Nat) (v : α) : setAt f k v k = v := by simp [setAt]
theorem setAt_ne {α : Type} (f : Nat → α) {k i : Nat} (v : α) (h : i ≠ k) : setAt f k v i = f i := by simp [setAt, h]
theorem nodeCells_setPtr (ch : Nat → Option Nat) (vs : Nat → Int) {k : Nat} (h : k < 8) (b : Option Nat) : (nodeCells ch vs).setIfInBounds k (ptrV b) = nodeCells (setAt ch k b) vs := by
  match k, h with
  | 0, _ => rfl
  | 1, _ => rfl
  | 2, _ => rfl
  | 3, _ => rfl
  | 4, _ => rfl
  | 5, _ => rfl
  | 6, _ => rfl
  | 7, _ => rfl
theorem nodeCells_setVal (ch : Nat → Option Nat) (vs : Nat → Int) {k : Nat} (h : k < 8) (v : Int) : (nodeCells ch vs).setIfInBounds (8 + k) (.int .i64 v) = nodeCells ch (setAt vs k v) := by
  match k, h with
  | 0, _ => rfl
  | 1, _ => rfl
  | 2, _ => rfl
  | 3, _ => rfl
  | 4, _ => rfl
  | 5, _ => rfl
  | 6, _ => rfl
  | 7, _ => rfl
theorem nodeCells_congr {ch ch' : Nat → Option Nat} {vs vs' : Nat → Int} (h : ∀ k, k < 8 → ch k = ch' k) (h' : ∀ k, k < 8 → vs k = vs' k) : nodeCells ch vs = nodeCells ch' vs' := by
  unfold nodeCells
  rw [h 0 (by omega), h 1 (by omega), h 2 (by omega), h 3 (by omega), h 4 (by omega), h 5 (by omega), h 6 (by omega), h 7 (by omega),
    h' 0 (by omega), h' 1 (by omega), h' 2 (by omega), h' 3 (by omega), h' 4 (by omega), h' 5 (by omega), h' 6 (by omega), h' 7 (by omega)]

/-- a part of level n that reads as the values f (of 8 ^ (n + 1) offsets), its blocks from lo on -/
def NodeR (w : World) (lo : Nat) : Nat → Nat → (Nat → Int) → Prop
  | 0, p, f => lo ≤ p ∧ Blk w p 141 (nodeCells none8 f)
  | n + 1, p, f => lo ≤ p ∧ ∃ ch, Blk w p 141 (nodeCells ch zero8) ∧ ∀ k, k < 8 →
      (ch k = none → ∀ i, i < 8 ^ (n + 1) → f (k * 8 ^ (n + 1) + i) = 0) ∧ (∀ q, ch k = some q → NodeR w lo n q (fun i => f (k * 8 ^ (n + 1) + i)))
theorem NodeR.mod {S : Nat → Prop} {w w' : World} {lo : Nat} (hm : Mod S w w') (hs : ∀ k, lo ≤ k → ¬ S k) : ∀ {n p : Nat} {f : Nat → Int}, NodeR w lo n p f → NodeR w' lo n p f
  | 0, _, _, h => ⟨h.1, h.2.mod hm (hs _ h.1)⟩
  | n + 1, _, _, h => by
    obtain ⟨h1, ch, h2, h3⟩ := h
    exact ⟨h1, ch, h2.mod hm (hs _ h1), fun k hk => ⟨(h3 k hk).1, fun q hq => NodeR.mod hm hs ((h3 k hk).2 q hq)⟩⟩
theorem NodeR.lo {w : World} {lo lo' : Nat} (hl : lo' ≤ lo) : ∀ {n p : Nat} {f : Nat → Int}, NodeR w lo n p f → NodeR w lo' n p f
  | 0, _, _, h => ⟨Nat.le_trans hl h.1, h.2⟩
  | n + 1, _, _, h => by
    obtain ⟨h1, ch, h2, h3⟩ := h
    exact ⟨Nat.le_trans hl h1, ch, h2, fun k hk => ⟨(h3 k hk).1, fun q hq => NodeR.lo hl ((h3 k hk).2 q hq)⟩⟩
theorem NodeR.le {w : World} {lo : Nat} : ∀ {n p : Nat} {f : Nat → Int}, NodeR w lo n p f → lo ≤ p
  | 0, _, _, h => h.1
  | _ + 1, _, _, h => h.1
/-- what keeps all blocks of cells from lo on keeps the part -/
theorem NodeR.keep {w w' : World} {lo : Nat} (hk : ∀ g t cs, lo ≤ g → Blk w g t cs → Blk w' g t cs) : ∀ {n p : Nat} {f : Nat → Int}, NodeR w lo n p f → NodeR w' lo n p f
  | 0, _, _, h => ⟨h.1, hk _ _ _ h.1 h.2⟩
  | n + 1, _, _, h => by
    obtain ⟨h1, ch, h2, h3⟩ := h
    exact ⟨h1, ch, hk _ _ _ h1 h2, fun k hk' => ⟨(h3 k hk').1, fun q hq => NodeR.keep hk ((h3 k hk').2 q hq)⟩⟩
theorem NodeR.congr {w : World} {lo : Nat} : ∀ {n p : Nat} {f g : Nat → Int}, (∀ i, i < 8 ^ (n + 1) → f i = g i) → NodeR w lo n p f → NodeR w lo n p g
  | 0, _, f, g, he, h => ⟨h.1, by rw [nodeCells_congr (fun _ _ => rfl) (vs' := f) (fun k hk => (he k (by simpa using hk)).symm)]; exact h.2⟩
  | n + 1, _, f, g, he, h => by
    obtain ⟨h1, ch, h2, h3⟩ := h
    have hp : 8 ^ (n + 1 + 1) = 8 ^ (n + 1) * 8 := by rw [Nat.pow_succ]
    have hlt : ∀ k i, k < 8 → i < 8 ^ (n + 1) → k * 8 ^ (n + 1) + i < 8 ^ (n + 1 + 1) := fun k i hk hi => by
      have : k * 8 ^ (n + 1) ≤ 7 * 8 ^ (n + 1) := Nat.mul_le_mul_right _ (by omega)
      omega
    exact ⟨h1, ch, h2, fun k hk => ⟨fun hn i hi => by rw [← he _ (hlt k i hk hi)]; exact (h3 k hk).1 hn i hi, fun q hq => NodeR.congr (fun i hi => he _ (hlt k i hk hi)) ((h3 k hk).2 q hq)⟩⟩

/-- the whole tree, to be written: its parts apart from one another -/
structure RadixAt (w : World) (t : Nat) (r : Nat) (mid leaf : Nat → Option Nat) (f : Nat → Int) (many : Int) : Prop where
  tree : Blk w t 116 #[.pointer (some ⟨r, 0, none⟩), .int .i64 many]
  root : Blk w r 141 (nodeCells mid zero8)
  mids : ∀ k m, k < 8 → mid k = some m → Blk w m 141 (nodeCells (fun j => leaf (k * 8 + j)) zero8)
  nomid : ∀ k j, k < 8 → j < 8 → mid k = none → leaf (k * 8 + j) = none
  leaves : ∀ q l, q < 64 → leaf q = some l → Blk w l 141 (nodeCells none8 (fun i => f (q * 8 + i)))
  noleaf : ∀ q i, q < 64 → i < 8 → leaf q = none → f (q * 8 + i) = 0
  leafInj : ∀ q q' l, q < 64 → q' < 64 → leaf q = some l → leaf q' = some l → q = q'
  midInj : ∀ k k' m, k < 8 → k' < 8 → mid k = some m → mid k' = some m → k = k'
  midLeaf : ∀ k q m, k < 8 → q < 64 → mid k = some m → leaf q = some m → False
  above : t < r ∨ r < t
  midAbove : ∀ k m, k < 8 → mid k = some m → m ≠ r ∧ m ≠ t
  leafAbove : ∀ q l, q < 64 → leaf q = some l → l ≠ r ∧ l ≠ t
/-- the blocks of a tree -/
def TreeB (t r : Nat) (mid leaf : Nat → Option Nat) : Nat → Prop := fun g => g = t ∨ g = r ∨ (∃ k, k < 8 ∧ mid k = some g) ∨ (∃ q, q < 64 ∧ leaf q = some g)
theorem RadixAt.lt {w : World} {t r : Nat} {mid leaf : Nat → Option Nat} {f : Nat → Int} {many : Int} (h : RadixAt w t r mid leaf f many) {g : Nat} (hg : TreeB t r mid leaf g) : g < w.heap.size := by
  rcases hg with rfl | rfl | ⟨k, hk, hm⟩ | ⟨q, hq, hl⟩
  · exact h.tree.lt
  · exact h.root.lt
  · exact (h.mids k g hk hm).lt
  · exact (h.leaves q g hq hl).lt
theorem RadixAt.mod {S : Nat → Prop} {w w' : World} {t r : Nat} {mid leaf : Nat → Option Nat} {f : Nat → Int} {many : Int} (h : RadixAt w t r mid leaf f many) (hm : Mod S w w') (hs : ∀ g, TreeB t r mid leaf g → ¬ S g) : RadixAt w' t r mid leaf f many :=
  ⟨h.tree.mod hm (hs _ (.inl rfl)), h.root.mod hm (hs _ (.inr (.inl rfl))), fun k m hk he => (h.mids k m hk he).mod hm (hs _ (.inr (.inr (.inl ⟨k, hk, he⟩)))), h.nomid,
    fun q l hq he => (h.leaves q l hq he).mod hm (hs _ (.inr (.inr (.inr ⟨q, hq, he⟩)))), h.noleaf, h.leafInj, h.midInj, h.midLeaf, h.above, h.midAbove, h.leafAbove⟩
theorem RadixAt.kept {w w' : World} {t r : Nat} {mid leaf : Nat → Option Nat} {f : Nat → Int} {many : Int} (h : RadixAt w t r mid leaf f many) (hm : Mod None_ w w') : RadixAt w' t r mid leaf f many := h.mod hm fun _ _ e => e
/-- read as a part of level 2 -/
theorem RadixAt.node {w : World} {t r : Nat} {mid leaf : Nat → Option Nat} {f : Nat → Int} {many : Int} (h : RadixAt w t r mid leaf f many) : NodeR w 0 2 r f := by
  refine ⟨Nat.zero_le _, mid, h.root, fun k hk => ⟨fun hn i hi => ?_, fun m hm => ⟨Nat.zero_le _, fun j => leaf (k * 8 + j), h.mids k m hk hm, fun j hj => ⟨fun hl i hi => ?_, fun l hl => ⟨Nat.zero_le _, ?_⟩⟩⟩⟩⟩
  · have hi' : i < 64 := by simpa using hi
    have e : k * 8 ^ (1 + 1) + i = (k * 8 + i / 8) * 8 + i % 8 := by simp; omega
    rw [e]
    exact h.noleaf _ _ (by omega) (by omega) (h.nomid k _ hk (by omega) hn)
  · have hi' : i < 8 := by simpa using hi
    have e : k * 8 ^ (1 + 1) + (j * 8 ^ (0 + 1) + i) = (k * 8 + j) * 8 + i := by simp; omega
    show f (k * 8 ^ (1 + 1) + (j * 8 ^ (0 + 1) + i)) = 0
    rw [e]
    exact h.noleaf _ _ (by omega) hi' hl
  · have := h.leaves (k * 8 + j) l (by omega) hl
    have e : nodeCells none8 (fun i => f ((k * 8 + j) * 8 + i)) = nodeCells none8 (fun i => f (k * 8 ^ (1 + 1) + (j * 8 ^ (0 + 1) + i))) := nodeCells_congr (fun _ _ => rfl) fun i _ => by
      show f _ = f _
      congr 1
      simp
      omega
    rw [← e]
    exact this
end Go.Proofs.YtabebkffcmajkaaGreatDoor

/-! Walks: radix.New, isOff, leaf. -/
namespace Go.Proofs.YtabebkffcmajkaaGreatDoor
open Go.RowKit Go.Maps

set_option maxRecDepth 100000 in
set_option maxHeartbeats 400000 in
theorem rnew_any (w : World) : Calls Tryz.prog 52 #[] w fun e w' => e = .returned (.pointer (some ⟨w.heap.size + 1, 0, none⟩)) ∧ RadixAt w' (w.heap.size + 1) w.heap.size none8 none8 (fun _ => 0) 0 ∧ Mod None_ w w' := by
  go_enter Tryz.func52, Tryz.ntmps52
  go_wp2
  go_ret
  refine ⟨rfl, ⟨?_, ?_, ?_, ?_, ?_, ?_, ?_, ?_, ?_, ?_, ?_, ?_⟩, ((Mod.refl _ w).alloc _).alloc _⟩
  · have := Blk.new (w.alloc (.cells (nodeCells none8 zero8) 141)) 116 #[.pointer (some ⟨w.heap.size, 0, none⟩), .int .i64 0]
    rw [alloc_size] at this
    exact this
  · exact (Blk.new w 141 (nodeCells none8 zero8)).alloc _
  · intro _ _ _ e; cases e
  · intros; rfl
  · intro _ _ _ e; cases e
  · intros; rfl
  · intro _ _ _ _ _ e; cases e
  · intro _ _ _ _ _ e; cases e
  · intro _ _ _ _ _ e; cases e
  · right; omega
  · intro _ _ _ e; cases e
  · intro _ _ _ e; cases e
theorem isOff_any (n : Int) (w : World) : Calls Tryz.prog 73 #[.int .i64 n] w fun e w' => e = .returned (.bool (decide (0 ≤ n ∧ n < 512))) ∧ w = w' := by
  by_cases h0 : 0 ≤ n
  · by_cases h1 : n < 512
    · rw [decide_eq_true ⟨h0, h1⟩]
      go_enter Tryz.func73, Tryz.ntmps73
      go_wp2
      go_ret
      simp
    · rw [decide_eq_false (fun h => h1 h.2)]
      have hd : decide (n < 512) = false := decide_eq_false h1
      go_enter Tryz.func73, Tryz.ntmps73
      go_wp2
      go_ret
      simp
  · rw [decide_eq_false (fun h => h0 h.1)]
    have hd : decide (0 ≤ n) = false := decide_eq_false h0
    go_enter Tryz.func73, Tryz.ntmps73
    go_wp2
    go_ret
    simp

section
variable {w : World} {t r : Nat} {mid leaf : Nat → Option Nat} {f : Nat → Int} {many : Int}
theorem RadixAt.cRoot (h : RadixAt w t r mid leaf f many) : w.cell? ⟨t, 0, none⟩ = some (.pointer (some ⟨r, 0, none⟩)) := h.tree.cell 0
theorem RadixAt.cMid (h : RadixAt w t r mid leaf f many) {k : Nat} (hk : k < 8) : w.cell? ⟨r, k, none⟩ = some (ptrV (mid k)) := by rw [h.root.cell, nodeCells_ptr _ _ hk]
theorem RadixAt.cLeaf (h : RadixAt w t r mid leaf f many) {k j m : Nat} (hk : k < 8) (hj : j < 8) (hm : mid k = some m) : w.cell? ⟨m, j, none⟩ = some (ptrV (leaf (k * 8 + j))) := by rw [(h.mids k m hk hm).cell, nodeCells_ptr _ _ hj]
end

set_option maxRecDepth 100000 in
set_option maxHeartbeats 1000000 in
theorem leaf_get (w : World) (t r : Nat) (mid leaf : Nat → Option Nat) (f : Nat → Int) (many off : Int) (k j : Nat) (h : RadixAt w t r mid leaf f many) (h0 : 0 ≤ off) (h1 : off < 512) (hk : k < 8) (hj : j < 8) (e1 : off / 64 % 8 = k) (e2 : off / 8 % 8 = j) :
    Calls Tryz.prog 82 #[.pointer (some ⟨t, 0, none⟩), .int .i64 off, .bool false] w fun e w' => e = .returned (ptrV (leaf (k * 8 + j))) ∧ w = w' := by
  have c0 := h.cRoot
  have c1 := h.cMid hk
  have hki : (k : Int) < 8 := by omega
  have hji : (j : Int) < 8 := by omega
  cases hm : mid k with
  | none =>
    have hl := h.nomid k j hk hj hm
    rw [hm] at c1
    have c1' : w.cell? ⟨r, k, none⟩ = some (.pointer none) := c1
    have HL := hide hl
    clear hl hm h c1
    go_enter Tryz.func82, Tryz.ntmps82
    go_wp2_with fail
    refine wp_loop_rounds 3 ?_
    rw [rounds_succ]
    go_wp2
    go_ret
    rw [HL.out]
    exact ⟨rfl, rfl⟩
  | some m =>
    have c2 := h.cLeaf hk hj hm
    rw [hm] at c1
    have c1' : w.cell? ⟨r, k, none⟩ = some (.pointer (some ⟨m, 0, none⟩)) := c1
    clear hm h c1
    generalize leaf (k * 8 + j) = x at c2 ⊢
    cases x with
    | none =>
      have c2' : w.cell? ⟨m, j, none⟩ = some (.pointer none) := c2
      clear c2
      go_enter Tryz.func82, Tryz.ntmps82
      go_wp2_with fail
      refine wp_loop_rounds 3 ?_
      rw [rounds_succ]
      go_wp2_with fail
      rw [rounds_succ]
      go_wp2
      go_ret
      exact ⟨rfl, rfl⟩
    | some l =>
      have c2' : w.cell? ⟨m, j, none⟩ = some (.pointer (some ⟨l, 0, none⟩)) := c2
      clear c2
      go_enter Tryz.func82, Tryz.ntmps82
      go_wp2_with fail
      refine wp_loop_rounds 3 ?_
      rw [rounds_succ]
      go_wp2_with fail
      rw [rounds_succ]
      go_wp2_with fail
      rw [rounds_succ]
      go_wp2
      go_ret
      exact ⟨rfl, rfl⟩

/-- what leaf leaves where it may grow: the part of the lowest level is there -/
def LeafPost (w : World) (t r : Nat) (mid leaf : Nat → Option Nat) (f : Nat → Int) (many : Int) (q : Nat) : Ending → World → Prop := fun e w' =>
  ∃ l mid' leaf', e = .returned (.pointer (some ⟨l, 0, none⟩)) ∧ RadixAt w' t r mid' leaf' f many ∧ leaf' q = some l ∧ Mod (TreeB t r mid leaf) w w' ∧ (∀ g, TreeB t r mid' leaf' g → TreeB t r mid leaf g ∨ w.heap.size ≤ g)
/-- a new part of the lowest level -/
theorem RadixAt.addLeaf {w w' : World} {t r : Nat} {mid leaf : Nat → Option Nat} {f : Nat → Int} {many : Int} (h : RadixAt w t r mid leaf f many) {k j m : Nat} (hk : k < 8) (hj : j < 8) (hm : mid k = some m) (hl : leaf (k * 8 + j) = none)
    (hw : w' = (w.alloc (.cells (nodeCells none8 zero8) 141)).setCell ⟨m, j, none⟩ (.pointer (some ⟨w.heap.size, 0, none⟩))) :
    RadixAt w' t r mid (setAt leaf (k * 8 + j) (some w.heap.size)) f many ∧ Mod (TreeB t r mid leaf) w w' ∧ (∀ g, TreeB t r mid (setAt leaf (k * 8 + j) (some w.heap.size)) g → TreeB t r mid leaf g ∨ w.heap.size ≤ g) := by
  have hM : Mod (· = m) w w' := by rw [hw]; exact ((Mod.refl (· = m) w).alloc _).setCell (p := ⟨m, j, none⟩) (.inr rfl) _
  have hmB : TreeB t r mid leaf m := .inr (.inr (.inl ⟨k, hk, hm⟩))
  have hma := h.midAbove k m hk hm
  have hmd := h.mids k m hk hm
  have hnew : Blk w' w.heap.size 141 (nodeCells none8 zero8) := by
    rw [hw]
    exact (Blk.new w 141 (nodeCells none8 zero8)).mod ((Mod.refl (· = m) _).setCell (p := ⟨m, j, none⟩) (.inr rfl) _) (by have := hmd.lt; omega)
  have hlt : ∀ {g}, TreeB t r mid leaf g → g < w.heap.size := fun hg => h.lt hg
  have hlf : ∀ q l, q < 64 → leaf q = some l → l < w.heap.size := fun q l hq he => hlt (.inr (.inr (.inr ⟨q, hq, he⟩)))
  have hmdl : ∀ k m, k < 8 → mid k = some m → m < w.heap.size := fun k m hk he => hlt (.inr (.inr (.inl ⟨k, hk, he⟩)))
  have htl := h.tree.lt
  have hrl := h.root.lt
  have hset : ∀ q l, q ≠ k * 8 + j → setAt leaf (k * 8 + j) (some w.heap.size) q = some l → leaf q = some l := fun q l hq he => by rwa [setAt_ne _ _ hq] at he
  have hsame : ∀ l, setAt leaf (k * 8 + j) (some w.heap.size) (k * 8 + j) = some l → l = w.heap.size := fun l he => by rw [setAt_same] at he; injection he with he; exact he.symm
  refine ⟨⟨h.tree.mod hM (by intro e; exact hma.2 e.symm), h.root.mod hM (by intro e; exact hma.1 e.symm), fun k' m' hk' he => ?_, fun k' j' hk' hj' hn => ?_, fun q l hq he => ?_, fun q i hq hi hn => ?_, fun q q' l hq hq' he he' => ?_, h.midInj, fun k' q m' hk' hq he he' => ?_, h.above, h.midAbove, fun q l hq he => ?_⟩,
    hM.mono (fun g _ e => by subst e; exact hmB), fun g hg => ?_⟩
  · by_cases e : k' = k
    · subst e
      rw [hm] at he
      injection he with he
      subst he
      have h2 : Blk w' m 141 ((nodeCells (fun j => leaf (k' * 8 + j)) zero8).setIfInBounds j (.pointer (some ⟨w.heap.size, 0, none⟩))) := by
        rw [hw]; exact (hmd.alloc _).set_ j _
      rw [show (Value.pointer (some ⟨w.heap.size, 0, none⟩)) = ptrV (some w.heap.size) from rfl, nodeCells_setPtr _ _ hj] at h2
      rw [nodeCells_congr (ch' := setAt (fun j => leaf (k' * 8 + j)) j (some w.heap.size)) (vs' := zero8) (fun i hi => ?_) (fun _ _ => rfl)]
      · exact h2
      · unfold setAt
        by_cases e2 : i = j
        · subst e2; simp
        · rw [if_neg e2, if_neg (by omega)]
    · have hne : m' ≠ m := fun e2 => e (h.midInj k' k m' hk' hk he (by rw [e2]; exact hm))
      have := (h.mids k' m' hk' he).mod hM hne
      rw [nodeCells_congr (ch' := fun j => leaf (k' * 8 + j)) (vs' := zero8) (fun i hi => setAt_ne _ _ (by omega)) (fun _ _ => rfl)]
      exact this
  · by_cases e : k' = k
    · subst e; rw [hm] at hn; cases hn
    · rw [setAt_ne _ _ (by omega)]; exact h.nomid k' j' hk' hj' hn
  · by_cases e : q = k * 8 + j
    · subst e
      rw [hsame l he, nodeCells_congr (ch' := none8) (vs' := zero8) (fun _ _ => rfl) (fun i hi => h.noleaf _ i hq hi hl)]
      exact hnew
    · have he' := hset q l e he
      exact (h.leaves q l hq he').mod hM (fun e2 => h.midLeaf k q m hk hq hm (by rw [he', e2]))
  · have e : q ≠ k * 8 + j := fun e => by subst e; rw [setAt_same] at hn; cases hn
    rw [setAt_ne _ _ e] at hn
    exact h.noleaf q i hq hi hn
  · by_cases e : q = k * 8 + j
    · by_cases e' : q' = k * 8 + j
      · omega
      · subst e
        have h1 := hsame l he
        have h2 := hlf q' l hq' (hset q' l e' he')
        omega
    · by_cases e' : q' = k * 8 + j
      · subst e'
        have h1 := hsame l he'
        have h2 := hlf q l hq (hset q l e he)
        omega
      · exact h.leafInj q q' l hq hq' (hset q l e he) (hset q' l e' he')
  · by_cases e : q = k * 8 + j
    · subst e
      have h1 := hsame m' he'
      have h2 := hmdl k' m' hk' he
      omega
    · exact h.midLeaf k' q m' hk' hq he (hset q m' e he')
  · by_cases e : q = k * 8 + j
    · subst e
      have h1 := hsame l he
      omega
    · exact h.leafAbove q l hq (hset q l e he)
  · rcases hg with rfl | rfl | hg | ⟨q, hq, he⟩
    · exact .inl (.inl rfl)
    · exact .inl (.inr (.inl rfl))
    · exact .inl (.inr (.inr (.inl hg)))
    · by_cases e : q = k * 8 + j
      · subst e; right; rw [hsame g he]; exact Nat.le_refl _
      · exact .inl (.inr (.inr (.inr ⟨q, hq, hset q g e he⟩)))
/-- a new part of the middle level -/
theorem RadixAt.addMid {w w' : World} {t r : Nat} {mid leaf : Nat → Option Nat} {f : Nat → Int} {many : Int} (h : RadixAt w t r mid leaf f many) {k : Nat} (hk : k < 8) (hm : mid k = none)
    (hw : w' = (w.alloc (.cells (nodeCells none8 zero8) 141)).setCell ⟨r, k, none⟩ (.pointer (some ⟨w.heap.size, 0, none⟩))) :
    RadixAt w' t r (setAt mid k (some w.heap.size)) leaf f many ∧ Mod (TreeB t r mid leaf) w w' ∧ (∀ g, TreeB t r (setAt mid k (some w.heap.size)) leaf g → TreeB t r mid leaf g ∨ w.heap.size ≤ g) := by
  have hM : Mod (· = r) w w' := by rw [hw]; exact ((Mod.refl (· = r) w).alloc _).setCell (p := ⟨r, k, none⟩) (.inr rfl) _
  have hrB : TreeB t r mid leaf r := .inr (.inl rfl)
  have hrd := h.root
  have hnew : Blk w' w.heap.size 141 (nodeCells none8 zero8) := by
    rw [hw]
    exact (Blk.new w 141 (nodeCells none8 zero8)).mod ((Mod.refl (· = r) _).setCell (p := ⟨r, k, none⟩) (.inr rfl) _) (by have := hrd.lt; omega)
  have hlt : ∀ {g}, TreeB t r mid leaf g → g < w.heap.size := fun hg => h.lt hg
  have hlf : ∀ q l, q < 64 → leaf q = some l → l < w.heap.size := fun q l hq he => hlt (.inr (.inr (.inr ⟨q, hq, he⟩)))
  have hmdl : ∀ k m, k < 8 → mid k = some m → m < w.heap.size := fun k m hk he => hlt (.inr (.inr (.inl ⟨k, hk, he⟩)))
  have htl := h.tree.lt
  have hrl := h.root.lt
  have habv := h.above
  have hset : ∀ q l, q ≠ k → setAt mid k (some w.heap.size) q = some l → mid q = some l := fun q l hq he => by rwa [setAt_ne _ _ hq] at he
  have hsame : ∀ l, setAt mid k (some w.heap.size) k = some l → l = w.heap.size := fun l he => by rw [setAt_same] at he; injection he with he; exact he.symm
  refine ⟨⟨h.tree.mod hM (by intro e; omega), ?_, fun k' m' hk' he => ?_, fun k' j' hk' hj' hn => ?_, fun q l hq he => ?_, h.noleaf, h.leafInj, fun k1 k2 m' hk1 hk2 he he' => ?_, fun k' q m' hk' hq he he' => ?_, h.above, fun k' m' hk' he => ?_, h.leafAbove⟩,
    hM.mono (fun g _ e => by subst e; exact hrB), fun g hg => ?_⟩
  · have h2 : Blk w' r 141 ((nodeCells mid zero8).setIfInBounds k (.pointer (some ⟨w.heap.size, 0, none⟩))) := by
      rw [hw]; exact (hrd.alloc _).set_ k _
    rw [show (Value.pointer (some ⟨w.heap.size, 0, none⟩)) = ptrV (some w.heap.size) from rfl, nodeCells_setPtr _ _ hk] at h2
    exact h2
  · by_cases e : k' = k
    · subst e
      rw [hsame m' he, nodeCells_congr (ch' := none8) (vs' := zero8) (fun j hj => h.nomid k' j hk hj hm) (fun _ _ => rfl)]
      exact hnew
    · have he' := hset k' m' e he
      exact (h.mids k' m' hk' he').mod hM (h.midAbove k' m' hk' he').1
  · by_cases e : k' = k
    · subst e; rw [setAt_same] at hn; cases hn
    · rw [setAt_ne _ _ e] at hn; exact h.nomid k' j' hk' hj' hn
  · exact (h.leaves q l hq he).mod hM (h.leafAbove q l hq he).1
  · by_cases e : k1 = k
    · by_cases e' : k2 = k
      · omega
      · subst e
        have h1 := hsame m' he
        have h2 := hmdl k2 m' hk2 (hset k2 m' e' he')
        omega
    · by_cases e' : k2 = k
      · subst e'
        have h1 := hsame m' he'
        have h2 := hmdl k1 m' hk1 (hset k1 m' e he)
        omega
      · exact h.midInj k1 k2 m' hk1 hk2 (hset k1 m' e he) (hset k2 m' e' he')
  · by_cases e : k' = k
    · subst e
      have h1 := hsame m' he
      have h2 := hlf q m' hq he'
      omega
    · exact h.midLeaf k' q m' hk' hq (hset k' m' e he) he'
  · by_cases e : k' = k
    · subst e
      have h1 := hsame m' he
      omega
    · exact h.midAbove k' m' hk' (hset k' m' e he)
  · rcases hg with rfl | rfl | ⟨k', hk', he⟩ | hg
    · exact .inl (.inl rfl)
    · exact .inl (.inr (.inl rfl))
    · by_cases e : k' = k
      · subst e; right; rw [hsame g he]; exact Nat.le_refl _
      · exact .inl (.inr (.inr (.inl ⟨k', hk', hset k' g e he⟩)))
    · exact .inl (.inr (.inr (.inr hg)))
end Go.Proofs.YtabebkffcmajkaaGreatDoor

/-! Walks: leaf where it may grow; Set. (Printed by mk_R3.py.) -/
namespace Go.Proofs.YtabebkffcmajkaaGreatDoor
open Go.RowKit Go.Maps

set_option maxRecDepth 100000 in
set_option maxHeartbeats 1000000 in
theorem leaf_grow (w : World) (t r : Nat) (mid leaf : Nat → Option Nat) (f : Nat → Int) (many off : Int) (k j : Nat) (h : RadixAt w t r mid leaf f many) (h0 : 0 ≤ off) (h1 : off < 512) (hk : k < 8) (hj : j < 8) (e1 : off / 64 % 8 = k) (e2 : off / 8 % 8 = j) :
    Calls Tryz.prog 82 #[.pointer (some ⟨t, 0, none⟩), .int .i64 off, .bool true] w (LeafPost w t r mid leaf f many (k * 8 + j)) := by
  have c0 := h.cRoot
  have c1 := h.cMid hk
  have hki : (k : Int) < 8 := by omega
  have hji : (j : Int) < 8 := by omega
  cases hm : mid k with
  | none =>
    have hl := h.nomid k j hk hj hm
    rw [hm] at c1
    have c1' : w.cell? ⟨r, k, none⟩ = some (.pointer none) := c1
    have f1 : w.frozen? ⟨r, k, none⟩ = false := h.root.frozen k
    have ca1 : (w.alloc (.cells #[.pointer none, .pointer none, .pointer none, .pointer none, .pointer none, .pointer none, .pointer none, .pointer none, .int .i64 0, .int .i64 0, .int .i64 0, .int .i64 0, .int .i64 0, .int .i64 0, .int .i64 0, .int .i64 0] 141)).cell? ⟨r, k, none⟩ = some (.pointer none) := by rw [(h.root.alloc _).cell, nodeCells_ptr _ _ hk, hm]; rfl
    have fa1 : (w.alloc (.cells #[.pointer none, .pointer none, .pointer none, .pointer none, .pointer none, .pointer none, .pointer none, .pointer none, .int .i64 0, .int .i64 0, .int .i64 0, .int .i64 0, .int .i64 0, .int .i64 0, .int .i64 0, .int .i64 0] 141)).frozen? ⟨r, k, none⟩ = false := (h.root.alloc _).frozen k
    obtain ⟨w1, hw1⟩ : ∃ w1, w1 = (w.alloc (.cells #[.pointer none, .pointer none, .pointer none, .pointer none, .pointer none, .pointer none, .pointer none, .pointer none, .int .i64 0, .int .i64 0, .int .i64 0, .int .i64 0, .int .i64 0, .int .i64 0, .int .i64 0, .int .i64 0] 141)).setCell ⟨r, k, none⟩ (.pointer (some ⟨w.heap.size, 0, none⟩)) := ⟨_, rfl⟩
    obtain ⟨h2, hM1, hB1⟩ := h.addMid hk hm hw1
    have c0' : ((w.alloc (.cells #[.pointer none, .pointer none, .pointer none, .pointer none, .pointer none, .pointer none, .pointer none, .pointer none, .int .i64 0, .int .i64 0, .int .i64 0, .int .i64 0, .int .i64 0, .int .i64 0, .int .i64 0, .int .i64 0] 141)).setCell ⟨r, k, none⟩ (.pointer (some ⟨w.heap.size, 0, none⟩))).cell? ⟨t, 0, none⟩ = some (.pointer (some ⟨r, 0, none⟩)) := by rw [← hw1]; exact h2.cRoot
    have c2 := h2.cMid hk
    rw [setAt_same] at c2
    have c2' : ((w.alloc (.cells #[.pointer none, .pointer none, .pointer none, .pointer none, .pointer none, .pointer none, .pointer none, .pointer none, .int .i64 0, .int .i64 0, .int .i64 0, .int .i64 0, .int .i64 0, .int .i64 0, .int .i64 0, .int .i64 0] 141)).setCell ⟨r, k, none⟩ (.pointer (some ⟨w.heap.size, 0, none⟩))).cell? ⟨r, k, none⟩ = some (.pointer (some ⟨w.heap.size, 0, none⟩)) := by rw [← hw1]; exact c2
    have c3 := h2.cLeaf hk hj (setAt_same mid k _)
    rw [hl] at c3
    have c3' : w1.cell? ⟨w.heap.size, j, none⟩ = some (.pointer none) := c3
    have f3 : w1.frozen? ⟨w.heap.size, j, none⟩ = false := (h2.mids k _ hk (setAt_same mid k _)).frozen j
    have ca3 : (w1.alloc (.cells #[.pointer none, .pointer none, .pointer none, .pointer none, .pointer none, .pointer none, .pointer none, .pointer none, .int .i64 0, .int .i64 0, .int .i64 0, .int .i64 0, .int .i64 0, .int .i64 0, .int .i64 0, .int .i64 0] 141)).cell? ⟨w.heap.size, j, none⟩ = some (.pointer none) := by rw [((h2.mids k _ hk (setAt_same mid k _)).alloc _).cell, nodeCells_ptr _ _ hj, hl]; rfl
    have fa3 : (w1.alloc (.cells #[.pointer none, .pointer none, .pointer none, .pointer none, .pointer none, .pointer none, .pointer none, .pointer none, .int .i64 0, .int .i64 0, .int .i64 0, .int .i64 0, .int .i64 0, .int .i64 0, .int .i64 0, .int .i64 0] 141)).frozen? ⟨w.heap.size, j, none⟩ = false := ((h2.mids k _ hk (setAt_same mid k _)).alloc _).frozen j
    have hs1 : w1.heap.size = w.heap.size + 1 := by rw [hw1]; simp [World.setCell]
    obtain ⟨w2, hw2⟩ : ∃ w2, w2 = (w1.alloc (.cells #[.pointer none, .pointer none, .pointer none, .pointer none, .pointer none, .pointer none, .pointer none, .pointer none, .int .i64 0, .int .i64 0, .int .i64 0, .int .i64 0, .int .i64 0, .int .i64 0, .int .i64 0, .int .i64 0] 141)).setCell ⟨w.heap.size, j, none⟩ (.pointer (some ⟨w1.heap.size, 0, none⟩)) := ⟨_, rfl⟩
    obtain ⟨h3, hM2, hB2⟩ := h2.addLeaf hk hj (setAt_same mid k _) hl hw2
    have hfin : LeafPost w t r mid leaf f many (k * 8 + j) (.returned (.pointer (some ⟨w1.heap.size, 0, none⟩))) w2 := by
      refine ⟨_, _, _, rfl, h3, setAt_same _ _ _, hM1.trans' hM2 (fun g hg e => ?_), fun g hg => ?_⟩
      · rcases hB1 g e with e | e
        · exact e
        · omega
      · rcases hB2 g hg with e | e
        · exact hB1 g e
        · right; omega
    have HF := hide hfin
    have HW1 := hide hw1
    have HW2 := hide hw2
    have HS := hide hs1
    clear hm h h2 h3 hM1 hM2 hB1 hB2 hfin hw1 hw2 hl c1 c2 c3 hs1
    go_enter Tryz.func82, Tryz.ntmps82
    go_wp2_with fail
    refine wp_loop_rounds 3 ?_
    rw [rounds_succ]
    go_wp2_with fail
    rw [rounds_succ]
    rw [← HW1.out]
    clear c0' c2'
    go_wp2_with fail
    rw [rounds_succ]
    go_wp2
    go_ret
    rw [← HW2.out]
    exact HF.out
  | some m =>
    have c2 := h.cLeaf hk hj hm
    rw [hm] at c1
    have c1' : w.cell? ⟨r, k, none⟩ = some (.pointer (some ⟨m, 0, none⟩)) := c1
    cases hl : leaf (k * 8 + j) with
    | none =>
      rw [hl] at c2
      have c2' : w.cell? ⟨m, j, none⟩ = some (.pointer none) := c2
      have f2 : w.frozen? ⟨m, j, none⟩ = false := (h.mids k m hk hm).frozen j
      have ca2 : (w.alloc (.cells #[.pointer none, .pointer none, .pointer none, .pointer none, .pointer none, .pointer none, .pointer none, .pointer none, .int .i64 0, .int .i64 0, .int .i64 0, .int .i64 0, .int .i64 0, .int .i64 0, .int .i64 0, .int .i64 0] 141)).cell? ⟨m, j, none⟩ = some (.pointer none) := by rw [((h.mids k m hk hm).alloc _).cell, nodeCells_ptr _ _ hj, hl]; rfl
      have fa2 : (w.alloc (.cells #[.pointer none, .pointer none, .pointer none, .pointer none, .pointer none, .pointer none, .pointer none, .pointer none, .int .i64 0, .int .i64 0, .int .i64 0, .int .i64 0, .int .i64 0, .int .i64 0, .int .i64 0, .int .i64 0] 141)).frozen? ⟨m, j, none⟩ = false := ((h.mids k m hk hm).alloc _).frozen j
      obtain ⟨w2, hw2⟩ : ∃ w2, w2 = (w.alloc (.cells #[.pointer none, .pointer none, .pointer none, .pointer none, .pointer none, .pointer none, .pointer none, .pointer none, .int .i64 0, .int .i64 0, .int .i64 0, .int .i64 0, .int .i64 0, .int .i64 0, .int .i64 0, .int .i64 0] 141)).setCell ⟨m, j, none⟩ (.pointer (some ⟨w.heap.size, 0, none⟩)) := ⟨_, rfl⟩
      obtain ⟨h3, hM2, hB2⟩ := h.addLeaf hk hj hm hl hw2
      have hfin : LeafPost w t r mid leaf f many (k * 8 + j) (.returned (.pointer (some ⟨w.heap.size, 0, none⟩))) w2 := ⟨_, _, _, rfl, h3, setAt_same _ _ _, hM2, hB2⟩
      have HF := hide hfin
      have HW2 := hide hw2
      clear hm h h3 hM2 hB2 hfin hw2 hl c1 c2
      go_enter Tryz.func82, Tryz.ntmps82
      go_wp2_with fail
      refine wp_loop_rounds 3 ?_
      rw [rounds_succ]
      go_wp2_with fail
      rw [rounds_succ]
      go_wp2_with fail
      rw [rounds_succ]
      go_wp2
      go_ret
      rw [← HW2.out]
      exact HF.out
    | some l =>
      rw [hl] at c2
      have c2' : w.cell? ⟨m, j, none⟩ = some (.pointer (some ⟨l, 0, none⟩)) := c2
      have hfin : LeafPost w t r mid leaf f many (k * 8 + j) (.returned (.pointer (some ⟨l, 0, none⟩))) w := ⟨_, _, _, rfl, h, hl, Mod.refl _ _, fun _ h => .inl h⟩
      have HF := hide hfin
      clear hm h hfin hl c1 c2
      go_enter Tryz.func82, Tryz.ntmps82
      go_wp2_with fail
      refine wp_loop_rounds 3 ?_
      rw [rounds_succ]
      go_wp2_with fail
      rw [rounds_succ]
      go_wp2_with fail
      rw [rounds_succ]
      go_wp2
      go_ret
      exact HF.out
end Go.Proofs.YtabebkffcmajkaaGreatDoor

/-! Walk: Set. (Printed by mk_R4.py.) -/
namespace Go.Proofs.YtabebkffcmajkaaGreatDoor
open Go.RowKit Go.Maps

theorem RadixAt.congrF {w : World} {t r : Nat} {mid leaf : Nat → Option Nat} {f g : Nat → Int} {many : Int} (h : RadixAt w t r mid leaf f many) (he : ∀ i, i < 512 → f i = g i) : RadixAt w t r mid leaf g many :=
  ⟨h.tree, h.root, h.mids, h.nomid, fun q l hq hl => by
    rw [nodeCells_congr (ch' := none8) (vs' := fun i => f (q * 8 + i)) (fun _ _ => rfl) (fun i hi => (he _ (by omega)).symm)]; exact h.leaves q l hq hl,
    fun q i hq hi hl => by rw [← he _ (by omega)]; exact h.noleaf q i hq hi hl, h.leafInj, h.midInj, h.midLeaf, h.above, h.midAbove, h.leafAbove⟩
theorem RadixAt.setVal {w w' : World} {t r : Nat} {mid leaf : Nat → Option Nat} {f : Nat → Int} {many : Int} (h : RadixAt w t r mid leaf f many) {q i l : Nat} (hq : q < 64) (hi : i < 8) (hl : leaf q = some l) (v : Int)
    (hw : w' = w.setCell ⟨l, 8 + i, none⟩ (.int .i64 v)) : RadixAt w' t r mid leaf (setAt f (q * 8 + i) v) many ∧ Mod (· = l) w w' := by
  have hM : Mod (· = l) w w' := by rw [hw]; exact (Mod.refl (· = l) w).setCell (p := ⟨l, 8 + i, none⟩) (.inr rfl) _
  have hla := h.leafAbove q l hq hl
  refine ⟨⟨h.tree.mod hM (fun e => hla.2 e.symm), h.root.mod hM (fun e => hla.1 e.symm), fun k m hk he => (h.mids k m hk he).mod hM (fun e => h.midLeaf k q m hk hq he (by rw [e]; exact hl)), h.nomid, fun q' l' hq' he => ?_, fun q' i' hq' hi' he => ?_,
    h.leafInj, h.midInj, h.midLeaf, h.above, h.midAbove, h.leafAbove⟩, hM⟩
  · by_cases e : q' = q
    · subst e
      rw [hl] at he
      injection he with he
      subst he
      have h2 : Blk w' l 141 ((nodeCells none8 (fun i => f (q' * 8 + i))).setIfInBounds (8 + i) (.int .i64 v)) := by rw [hw]; exact (h.leaves q' l hq hl).set_ _ _
      rw [nodeCells_setVal _ _ hi] at h2
      rw [nodeCells_congr (ch' := none8) (vs' := setAt (fun i => f (q' * 8 + i)) i v) (fun _ _ => rfl) (fun j hj => ?_)]
      · exact h2
      · unfold setAt
        by_cases e2 : j = i
        · subst e2; simp
        · rw [if_neg e2, if_neg (by omega)]
    · have hne : l' ≠ l := fun e2 => e (h.leafInj q' q l' hq' hq he (by rw [e2]; exact hl))
      rw [nodeCells_congr (ch' := none8) (vs' := fun i => f (q' * 8 + i)) (fun _ _ => rfl) (fun j hj => setAt_ne _ _ (by omega))]
      exact (h.leaves q' l' hq' he).mod hM hne
  · have e : q' ≠ q := fun e => by subst e; rw [hl] at he; cases he
    rw [setAt_ne _ _ (by omega)]
    exact h.noleaf q' i' hq' hi' he
theorem RadixAt.setMany {w w' : World} {t r : Nat} {mid leaf : Nat → Option Nat} {f : Nat → Int} {many : Int} (h : RadixAt w t r mid leaf f many) (m : Int) (hw : w' = w.setCell ⟨t, 1, none⟩ (.int .i64 m)) :
    RadixAt w' t r mid leaf f m ∧ Mod (· = t) w w' := by
  have hM : Mod (· = t) w w' := by rw [hw]; exact (Mod.refl (· = t) w).setCell (p := ⟨t, 1, none⟩) (.inr rfl) _
  have habv := h.above
  refine ⟨⟨?_, h.root.mod hM (by intro e; omega), fun k m hk he => (h.mids k m hk he).mod hM (h.midAbove k m hk he).2, h.nomid, fun q l hq he => (h.leaves q l hq he).mod hM (h.leafAbove q l hq he).2, h.noleaf, h.leafInj, h.midInj, h.midLeaf, h.above, h.midAbove, h.leafAbove⟩, hM⟩
  rw [hw]
  simpa using h.tree.set_ 1 (.int .i64 m)

/-- what Set leaves -/
def SetPost (w : World) (t r : Nat) (mid leaf : Nat → Option Nat) (f : Nat → Int) (o : Nat) (v : Int) : Ending → World → Prop := fun e w' =>
  ∃ mid' leaf' many', e = .returned (.tuple #[.int .i64 (f o), .int .i64 0]) ∧ RadixAt w' t r mid' leaf' (setAt f o v) many' ∧ Mod (TreeB t r mid leaf) w w' ∧ (∀ g, TreeB t r mid' leaf' g → TreeB t r mid leaf g ∨ (v ≠ 0 ∧ w.heap.size ≤ g))

set_option maxRecDepth 100000 in
set_option maxHeartbeats 1000000 in
theorem set_out (w : World) (t : Nat) (off v : Int) (h : ¬ (0 ≤ off ∧ off < 512)) :
    Calls Tryz.prog 74 #[.pointer (some ⟨t, 0, none⟩), .int .i64 off, .int .i64 v] w fun e w' => e = .returned (.tuple #[.int .i64 0, .int .i64 70]) ∧ w = w' := by
  have ho := isOff_any off w
  rw [decide_eq_false h] at ho
  have HO := hide ho
  clear ho h
  go_enter Tryz.func74, Tryz.ntmps74
  go_wp2_with fail
  refine Calls.mono HO.out ?_
  rintro e w1 ⟨rfl, rfl⟩
  go_wp2
  go_ret2
  exact ⟨rfl, rfl⟩

set_option maxRecDepth 100000 in
set_option maxHeartbeats 2000000 in
theorem set_any (w : World) (t r : Nat) (mid leaf : Nat → Option Nat) (f : Nat → Int) (many v : Int) (q i : Nat) (h : RadixAt w t r mid leaf f many) (hq : q < 64) (hi : i < 8) :
    Calls Tryz.prog 74 #[.pointer (some ⟨t, 0, none⟩), .int .i64 ((q * 8 + i : Nat) : Int), .int .i64 v] w (SetPost w t r mid leaf f (q * 8 + i) v) := by
  obtain ⟨o, ho⟩ : ∃ o : Int, o = ((q * 8 + i : Nat) : Int) := ⟨_, rfl⟩
  rw [← ho]
  have e1 : o / 64 % 8 = ((q / 8 : Nat) : Int) := by omega
  have e2 : o / 8 % 8 = ((q % 8 : Nat) : Int) := by omega
  have e3 : o % 8 = (i : Int) := by omega
  have hii : (i : Int) < 8 := by omega
  have ho0 : 0 ≤ o := by omega
  have ho1 : o < 512 := by omega
  have eq : q / 8 * 8 + q % 8 = q := by omega
  have hof := isOff_any o w
  rw [decide_eq_true ⟨ho0, ho1⟩] at hof
  have HO := hide hof
  have E1 := hide e1
  have E2 := hide e2
  have EQ := hide eq
  clear hof ho e1 e2 eq
  by_cases hv : v = 0
  · have hvb : (v != 0) = false := by rw [hv]; rfl
    cases hl : leaf q with
    | none =>
      have hz : f (q * 8 + i) = 0 := h.noleaf q i hq hi hl
      have hfin : SetPost w t r mid leaf f (q * 8 + i) v (.returned (.tuple #[.int .i64 0, .int .i64 0])) w := by
        refine ⟨mid, leaf, many, by rw [hz], h.congrF (fun j _ => ?_), Mod.refl _ _, fun _ hg => .inl hg⟩
        unfold setAt
        by_cases e : j = q * 8 + i
        · rw [if_pos e, hv, e, hz]
        · rw [if_neg e]
      have HF := hide hfin
      have HC := hide (leaf_get w t r mid leaf f many o (q / 8) (q % 8) h ho0 ho1 (by omega) (by omega) E1.out E2.out)
      rw [EQ.out, hl] at HC
      clear hfin hz hl h hv
      go_enter Tryz.func74, Tryz.ntmps74
      go_wp2_with fail
      refine Calls.mono HO.out ?_
      rintro e w1 ⟨rfl, rfl⟩
      go_wp2_with fail
      refine Calls.mono HC.out ?_
      rintro e w1 ⟨rfl, rfl⟩
      unfold ptrV
      go_wp2
      go_ret2
      exact HF.out
    | some l =>
      have HC := hide (leaf_get w t r mid leaf f many o (q / 8) (q % 8) h ho0 ho1 (by omega) (by omega) E1.out E2.out)
      rw [EQ.out, hl] at HC
      clear hv
      go_enter Tryz.func74, Tryz.ntmps74
      have hR := hide h
      have HL := hide hl
      clear h hl
      go_wp2_with fail
      refine Calls.mono HO.out ?_
      rintro e w1 ⟨rfl, rfl⟩
      go_wp2_with fail
      refine Calls.mono HC.out ?_
      rintro e w1 ⟨rfl, rfl⟩
      unfold ptrV
      have h := hR.out
      have hl := HL.out
      have hM := Mod.refl (TreeB t r mid leaf) w
      have hB : ∀ g, TreeB t r mid leaf g → TreeB t r mid leaf g ∨ (v ≠ 0 ∧ w.heap.size ≤ g) := fun _ hg => .inl hg
      have hb : ∀ g, g < w.heap.size → TreeB t r mid leaf g → TreeB t r mid leaf g := fun _ _ hg => hg
      replace hR := hR.out
      clear HC HL HO E1 E2 EQ

      have hlf := hR.leaves q l hq hl
      have c1 : w.cell? ⟨l, 8 + i, none⟩ = some (.int .i64 (f (q * 8 + i))) := by rw [hlf.cell, nodeCells_val _ _ hi]
      have f1 : w.frozen? ⟨l, 8 + i, none⟩ = false := hlf.frozen _
      obtain ⟨w2, hw2⟩ : ∃ w2, w2 = w.setCell ⟨l, 8 + i, none⟩ (.int .i64 v) := ⟨_, rfl⟩
      obtain ⟨h2, hM2⟩ := hR.setVal hq hi hl v hw2
      have c2 : (w.setCell ⟨l, 8 + i, none⟩ (.int .i64 v)).cell? ⟨t, 1, none⟩ = some (.int .i64 many) := by rw [← hw2]; exact h2.tree.cell 1
      have f2 : (w.setCell ⟨l, 8 + i, none⟩ (.int .i64 v)).frozen? ⟨t, 1, none⟩ = false := by rw [← hw2]; exact h2.tree.frozen 1
      have hF : ∀ (w3 : World) (m m2 : Int), w3 = w2 ∨ w3 = w2.setCell ⟨t, 1, none⟩ (.int .i64 m) ∨ w3 = (w2.setCell ⟨t, 1, none⟩ (.int .i64 m)).setCell ⟨t, 1, none⟩ (.int .i64 m2) → SetPost w t r mid leaf f (q * 8 + i) v (.returned (.tuple #[.int .i64 (f (q * 8 + i)), .int .i64 0])) w3 := by
        rintro w3 m m2 (rfl | hw3 | hw3)
        · exact ⟨_, _, _, rfl, h2, hM.trans' hM2 (fun g hg e => hb _ hg (.inr (.inr (.inr ⟨q, hq, by rw [e]; exact hl⟩)))), hB⟩
        · obtain ⟨h3, hM3⟩ := h2.setMany m hw3
          refine ⟨_, _, _, rfl, h3, (hM.trans' hM2 (fun g hg e => hb _ hg (.inr (.inr (.inr ⟨q, hq, by rw [e]; exact hl⟩))))).trans' hM3 (fun g hg e => .inl e), hB⟩
        · obtain ⟨h3, hM3⟩ := h2.setMany m rfl
          obtain ⟨h4, hM4⟩ := h3.setMany m2 hw3
          refine ⟨_, _, _, rfl, h4, ((hM.trans' hM2 (fun g hg e => hb _ hg (.inr (.inr (.inr ⟨q, hq, by rw [e]; exact hl⟩))))).trans' hM3 (fun g hg e => .inl e)).trans' hM4 (fun g hg e => .inl e), hB⟩
      have HF := hide hF
      have HW2 := hide hw2
      clear hF hw2 h2 hM2 hR hM hB hb hl hlf h
      by_cases hwas : f (q * 8 + i) = 0
      · have hz : (f (q * 8 + i) != 0) = false := by rw [hwas]; rfl
        have hz' : (f (q * 8 + i) == 0) = true := by rw [hwas]; rfl
        clear hwas
        generalize f (q * 8 + i) = was at c1 hz hz' HF ⊢
        go_wp2
        go_ret2
        rw [← HW2.out]
        exact HF.out _ 0 0 (.inl rfl)
      · have hz : (f (q * 8 + i) != 0) = true := by rw [bne_iff_ne]; exact hwas
        have hz' : (f (q * 8 + i) == 0) = false := by rw [beq_eq_false_iff_ne]; exact hwas
        clear hwas
        generalize f (q * 8 + i) = was at c1 hz hz' HF ⊢
        go_wp2
        go_ret2
        rw [← HW2.out]
        exact HF.out _ _ 0 (.inr (.inl rfl))

  · have hvb : (v != 0) = true := by rw [bne_iff_ne]; exact hv
    have HV := hide hv
    have HC := hide (leaf_grow w t r mid leaf f many o (q / 8) (q % 8) h ho0 ho1 (by omega) (by omega) E1.out E2.out)
    rw [EQ.out] at HC
    go_enter Tryz.func74, Tryz.ntmps74
    clear hv h
    go_wp2_with fail
    refine Calls.mono HO.out ?_
    rintro e w1 ⟨rfl, rfl⟩
    go_wp2_with fail
    refine Calls.mono HC.out ?_
    rintro e w1 ⟨l, mid1, leaf1, rfl, hR, hl, hM, hB⟩
    have h := hR
    have hb : ∀ g, g < w.heap.size → TreeB t r mid1 leaf1 g → TreeB t r mid leaf g := fun g hg e => by
      rcases hB g e with e | e
      · exact e
      · omega
    have hB := fun g hg => (hB g hg).imp id (fun e => (⟨HV.out, e⟩ : v ≠ 0 ∧ w.heap.size ≤ g))
    clear HC HO E1 E2 EQ

    have hlf := hR.leaves q l hq hl
    have c1 : w1.cell? ⟨l, 8 + i, none⟩ = some (.int .i64 (f (q * 8 + i))) := by rw [hlf.cell, nodeCells_val _ _ hi]
    have f1 : w1.frozen? ⟨l, 8 + i, none⟩ = false := hlf.frozen _
    obtain ⟨w2, hw2⟩ : ∃ w2, w2 = w1.setCell ⟨l, 8 + i, none⟩ (.int .i64 v) := ⟨_, rfl⟩
    obtain ⟨h2, hM2⟩ := hR.setVal hq hi hl v hw2
    have c2 : (w1.setCell ⟨l, 8 + i, none⟩ (.int .i64 v)).cell? ⟨t, 1, none⟩ = some (.int .i64 many) := by rw [← hw2]; exact h2.tree.cell 1
    have f2 : (w1.setCell ⟨l, 8 + i, none⟩ (.int .i64 v)).frozen? ⟨t, 1, none⟩ = false := by rw [← hw2]; exact h2.tree.frozen 1
    have hF : ∀ (w3 : World) (m m2 : Int), w3 = w2 ∨ w3 = w2.setCell ⟨t, 1, none⟩ (.int .i64 m) ∨ w3 = (w2.setCell ⟨t, 1, none⟩ (.int .i64 m)).setCell ⟨t, 1, none⟩ (.int .i64 m2) → SetPost w t r mid leaf f (q * 8 + i) v (.returned (.tuple #[.int .i64 (f (q * 8 + i)), .int .i64 0])) w3 := by
      rintro w3 m m2 (rfl | hw3 | hw3)
      · exact ⟨_, _, _, rfl, h2, hM.trans' hM2 (fun g hg e => hb _ hg (.inr (.inr (.inr ⟨q, hq, by rw [e]; exact hl⟩)))), hB⟩
      · obtain ⟨h3, hM3⟩ := h2.setMany m hw3
        refine ⟨_, _, _, rfl, h3, (hM.trans' hM2 (fun g hg e => hb _ hg (.inr (.inr (.inr ⟨q, hq, by rw [e]; exact hl⟩))))).trans' hM3 (fun g hg e => .inl e), hB⟩
      · obtain ⟨h3, hM3⟩ := h2.setMany m rfl
        obtain ⟨h4, hM4⟩ := h3.setMany m2 hw3
        refine ⟨_, _, _, rfl, h4, ((hM.trans' hM2 (fun g hg e => hb _ hg (.inr (.inr (.inr ⟨q, hq, by rw [e]; exact hl⟩))))).trans' hM3 (fun g hg e => .inl e)).trans' hM4 (fun g hg e => .inl e), hB⟩
    have HF := hide hF
    have HW2 := hide hw2
    clear hF hw2 h2 hM2 hR hM hB hb hl hlf h
    by_cases hwas : f (q * 8 + i) = 0
    · have hz : (f (q * 8 + i) != 0) = false := by rw [hwas]; rfl
      have hz' : (f (q * 8 + i) == 0) = true := by rw [hwas]; rfl
      clear hwas
      generalize f (q * 8 + i) = was at c1 hz hz' HF ⊢
      go_wp2
      go_ret2
      rw [← HW2.out]
      exact HF.out _ _ 0 (.inr (.inl rfl))
    · have hz : (f (q * 8 + i) != 0) = true := by rw [bne_iff_ne]; exact hwas
      have hz' : (f (q * 8 + i) == 0) = false := by rw [beq_eq_false_iff_ne]; exact hwas
      clear hwas
      generalize f (q * 8 + i) = was at c1 hz hz' HF ⊢
      go_wp2
      go_ret2
      rw [← HW2.out]
      exact HF.out _ _ _ (.inr (.inr rfl))

end Go.Proofs.YtabebkffcmajkaaGreatDoor

/-! Walk: copied. -/
namespace Go.Proofs.YtabebkffcmajkaaGreatDoor
open Go.RowKit Go.Maps
attribute [local go_sem] quietV loudUpon Oper.semAt_some

def ptrCells (ch : Nat → Option Nat) : List Value := [ptrV (ch 0), ptrV (ch 1), ptrV (ch 2), ptrV (ch 3), ptrV (ch 4), ptrV (ch 5), ptrV (ch 6), ptrV (ch 7)]
def valCells (vs : Nat → Int) : List Value := [.int .i64 (vs 0), .int .i64 (vs 1), .int .i64 (vs 2), .int .i64 (vs 3), .int .i64 (vs 4), .int .i64 (vs 5), .int .i64 (vs 6), .int .i64 (vs 7)]
theorem range_ptr {w : World} {p : Nat} {ch : Nat → Option Nat} {vs : Nat → Int} (h : Blk w p 141 (nodeCells ch vs)) : w.rangeAt p 0 (ptrCells ch) := fun j v hj => by
  have hl : j < 8 := (List.getElem?_eq_some_iff.1 hj).1
  rw [Nat.zero_add, h.cell, nodeCells_ptr _ _ hl, ← hj]
  match j, hl with
  | 0, _ => rfl
  | 1, _ => rfl
  | 2, _ => rfl
  | 3, _ => rfl
  | 4, _ => rfl
  | 5, _ => rfl
  | 6, _ => rfl
  | 7, _ => rfl
theorem range_val {w : World} {p : Nat} {ch : Nat → Option Nat} {vs : Nat → Int} (h : Blk w p 141 (nodeCells ch vs)) : w.rangeAt p 8 (valCells vs) := fun j v hj => by
  have hl : j < 8 := (List.getElem?_eq_some_iff.1 hj).1
  rw [h.cell, nodeCells_val _ _ hl, ← hj]
  match j, hl with
  | 0, _ => rfl
  | 1, _ => rfl
  | 2, _ => rfl
  | 3, _ => rfl
  | 4, _ => rfl
  | 5, _ => rfl
  | 6, _ => rfl
  | 7, _ => rfl
theorem run_vals {w : World} {p : Nat} {ch : Nat → Option Nat} {vs : Nat → Int} (h : Blk w p 141 (nodeCells ch vs)) : (Instr.loadAt 139 (.pointer (some ⟨p, 8, none⟩))).run Tryz.prog w = .ok (.agg (valCells vs).toArray) w :=
  run_loadAt_mid w p 8 139 (valCells vs) _ (range_val h) Tryz.underlying139 rfl (by kernel_rfl)
theorem run_ptrs {w : World} {p : Nat} {ch : Nat → Option Nat} {vs : Nat → Int} (h : Blk w p 141 (nodeCells ch vs)) : (Instr.loadAt 138 (.pointer (some ⟨p, 0, none⟩))).run Tryz.prog w = .ok (.agg (ptrCells ch).toArray) w :=
  run_loadAt_mid w p 0 138 (ptrCells ch) _ (range_ptr h) Tryz.underlying138 rfl (by kernel_rfl)
theorem run_buildV (vs : Nat → Int) (w : World) : (Instr.build 141 #[(1, .agg (valCells vs).toArray)]).run Tryz.prog w = .ok (.agg (nodeCells none8 vs)) w := by
  unfold valCells
  kernel_rfl
theorem run_ixP (ch : Nat → Option Nat) {k : Nat} (hk : k < 8) (w : World) : (Instr.index 138 (.agg (ptrCells ch).toArray) (.int .i64 k)).run Tryz.prog w = .ok (ptrV (ch k)) w := by
  unfold ptrCells
  rcases (show k = 0 ∨ k = 1 ∨ k = 2 ∨ k = 3 ∨ k = 4 ∨ k = 5 ∨ k = 6 ∨ k = 7 by omega) with rfl | rfl | rfl | rfl | rfl | rfl | rfl | rfl
  all_goals kernel_rfl
theorem ex_index {P : Program} {o : Oper} {a : Act} {w w' : World} {v : Value} {t : TypeId} {x y : Operand} (h : o.op = .index t x y) (hr : (Instr.index t (a.eval x) (a.eval y)).run P w = .ok v w') : (execOp a.eval o).run P w = .ok (.value v) w' := by
  unfold execOp; simp only [h]; simp [hr]
/-- the loop of copied, at child k -/
def CopyRelR (w : World) (n : Nat) (ch : Nat → Option Nat) (vs : Nat → Int) (fk : Nat → Nat → Int) (k : Nat) (wr : World) : Prop :=
  ∃ ch', Blk wr w.heap.size 141 (nodeCells ch' vs) ∧ (∀ j, j < k → (ch j = none → ch' j = none) ∧ (ch' j = none → ch j = none) ∧ ∀ q', ch' j = some q' → NodeR wr (w.heap.size + 1) n q' (fk j)) ∧ (∀ j, k ≤ j → ch' j = none) ∧ Mod None_ w wr
theorem CopyRelR.skip {w wr : World} {n k : Nat} {ch : Nat → Option Nat} {vs : Nat → Int} {fk : Nat → Nat → Int} (h : CopyRelR w n ch vs fk k wr) (hk : ch k = none) : CopyRelR w n ch vs fk (k + 1) wr := by
  obtain ⟨ch', h1, h2, h3, h4⟩ := h
  refine ⟨ch', h1, fun j hj => ?_, fun j hj => h3 j (by omega), h4⟩
  by_cases e : j = k
  · subst e
    exact ⟨fun _ => h3 j (Nat.le_refl _), fun _ => hk, fun q' hq => by rw [h3 j (Nat.le_refl _)] at hq; cases hq⟩
  · exact h2 j (by omega)
theorem CopyRelR.step {w wr w2 w3 : World} {n k q' : Nat} {ch : Nat → Option Nat} {vs : Nat → Int} {fk : Nat → Nat → Int} (h : CopyRelR w n ch vs fk k wr) (hk8 : k < 8) (hk : ch k ≠ none) (hm : Mod None_ wr w2) (hq : NodeR w2 wr.heap.size n q' (fk k))
    (hw : w3 = w2.setCell ⟨w.heap.size, k, none⟩ (.pointer (some ⟨q', 0, none⟩))) : CopyRelR w n ch vs fk (k + 1) w3 := by
  obtain ⟨ch', h1, h2, h3, h4⟩ := h
  have hM : Mod (· = w.heap.size) w2 w3 := by rw [hw]; exact (Mod.refl (· = w.heap.size) w2).setCell (p := ⟨w.heap.size, k, none⟩) (.inr rfl) _
  have hlt := h1.lt
  refine ⟨setAt ch' k (some q'), ?_, fun j hj => ?_, fun j hj => by rw [setAt_ne _ _ (by omega)]; exact h3 j (by omega), (h4.trans hm).trans' hM (fun g hg e => by omega)⟩
  · have h5 : Blk w3 w.heap.size 141 ((nodeCells ch' vs).setIfInBounds k (.pointer (some ⟨q', 0, none⟩))) := by rw [hw]; exact (h1.mod hm id).set_ k _
    rw [show (Value.pointer (some ⟨q', 0, none⟩)) = ptrV (some q') from rfl, nodeCells_setPtr _ _ hk8] at h5
    exact h5
  · by_cases e : j = k
    · subst e
      rw [setAt_same]
      refine ⟨fun h => absurd h hk, fun h => (by cases h), fun q hq' => ?_⟩
      injection hq' with hq'
      subst hq'
      exact (hq.lo hlt).mod hM (fun g hg e => by omega)
    · rw [setAt_ne _ _ e]
      obtain ⟨a1, a2, a3⟩ := h2 j (by omega)
      exact ⟨a1, a2, fun q hq' => ((a3 q hq').mod hm (fun _ _ f => f)).mod hM (fun g hg e => by omega)⟩

set_option maxRecDepth 100000 in
set_option maxHeartbeats 1000000 in
theorem copied_node (w : World) (p n : Nat) (ch : Nat → Option Nat) (vs : Nat → Int) (hB : Blk w p 141 (nodeCells ch vs)) (fk : Nat → Nat → Int)
    (HC : ∀ k q, k < 8 → ch k = some q → ∀ W, Mod None_ w W → Calls Tryz.prog 55 #[.pointer (some ⟨q, 0, none⟩)] W fun e W' => ∃ q', e = .returned (.pointer (some ⟨q', 0, none⟩)) ∧ NodeR W' W.heap.size n q' (fk k) ∧ Mod None_ W W') :
    Calls Tryz.prog 55 #[.pointer (some ⟨p, 0, none⟩)] w fun e w' => ∃ ch', e = .returned (.pointer (some ⟨w.heap.size, 0, none⟩)) ∧ Blk w' w.heap.size 141 (nodeCells ch' vs) ∧
      (∀ k, k < 8 → (ch k = none → ch' k = none) ∧ (ch' k = none → ch k = none) ∧ ∀ q', ch' k = some q' → NodeR w' w.heap.size n q' (fk k)) ∧ Mod None_ w w' := by
  have hv := run_vals hB
  have HCH := hide HC
  clear HC
  go_enter Tryz.func55, Tryz.ntmps55
  have hbv := run_buildV vs
  have hp1 := run_ptrs (hB.alloc (.cells (nodeCells none8 vs) 141))
  have hB1 := hB.alloc (.cells (nodeCells none8 vs) 141)
  have hN1 := Blk.new w 141 (nodeCells none8 vs)
  go_wp2_with (first
    | ((with_reducible refine at_slot 9 ?_); refine wpList_val rfl (ex_load rfl hv) ?_; go_frame)
    | ((with_reducible refine at_slot 10 ?_); refine wpList_val rfl (ex_build (ps := [(1, .tmp 9)]) rfl (hbv _)) ?_; go_frame)
    | ((with_reducible refine at_slot 11 ?_); refine wpList_val (w' := w.alloc (.cells (nodeCells none8 vs) 141)) rfl (ex_box rfl rfl) ?_; go_frame)
    | ((with_reducible refine at_slot 15 ?_); refine wpList_val rfl (ex_load rfl hp1) ?_; go_frame))
  have h0 : CopyRelR w n ch vs fk 0 (w.alloc (.cells (nodeCells none8 vs) 141)) := ⟨none8, hN1, fun j hj => by omega, fun _ _ => rfl, (Mod.refl _ w).alloc _⟩
  clear hv hp1 hB1 hN1 hbv
  go_loopw [16] (fun i wr => ∃ k : Nat, k ≤ 8 ∧ i = .int .i64 k ∧ CopyRelR w n ch vs fk k wr) (fun i _ => 8 - (intOf i).toNat)
  case atStart => exact ⟨0, by omega, rfl, h0⟩
  case round =>
    obtain ⟨k, hk8, rfl, hR⟩ := hrel
    by_cases hk : k < 8
    · have hix := run_ixP ch hk
      have hki : (k : Int) < 8 := by omega
      cases hck : ch k with
      | none =>
        rw [hck] at hix
        have hix' : ∀ w, (Instr.index 138 (.agg (ptrCells ch).toArray) (.int .i64 k)).run Tryz.prog w = .ok (.pointer none) w := hix
        have HR := hide (hR.skip hck)
        clear hix hck hR h0
        go_wp2_with ((with_reducible refine at_slot 19 ?_); refine wpList_val rfl (ex_index rfl (hix' _)) ?_; go_frame)
        go_roundw
        case rel => exact ⟨k + 1, by omega, by go_num, HR.out⟩
        case measure => simp [intOf]; omega
      | some q =>
        rw [hck] at hix
        have hix' : ∀ w, (Instr.index 138 (.agg (ptrCells ch).toArray) (.int .i64 k)).run Tryz.prog w = .ok (.pointer (some ⟨q, 0, none⟩)) w := hix
        obtain ⟨ch', hm, _, _, hM⟩ := id hR
        have hM2 : Mod None_ w wr.drew := hM.drew
        have HQ := hide (HCH.out k q hk hck wr.drew hM2)
        have HR := hide hR
        have HM := hide hm
        have HCK := hide hck
        have hwd : ∃ wd, wd = wr.drew := ⟨_, rfl⟩
        clear hix hck hR h0 hm hM hM2
        go_wp2_with ((with_reducible refine at_slot 19 ?_); refine wpList_val rfl (ex_index rfl (hix' _)) ?_; go_frame)
        refine region_mxw [(true, 0), (true, 1), (true, 2), (true, 4), (true, 5), (false, 3), (true, 6), (false, 7)] (fun _ => True) (by kernel_rfl) (by kernel_rfl) ?_
        rintro w9 hw9
        rw [← hw9] at HQ
        have HW9 := hide hw9
        clear hw9
        refine ⟨trivial, ?_⟩
        iterate 5 (refine mxw_quiet rfl (fun w' _ K hK => by go_simp; exact hK) ?_; go_frame)
        refine mxw_loud rfl (fun K hK => ?_)
        go_simp
        refine Calls.mono HQ.out ?_
        rintro e w10 ⟨q', rfl, hn, hm10⟩
        have hd : Mod None_ wr w9 := by rw [HW9.out]; exact (Mod.refl _ wr).drew
        have hs9 : w9.heap.size = wr.heap.size := by rw [HW9.out]; rfl
        have c0 : w10.cell? ⟨w.heap.size, k, none⟩ = some (ptrV (ch' k)) := by rw [((HM.out.mod hd id).mod hm10 id).cell, nodeCells_ptr _ _ hk]
        have f0 : w10.frozen? ⟨w.heap.size, k, none⟩ = false := ((HM.out.mod hd id).mod hm10 id).frozen k
        obtain ⟨w11, hw11⟩ : ∃ w11, w11 = w10.setCell ⟨w.heap.size, k, none⟩ (.pointer (some ⟨q', 0, none⟩)) := ⟨_, rfl⟩
        have hst := HR.out.step hk (by rw [HCK.out]; exact fun e => by cases e) (hd.trans hm10) (by rw [hs9] at hn; exact hn) hw11
        have HST := hide hst
        have HW11 := hide hw11
        clear hst hw11 hd hs9 hn hm10
        refine ⟨_, rfl, hK _ _ ?_⟩
        clear hK K
        try go_frame
        refine mxw_quiet rfl (fun w' _ K hK => by go_simp; exact hK) ?_
        go_frame
        refine mxw_loud rfl (fun K hK => ?_)
        go_simp
        refine hK _ _ ?_
        clear hK K
        refine mxw_nil ?_
        go_wp2
        rw [← HW11.out]
        go_roundw
        case rel => exact ⟨k + 1, by omega, by go_num, HST.out⟩
        case measure => simp [intOf]; omega
    · obtain rfl : k = 8 := by omega
      have HR := hide hR
      clear hR h0
      go_wp2
      go_ret
      obtain ⟨ch', h1, h2, h3, h4⟩ := HR.out
      exact ⟨ch', rfl, h1, fun k hk => ⟨(h2 k hk).1, (h2 k hk).2.1, fun q' hq => ((h2 k hk).2.2 q' hq).lo (Nat.le_succ _)⟩, h4⟩

theorem copied_any : ∀ (n : Nat) (w : World) (lo p : Nat) (f : Nat → Int), NodeR w lo n p f →
    Calls Tryz.prog 55 #[.pointer (some ⟨p, 0, none⟩)] w fun e w' => ∃ q, e = .returned (.pointer (some ⟨q, 0, none⟩)) ∧ NodeR w' w.heap.size n q f ∧ Mod None_ w w'
  | 0, w, lo, p, f, h => by
    refine (copied_node w p 0 none8 f h.2 (fun _ _ => 0) (fun k q _ hq => by cases hq)).mono ?_
    rintro e w' ⟨ch', rfl, h1, h2, h3⟩
    refine ⟨_, rfl, ⟨Nat.le_refl _, ?_⟩, h3⟩
    rw [nodeCells_congr (ch := none8) (ch' := ch') (vs := f) (vs' := f) (fun k hk => ((h2 k hk).1 rfl).symm) (fun _ _ => rfl)]
    exact h1
  | n + 1, w, lo, p, f, h => by
    obtain ⟨hp, ch, hB, hc⟩ := h
    refine (copied_node w p n ch zero8 hB (fun k i => f (k * 8 ^ (n + 1) + i)) (fun k q hk hq W hM => copied_any n W lo q _ (((hc k hk).2 q hq).mod hM (fun _ _ f => f)))).mono ?_
    rintro e w' ⟨ch', rfl, h1, h2, h3⟩
    exact ⟨_, rfl, ⟨Nat.le_refl _, ch', h1, fun k hk => ⟨fun hn => (hc k hk).1 ((h2 k hk).2.1 hn), fun q hq => (h2 k hk).2.2 q hq⟩⟩, h3⟩
end Go.Proofs.YtabebkffcmajkaaGreatDoor

/-! Walk: walk, which hands on what stands below a part. (Printed by mk_R6.py.) -/
namespace Go.Proofs.YtabebkffcmajkaaGreatDoor
open Go.RowKit Go.Maps

/-- what a part of N offsets hands on, from off on -/
def itemsOf (f : Nat → Int) (base : Int) (N : Nat) (off : Int) : List (Int × Int) := ((List.range N).filter (fun x : Nat => decide (f x ≠ 0 ∧ off ≤ base + (x : Int)))).map (fun x : Nat => (base + (x : Int), f x))
theorem itemsOf_zero (f : Nat → Int) (base off : Int) : itemsOf f base 0 off = [] := rfl
theorem itemsOf_add (f : Nat → Int) (base : Int) (a b : Nat) (off : Int) : itemsOf f base (a + b) off = itemsOf f base a off ++ itemsOf (fun i => f (a + i)) (base + a) b off := by
  unfold itemsOf
  rw [List.range_add, List.filter_append, List.map_append, List.filter_map, List.map_map]
  congr 1
  have e : ((fun x : Nat => decide (f x ≠ 0 ∧ off ≤ base + (x : Int))) ∘ fun x => a + x) = fun x : Nat => decide ((fun i => f (a + i)) x ≠ 0 ∧ off ≤ base + (a : Int) + (x : Int)) := by
    funext x
    have e2 : base + ((a + x : Nat) : Int) = base + (a : Int) + (x : Int) := by push_cast; omega
    show decide (f (a + x) ≠ 0 ∧ off ≤ base + ((a + x : Nat) : Int)) = _
    rw [e2]
  rw [e]
  apply List.map_congr_left
  intro x _
  show (base + ((a + x : Nat) : Int), f (a + x)) = _
  have e2 : base + ((a + x : Nat) : Int) = base + (a : Int) + (x : Int) := by push_cast; omega
  rw [e2]
theorem itemsOf_none {f : Nat → Int} {base off : Int} {N : Nat} (h : ∀ x : Nat, x < N → f x = 0 ∨ base + (x : Int) < off) : itemsOf f base N off = [] := by
  unfold itemsOf
  rw [List.map_eq_nil_iff, List.filter_eq_nil_iff]
  intro x hx
  have := h x (List.mem_range.1 hx)
  simp only [decide_eq_true_eq]
  rintro ⟨h1, h2⟩
  rcases this with e | e
  · exact h1 e
  · omega
theorem itemsOf_one {f : Nat → Int} {base off : Int} (h : f 0 ≠ 0) (ho : off ≤ base) : itemsOf f base 1 off = [(base, f 0)] := by
  unfold itemsOf
  rw [show List.range 1 = [0] from rfl, List.filter_cons_of_pos (by simp [h]; exact ho)]
  simp

section
variable {l N lo : Nat} {J Jx : List (Int × Int) → World → Prop} {Kp : World → World → Prop} {W1 : World}
/-- the yields of a range: what the walk may lean on -/
structure Yields (l N lo : Nat) (J Jx : List (Int × Int) → World → Prop) (Kp : World → World → Prop) (W1 : World) : Prop where
  tr : ∀ {A B C : World}, Kp A B → Kp B C → Kp A C
  keep : ∀ {B : World} {g : Nat} {t : TypeId} {cs : Array Value}, Kp W1 B → lo ≤ g → Blk W1 g t cs → Blk B g t cs
  say : ∀ pre x W0, J pre W0 → pre.length < N → ∀ m, YieldAt Fence.wide m Tryz.prog l #[.int .i64 x.1, .int .i64 x.2] W0 fun e W' => (e = .returned (.bool true) ∧ J (pre ++ [x]) W' ∧ Kp W0 W') ∨ (e = .returned (.bool false) ∧ Jx (pre ++ [x]) W')
/-- what walk leaves -/
def WalkPost (J Jx : List (Int × Int) → World → Prop) (Kp : World → World → Prop) (w : World) (all : List (Int × Int)) : Ending → World → Prop := fun e W' =>
  (e = .returned (.bool true) ∧ J all W' ∧ Kp w W') ∨ (∃ q, q <+: all ∧ e = .returned (.bool false) ∧ Jx q W')
theorem yieldAt_wide {m m' : Nat} {args : Array Value} {W : World} {R : Ending → World → Prop} (h : YieldAt Fence.wide m Tryz.prog l args W R) : YieldAt Fence.wide m' Tryz.prog l args W R := by
  obtain ⟨fn, tmps, assign, body, hy, h1, h2⟩ := h
  exact ⟨fn, tmps, assign, body, hy, h1, fun c cs _ => h2 c cs (room_wide _)⟩


set_option maxRecDepth 100000 in
set_option maxHeartbeats 2000000 in
theorem walk0 (hY : Yields l N lo J Jx Kp W1) (w : World) (p : Nat) (f : Nat → Int) (base off : Int) (pre : List (Int × Int)) (hN : NodeR W1 lo 0 p f) (hKw : Kp W1 w) (hb0 : 0 ≤ base) (hb1 : base + 8 ≤ 512) (hJ : J pre w) (hl : (pre ++ itemsOf f base 8 off).length ≤ N) :
    Calls Tryz.prog 56 #[.pointer (some ⟨p, 0, none⟩), .int .i64 base, .int .i64 1, .int .i64 off, .func (.yield l) #[] #[]] w (WalkPost J Jx Kp W1 (pre ++ itemsOf f base 8 off)) := by
  obtain ⟨hlo, hB⟩ := hN
  have HY := hide hY
  have HJ := hide hJ
  have HL := hide hl
  have HKW := hide hKw
  clear hJ hl hY hKw
  refine callsIn_wide.1 (callsIn_of_wp (n := 5) Tryz.func56 rfl trivial ?_ rfl)
  simp only [Tryz.ntmps56, List.size_toArray, List.length_cons, List.length_nil, Nat.reduceAdd, Nat.reduceSub, Array.replicate_succ, Array.replicate_zero, List.push_toArray, List.append_toArray, List.nil_append, List.cons_append]
  gi_wp2
  gi_loopw [14] (fun i wr => ∃ k : Nat, k ≤ 8 ∧ i = .int .i64 k ∧ J (pre ++ itemsOf f base (k * 1) off) wr ∧ Kp W1 wr) (fun i _ => 8 - (intOf i).toNat)
  case atStart => exact ⟨0, by omega, rfl, by rw [Nat.zero_mul, itemsOf_zero, List.append_nil]; exact HJ.out, HKW.out⟩
  case round =>
    obtain ⟨k, hk8, rfl, hJ, hK⟩ := hrel
    have HJ := hide hJ
    have HK := hide hK
    clear hJ hK
    by_cases hk : k < 8
    · have hki : (k : Int) < 8 := by omega
      have hadd := itemsOf_add f base (k * 1) 1 off
      have hadd2 : itemsOf f base (k * 1 + 1) off = itemsOf f base ((k + 1) * 1) off := by rw [Nat.succ_mul]
      rw [hadd2] at hadd
      have HA := hide hadd
      clear hadd hadd2
      have skip : itemsOf (fun i => f (k * 1 + i)) (base + ((k * 1 : Nat) : Int)) 1 off = [] → J (pre ++ itemsOf f base ((k + 1) * 1) off) wr := fun he => by rw [HA.out, he, List.append_nil]; exact HJ.out
      have SK := hide skip
      clear skip
      by_cases hle : base + (k : Int) * 1 + 1 ≤ off
      · have hs := SK.out (itemsOf_none fun x hx => .inr (by push_cast; omega))
        have HS := hide hs
        clear hs
        gi_wp2
        go_roundw
        case rel => exact ⟨k + 1, by omega, by simp, HS.out, HK.out⟩
        case measure => simp [intOf]; omega
      · have hB2 := HY.out.keep HK.out hlo hB
        have cv : wr.cell? ⟨p, 8 + k, none⟩ = some (.int .i64 (f k)) := by rw [hB2.cell, nodeCells_val _ _ hk]
        have hix : f (k * 1 + 0) = f k := by simp
        have hbx : base + ((k * 1 : Nat) : Int) = base + k := by push_cast; omega
        have hgo : ¬ base + (k : Int) + 1 ≤ off := by omega
        by_cases hv : f k = 0
        · have hvb : (f k != 0) = false := by rw [hv]; rfl
          have he0 : ∀ x : Nat, x < 1 → (fun i => f (k * 1 + i)) x = 0 := fun x hx => by
            have e : x = 0 := by omega
            subst e
            simpa using hv
          have hs := SK.out (itemsOf_none fun x hx => .inl (he0 x hx))
          have HS := hide hs
          clear hs hv hix hbx hB2 he0
          generalize f k = fv at cv hvb
          gi_wp2
          refine ⟨(fun f hf => by cases hf), ?_⟩
          gi_wp2
          go_roundw
          case rel => exact ⟨k + 1, by omega, by simp, HS.out, HK.out⟩
          case measure => simp [intOf]; omega
        · have hvb : (f k != 0) = true := by rw [bne_iff_ne]; exact hv
          have h1 := itemsOf_one (f := fun i => f (k * 1 + i)) (base := base + ((k * 1 : Nat) : Int)) (off := off) (by rw [hix]; exact hv) (by rw [hbx]; omega)
          rw [hix] at h1
          have hA2 := HA.out
          rw [h1, hbx] at hA2
          have hA3 : itemsOf f base 8 off = itemsOf f base ((k + 1) * 1) off ++ itemsOf (fun i => f ((k + 1) * 1 + i)) (base + (((k + 1) * 1 : Nat) : Int)) (8 - (k + 1)) off := by
            rw [← itemsOf_add]
            congr 1
            omega
          have hlen : (pre ++ itemsOf f base (k * 1) off).length < N := by
            have := HL.out
            rw [hA3, hA2] at this
            simp only [List.length_append, List.length_cons, List.length_nil] at this ⊢
            omega
          have hpx : (pre ++ itemsOf f base (k * 1) off) ++ [(base + (k : Int), f k)] <+: pre ++ itemsOf f base 8 off := by
            rw [hA3, hA2]
            simp only [List.append_assoc]
            exact ⟨_, by simp only [List.append_assoc]; rfl⟩
          obtain ⟨fn, tmps, assign, body, hy, hR⟩ := HY.out.say _ (base + (k : Int), f k) wr HJ.out hlen (5 - 1)
          have HA2 := hide hA2
          have HPX := hide hpx
          have HR := hide hR
          clear h1 hA2 hA3 hlen hpx hR hv hix hbx hB2
          dsimp only at hy
          generalize f k = fv at cv hvb hy HA2 HPX HR
          gi_wp2
          refine HR.out.mono ?_
          rintro e W3 (⟨rfl, hJ3, hk3⟩ | ⟨rfl, hJx3⟩)
          · have HJ3 := hide hJ3
            have HK3 := hide (HY.out.tr HK.out hk3)
            clear hJ3 hk3 hy
            gi_wp2
            go_roundw
            case rel => exact ⟨k + 1, by omega, by simp, by rw [HA2.out, ← List.append_assoc]; exact HJ3.out, HK3.out⟩
            case measure => simp [intOf]; omega
          · have HJ3 := hide hJx3
            clear hJx3 hy
            gi_wp2
            refine bodyPost_ret (by simp [results, Tryz.results56, go_sem]; rfl) rfl ?_
            exact .inr ⟨_, HPX.out, rfl, HJ3.out⟩
    · obtain rfl : k = 8 := by omega
      gi_wp2
      refine bodyPost_ret (by simp [results, Tryz.results56, go_sem]; rfl) rfl ?_
      exact .inl ⟨rfl, HJ.out, HK.out⟩


set_option maxRecDepth 100000 in
set_option maxHeartbeats 2000000 in
theorem walk1 (hY : Yields l N lo J Jx Kp W1) (w : World) (p : Nat) (f : Nat → Int) (base off : Int) (pre : List (Int × Int)) (hN : NodeR W1 lo 1 p f) (hKw : Kp W1 w) (hb0 : 0 ≤ base) (hb1 : base + 64 ≤ 512) (hJ : J pre w) (hl : (pre ++ itemsOf f base 64 off).length ≤ N) :
    Calls Tryz.prog 56 #[.pointer (some ⟨p, 0, none⟩), .int .i64 base, .int .i64 8, .int .i64 off, .func (.yield l) #[] #[]] w (WalkPost J Jx Kp W1 (pre ++ itemsOf f base 64 off)) := by
  obtain ⟨hlo, ch, hB, hc⟩ := hN
  have HC := hide hc
  clear hc
  have HY := hide hY
  have HJ := hide hJ
  have HL := hide hl
  have HKW := hide hKw
  clear hJ hl hY hKw
  refine callsIn_wide.1 (callsIn_of_wp (n := 5) Tryz.func56 rfl trivial ?_ rfl)
  simp only [Tryz.ntmps56, List.size_toArray, List.length_cons, List.length_nil, Nat.reduceAdd, Nat.reduceSub, Array.replicate_succ, Array.replicate_zero, List.push_toArray, List.append_toArray, List.nil_append, List.cons_append]
  gi_wp2
  gi_loopw [14] (fun i wr => ∃ k : Nat, k ≤ 8 ∧ i = .int .i64 k ∧ J (pre ++ itemsOf f base (k * 8) off) wr ∧ Kp W1 wr) (fun i _ => 8 - (intOf i).toNat)
  case atStart => exact ⟨0, by omega, rfl, by rw [Nat.zero_mul, itemsOf_zero, List.append_nil]; exact HJ.out, HKW.out⟩
  case round =>
    obtain ⟨k, hk8, rfl, hJ, hK⟩ := hrel
    have HJ := hide hJ
    have HK := hide hK
    clear hJ hK
    by_cases hk : k < 8
    · have hki : (k : Int) < 8 := by omega
      have hadd := itemsOf_add f base (k * 8) 8 off
      have hadd2 : itemsOf f base (k * 8 + 8) off = itemsOf f base ((k + 1) * 8) off := by rw [Nat.succ_mul]
      rw [hadd2] at hadd
      have HA := hide hadd
      clear hadd hadd2
      have skip : itemsOf (fun i => f (k * 8 + i)) (base + ((k * 8 : Nat) : Int)) 8 off = [] → J (pre ++ itemsOf f base ((k + 1) * 8) off) wr := fun he => by rw [HA.out, he, List.append_nil]; exact HJ.out
      have SK := hide skip
      clear skip
      by_cases hle : base + (k : Int) * 8 + 8 ≤ off
      · have hs := SK.out (itemsOf_none fun x hx => .inr (by push_cast; omega))
        have HS := hide hs
        clear hs
        gi_wp2
        go_roundw
        case rel => exact ⟨k + 1, by omega, by simp, HS.out, HK.out⟩
        case measure => simp [intOf]; omega
      · have hB2 := HY.out.keep HK.out hlo hB
        have cv : wr.cell? ⟨p, k, none⟩ = some (ptrV (ch k)) := by rw [hB2.cell, nodeCells_ptr _ _ hk]
        have hgo : ¬ base + (k : Int) * 8 + 8 ≤ off := hle
        cases hck : ch k with
        | none =>
          rw [hck] at cv
          have cv' : wr.cell? ⟨p, k, none⟩ = some (.pointer none) := cv
          have hs := SK.out (itemsOf_none fun x hx => .inl ((HC.out k hk).1 hck x hx))
          have HS := hide hs
          clear hs hck hB2 cv
          gi_wp2
          go_roundw
          case rel => exact ⟨k + 1, by omega, by simp, HS.out, HK.out⟩
          case measure => simp [intOf]; omega
        | some q =>
          rw [hck] at cv
          have cv' : wr.cell? ⟨p, k, none⟩ = some (.pointer (some ⟨q, 0, none⟩)) := cv
          have hn := (HC.out k hk).2 q hck
          have hA3 : itemsOf f base 64 off = itemsOf f base ((k + 1) * 8) off ++ itemsOf (fun i => f ((k + 1) * 8 + i)) (base + (((k + 1) * 8 : Nat) : Int)) (64 - (k + 1) * 8) off := by
            rw [← itemsOf_add]
            congr 1
            omega
          have hlen : ((pre ++ itemsOf f base (k * 8) off) ++ itemsOf (fun i => f (k * 8 + i)) (base + ((k * 8 : Nat) : Int)) 8 off).length ≤ N := by
            have := HL.out
            rw [hA3, HA.out] at this
            simp only [List.length_append] at this ⊢
            omega
          have hpx : (pre ++ itemsOf f base (k * 8) off) ++ itemsOf (fun i => f (k * 8 + i)) (base + ((k * 8 : Nat) : Int)) 8 off <+: pre ++ itemsOf f base 64 off := by
            rw [hA3, HA.out]
            simp only [List.append_assoc]
            exact ⟨_, by simp only [List.append_assoc]; rfl⟩
          have hw := walk0 HY.out wr q (fun i => f (k * 8 + i)) (base + ((k * 8 : Nat) : Int)) off (pre ++ itemsOf f base (k * 8) off) hn HK.out (by omega) (by omega) HJ.out hlen
          have eb : base + ((k * 8 : Nat) : Int) = base + (k : Int) * 8 := by push_cast; omega
          rw [show (Value.int .i64 (base + ((k * 8 : Nat) : Int))) = .int .i64 (base + (k : Int) * 8) from by rw [eb]] at hw
          have HW := hide hw
          have HPX := hide hpx
          clear hw hpx hlen hA3 hn hck hB2 cv eb
          gi_wp2_with fail
          refine ⟨trivial, ?_⟩
          refine (callsIn_wide.2 HW.out).mono ?_
          rintro e W3 (⟨rfl, hJ3, hk3⟩ | ⟨z, hz, rfl, hJx3⟩)
          · have HJ3 := hide hJ3
            have HK3 := hide hk3
            clear hJ3 hk3
            gi_wp2
            go_roundw
            case rel => exact ⟨k + 1, by omega, by simp, by rw [HA.out, ← List.append_assoc]; exact HJ3.out, HK3.out⟩
            case measure => simp [intOf]; omega
          · have HJ3 := hide hJx3
            have HZ := hide (hz.trans HPX.out)
            clear hJx3 hz
            gi_wp2
            refine bodyPost_ret (by simp [results, Tryz.results56, go_sem]; rfl) rfl ?_
            exact .inr ⟨_, HZ.out, rfl, HJ3.out⟩
    · obtain rfl : k = 8 := by omega
      gi_wp2
      refine bodyPost_ret (by simp [results, Tryz.results56, go_sem]; rfl) rfl ?_
      exact .inl ⟨rfl, HJ.out, HK.out⟩


set_option maxRecDepth 100000 in
set_option maxHeartbeats 2000000 in
theorem walk2 (hY : Yields l N lo J Jx Kp W1) (w : World) (p : Nat) (f : Nat → Int) (base off : Int) (pre : List (Int × Int)) (hN : NodeR W1 lo 2 p f) (hKw : Kp W1 w) (hb0 : 0 ≤ base) (hb1 : base + 512 ≤ 512) (hJ : J pre w) (hl : (pre ++ itemsOf f base 512 off).length ≤ N) :
    Calls Tryz.prog 56 #[.pointer (some ⟨p, 0, none⟩), .int .i64 base, .int .i64 64, .int .i64 off, .func (.yield l) #[] #[]] w (WalkPost J Jx Kp W1 (pre ++ itemsOf f base 512 off)) := by
  obtain ⟨hlo, ch, hB, hc⟩ := hN
  have HC := hide hc
  clear hc
  have HY := hide hY
  have HJ := hide hJ
  have HL := hide hl
  have HKW := hide hKw
  clear hJ hl hY hKw
  refine callsIn_wide.1 (callsIn_of_wp (n := 5) Tryz.func56 rfl trivial ?_ rfl)
  simp only [Tryz.ntmps56, List.size_toArray, List.length_cons, List.length_nil, Nat.reduceAdd, Nat.reduceSub, Array.replicate_succ, Array.replicate_zero, List.push_toArray, List.append_toArray, List.nil_append, List.cons_append]
  gi_wp2
  gi_loopw [14] (fun i wr => ∃ k : Nat, k ≤ 8 ∧ i = .int .i64 k ∧ J (pre ++ itemsOf f base (k * 64) off) wr ∧ Kp W1 wr) (fun i _ => 8 - (intOf i).toNat)
  case atStart => exact ⟨0, by omega, rfl, by rw [Nat.zero_mul, itemsOf_zero, List.append_nil]; exact HJ.out, HKW.out⟩
  case round =>
    obtain ⟨k, hk8, rfl, hJ, hK⟩ := hrel
    have HJ := hide hJ
    have HK := hide hK
    clear hJ hK
    by_cases hk : k < 8
    · have hki : (k : Int) < 8 := by omega
      have hadd := itemsOf_add f base (k * 64) 64 off
      have hadd2 : itemsOf f base (k * 64 + 64) off = itemsOf f base ((k + 1) * 64) off := by rw [Nat.succ_mul]
      rw [hadd2] at hadd
      have HA := hide hadd
      clear hadd hadd2
      have skip : itemsOf (fun i => f (k * 64 + i)) (base + ((k * 64 : Nat) : Int)) 64 off = [] → J (pre ++ itemsOf f base ((k + 1) * 64) off) wr := fun he => by rw [HA.out, he, List.append_nil]; exact HJ.out
      have SK := hide skip
      clear skip
      by_cases hle : base + (k : Int) * 64 + 64 ≤ off
      · have hs := SK.out (itemsOf_none fun x hx => .inr (by push_cast; omega))
        have HS := hide hs
        clear hs
        gi_wp2
        go_roundw
        case rel => exact ⟨k + 1, by omega, by simp, HS.out, HK.out⟩
        case measure => simp [intOf]; omega
      · have hB2 := HY.out.keep HK.out hlo hB
        have cv : wr.cell? ⟨p, k, none⟩ = some (ptrV (ch k)) := by rw [hB2.cell, nodeCells_ptr _ _ hk]
        have hgo : ¬ base + (k : Int) * 64 + 64 ≤ off := hle
        cases hck : ch k with
        | none =>
          rw [hck] at cv
          have cv' : wr.cell? ⟨p, k, none⟩ = some (.pointer none) := cv
          have hs := SK.out (itemsOf_none fun x hx => .inl ((HC.out k hk).1 hck x hx))
          have HS := hide hs
          clear hs hck hB2 cv
          gi_wp2
          go_roundw
          case rel => exact ⟨k + 1, by omega, by simp, HS.out, HK.out⟩
          case measure => simp [intOf]; omega
        | some q =>
          rw [hck] at cv
          have cv' : wr.cell? ⟨p, k, none⟩ = some (.pointer (some ⟨q, 0, none⟩)) := cv
          have hn := (HC.out k hk).2 q hck
          have hA3 : itemsOf f base 512 off = itemsOf f base ((k + 1) * 64) off ++ itemsOf (fun i => f ((k + 1) * 64 + i)) (base + (((k + 1) * 64 : Nat) : Int)) (512 - (k + 1) * 64) off := by
            rw [← itemsOf_add]
            congr 1
            omega
          have hlen : ((pre ++ itemsOf f base (k * 64) off) ++ itemsOf (fun i => f (k * 64 + i)) (base + ((k * 64 : Nat) : Int)) 64 off).length ≤ N := by
            have := HL.out
            rw [hA3, HA.out] at this
            simp only [List.length_append] at this ⊢
            omega
          have hpx : (pre ++ itemsOf f base (k * 64) off) ++ itemsOf (fun i => f (k * 64 + i)) (base + ((k * 64 : Nat) : Int)) 64 off <+: pre ++ itemsOf f base 512 off := by
            rw [hA3, HA.out]
            simp only [List.append_assoc]
            exact ⟨_, by simp only [List.append_assoc]; rfl⟩
          have hw := walk1 HY.out wr q (fun i => f (k * 64 + i)) (base + ((k * 64 : Nat) : Int)) off (pre ++ itemsOf f base (k * 64) off) hn HK.out (by omega) (by omega) HJ.out hlen
          have eb : base + ((k * 64 : Nat) : Int) = base + (k : Int) * 64 := by push_cast; omega
          rw [show (Value.int .i64 (base + ((k * 64 : Nat) : Int))) = .int .i64 (base + (k : Int) * 64) from by rw [eb]] at hw
          have HW := hide hw
          have HPX := hide hpx
          clear hw hpx hlen hA3 hn hck hB2 cv eb
          gi_wp2_with fail
          refine ⟨trivial, ?_⟩
          refine (callsIn_wide.2 HW.out).mono ?_
          rintro e W3 (⟨rfl, hJ3, hk3⟩ | ⟨z, hz, rfl, hJx3⟩)
          · have HJ3 := hide hJ3
            have HK3 := hide hk3
            clear hJ3 hk3
            gi_wp2
            go_roundw
            case rel => exact ⟨k + 1, by omega, by simp, by rw [HA.out, ← List.append_assoc]; exact HJ3.out, HK3.out⟩
            case measure => simp [intOf]; omega
          · have HJ3 := hide hJx3
            have HZ := hide (hz.trans HPX.out)
            clear hJx3 hz
            gi_wp2
            refine bodyPost_ret (by simp [results, Tryz.results56, go_sem]; rfl) rfl ?_
            exact .inr ⟨_, HZ.out, rfl, HJ3.out⟩
    · obtain rfl : k = 8 := by omega
      gi_wp2
      refine bodyPost_ret (by simp [results, Tryz.results56, go_sem]; rfl) rfl ?_
      exact .inl ⟨rfl, HJ.out, HK.out⟩

end
end Go.Proofs.YtabebkffcmajkaaGreatDoor

/-! Walks: From. -/
namespace Go.Proofs.YtabebkffcmajkaaGreatDoor
open Go.RowKit Go.Maps Go.Shelf
attribute [local go_sem] quietV loudUpon Oper.semAt_some

set_option maxRecDepth 100000 in
theorem from_call (w : World) (t : Nat) (off : Int) : Calls Tryz.prog 36 #[.pointer (some ⟨t, 0, none⟩), .int .i64 off] w fun e w' =>
    e = .returned (.func (.func 54) #[] #[.pointer (some ⟨w.heap.size + 1, 0, none⟩), .pointer (some ⟨w.heap.size, 0, none⟩)]) ∧
      w' = (w.alloc (.cells #[.pointer (some ⟨t, 0, none⟩)] 80)).alloc (.cells #[.int .i64 off] 3) := by
  go_enter Tryz.func36, Tryz.ntmps36
  go_wp2
  go_ret
  exact ⟨rfl, rfl⟩

set_option maxRecDepth 100000 in
set_option maxHeartbeats 2000000 in
theorem from_stops (n : Nat) (w : World) (Kp : World → World → Prop) (hrf : ∀ W, w.heap.size ≤ W.heap.size → Kp W W) (htr : ∀ {A B C : World}, Kp A B → Kp B C → Kp A C)
    (hkeep : ∀ W W1 B g t cs, Below w.heap.size w W → Mod None_ W W1 → Kp W1 B → W.heap.size ≤ g → Blk W1 g t cs → Blk B g t cs)
    (t r : Nat) (mid leaf : Nat → Option Nat) (f : Nat → Int) (many off : Int) (bo bt : Nat) (h : RadixAt w t r mid leaf f many)
    (co : w.cell? ⟨bo, 0, none⟩ = some (.int .i64 off)) (ct : w.cell? ⟨bt, 0, none⟩ = some (.pointer (some ⟨t, 0, none⟩))) :
    SeqStopsK Fence.wide n Tryz.prog 54 #[.pointer (some ⟨bo, 0, none⟩), .pointer (some ⟨bt, 0, none⟩)] (fun p : Int × Int => #[.int .i64 p.1, .int .i64 p.2]) Kp
      (fun xs => xs = itemsOf f 0 512 off) (fun pre => pre <+: itemsOf f 0 512 off) (itemsOf f 0 512 off).length w := by
  intro l J Jx W hW hJ hJx hY h0
  have hm := Mod.of_below hW
  have hr := h.kept hm
  have co' : W.cell? ⟨bo, 0, none⟩ = some (.int .i64 off) := (World.cell?_of_block (hm.block bo (block_lt_of_cell co) id)).trans co
  have ct' : W.cell? ⟨bt, 0, none⟩ = some (.pointer (some ⟨t, 0, none⟩)) := (World.cell?_of_block (hm.block bt (block_lt_of_cell ct) id)).trans ct
  have HJ := hide hJ
  have HY := hide hY
  have HR := hide hr
  have HW := hide hW
  have hws := hW.size
  clear h co ct hJ hJx hY hr hm hW
  refine callsIn_wide.2 ?_
  by_cases ho : off < 512
  · have hB : ∃ N, N = (itemsOf f 0 512 off).length := ⟨_, rfl⟩
    obtain ⟨N, hN⟩ := hB
    have HN := hide hN
    rw [← hN] at HY
    clear hN
    simp only [List.append_toArray, List.cons_append, List.nil_append]
    go_enter Tryz.func54, Tryz.ntmps54
    go_wp2_with fail
    refine region_txw 7 [(true, 0), (true, 1), (true, 2), (true, 3), (true, 5), (true, 6), (false, 4), (false, 7)] (fun w' => w'.cell? ⟨bo, 0, none⟩ = some (.int .i64 off) ∧ w'.cell? ⟨bt, 0, none⟩ = some (.pointer (some ⟨t, 0, none⟩)) ∧ w'.cell? ⟨t, 0, none⟩ = some (.pointer (some ⟨r, 0, none⟩))) (by kernel_rfl) (by kernel_rfl) ?_
    rintro w9 hw9
    have hd : Mod None_ W w9 := by rw [hw9]; exact (Mod.refl _ W).drew
    have hr9 := HR.out.kept hd
    have i1 : w9.cell? ⟨bo, 0, none⟩ = some (.int .i64 off) := (World.cell?_of_block (hd.block bo (block_lt_of_cell co') id)).trans co'
    have i2 : w9.cell? ⟨bt, 0, none⟩ = some (.pointer (some ⟨t, 0, none⟩)) := (World.cell?_of_block (hd.block bt (block_lt_of_cell ct') id)).trans ct'
    have i3 := hr9.cRoot
    have HC := hide (copied_any 2 w9 0 r f hr9.node)
    have HD := hide hd
    have hs9 : w9.heap.size = W.heap.size := by rw [hw9]; rfl
    have HS9 := hide hs9
    clear hw9 hd hr9 hs9 co' ct' HR
    refine ⟨⟨i1, i2, i3⟩, ?_⟩
    iterate 6 (refine txw_quiet rfl (fun w' ⟨i1, i2, i3⟩ K hK => by go_simp; exact hK) ?_; go_frame)
    refine txw_loud rfl (fun K hK => ?_)
    go_simp
    refine Calls.mono HC.out ?_
    rintro e w10 ⟨q, rfl, hn, hm⟩
    have j1 : w10.cell? ⟨bo, 0, none⟩ = some (.int .i64 off) := (World.cell?_of_block (hm.block bo (block_lt_of_cell i1) id)).trans i1
    have j2 : w10.cell? ⟨bt, 0, none⟩ = some (.pointer (some ⟨t, 0, none⟩)) := (World.cell?_of_block (hm.block bt (block_lt_of_cell i2) id)).trans i2
    have j3 : w10.cell? ⟨t, 0, none⟩ = some (.pointer (some ⟨r, 0, none⟩)) := (World.cell?_of_block (hm.block t (block_lt_of_cell i3) id)).trans i3
    have hm10 := HD.out.trans hm
    have hJ4 : J [] w10 := HJ.out [] W w10 none h0 hm10.grownBy (fun r e => by cases e)
    have hw2 := walk2 (l := l) (N := N) (lo := W.heap.size) (J := J) (Jx := Jx) (Kp := Kp) (W1 := w10)
      ⟨htr, (fun hk hl hb => hkeep W w10 _ _ _ _ HW.out hm10 hk hl hb), (fun pre x W0 hj hl m => yieldAt_wide (HY.out pre x W0 hj hl))⟩ w10 q f 0 off [] (by rw [← HS9.out]; exact hn) (hrf _ (by have := hm10.size; omega)) (Int.le_refl _) (by omega) hJ4 (by rw [List.nil_append, HN.out]; exact Nat.le_refl _)
    have HW2 := hide hw2
    clear hw2 hJ4 hm10 hm hn HC i1 i2 i3
    refine ⟨_, rfl, ⟨j1, j2, j3⟩, hK _ _ ?_⟩
    clear hK K
    try go_frame
    refine txw_loud rfl (fun K hK => ?_)
    go_simp
    refine Calls.mono HW2.out ?_
    rintro e w11 (⟨rfl, hj, _⟩ | ⟨z, hz, rfl, hj⟩)
    · refine ⟨_, rfl, hK _ _ ?_⟩
      clear hK K
      refine txw_nil ?_
      have HJ2 := hide hj
      clear hj
      go_wp2
      go_end0
      exact ⟨⟨_, rfl⟩, .inl ⟨_, List.nil_append _, HJ2.out⟩⟩
    · refine ⟨_, rfl, hK _ _ ?_⟩
      clear hK K
      refine txw_nil ?_
      have HJ2 := hide hj
      have HZ := hide hz
      clear hj hz
      go_wp2
      go_end0
      exact ⟨⟨_, rfl⟩, .inr ⟨z, by simpa using HZ.out, HJ2.out⟩⟩
  · have he : itemsOf f 0 512 off = [] := itemsOf_none fun x hx => .inr (by omega)
    have HE := hide he
    have hof : decide (off < 512) = false := decide_eq_false ho
    clear he
    simp only [List.append_toArray, List.cons_append, List.nil_append]
    go_enter Tryz.func54, Tryz.ntmps54
    go_wp2
    go_end0
    exact ⟨⟨_, rfl⟩, .inl (by rw [HE.out]; exact h0)⟩
end Go.Proofs.YtabebkffcmajkaaGreatDoor

/-! Lists of runs. -/
namespace Go.Proofs.YtabebkffcmajkaaGreatDoor
open Go.RowKit Go.Maps Go.Shelf

structure RunD where
  off : Int
  page : Int
  count : Int
deriving DecidableEq
def runCells (l : List RunD) : List Value := l.flatMap fun r => [.int .i64 r.off, .int .i64 r.page, .int .i64 r.count]
theorem runCells_length (l : List RunD) : (runCells l).length = l.length * 3 := by
  induction l with
  | nil => rfl
  | cons r l ih => simp only [runCells, List.flatMap_cons, List.length_append, List.length_cons, List.length_nil] at ih ⊢; omega
theorem runCells_append (l m : List RunD) : runCells (l ++ m) = runCells l ++ runCells m := by simp [runCells]
theorem runCells_at : ∀ (l : List RunD) (i : Nat) (h : i < l.length), (runCells l)[i * 3]? = some (.int .i64 l[i].off) ∧ (runCells l)[i * 3 + 1]? = some (.int .i64 l[i].page) ∧ (runCells l)[i * 3 + 2]? = some (.int .i64 l[i].count)
  | [], i, h => by simp at h
  | r :: l, 0, h => ⟨rfl, rfl, rfl⟩
  | r :: l, i + 1, h => by
    have e : (i + 1) * 3 = i * 3 + 1 + 1 + 1 := by omega
    have := runCells_at l i (by simpa using h)
    unfold runCells at this ⊢
    simp only [e, List.flatMap_cons, List.cons_append, List.nil_append, List.getElem?_cons_succ, List.getElem_cons_succ]
    exact this
theorem runCells_last (l : List RunD) (r : RunD) (c : Int) : ((runCells (l ++ [r])).set (l.length * 3 + 2) (.int .i64 c)) = runCells (l ++ [⟨r.off, r.page, c⟩]) := by
  rw [runCells_append, runCells_append, List.set_append_right _ _ (by rw [runCells_length]; omega), runCells_length]
  congr 1
  rw [show l.length * 3 + 2 - l.length * 3 = 2 by omega]
  rfl

/-- one more page on a list of runs -/
def addRun (l : List RunD) (p : Int × Int) : List RunD :=
  match l.getLast? with
  | some r => if wrap64 (r.off + r.count) = p.1 ∧ wrap64 (r.page + r.count) = p.2 then l.dropLast ++ [⟨r.off, r.page, wrap64 (r.count + 1)⟩] else l ++ [⟨p.1, p.2, 1⟩]
  | none => l ++ [⟨p.1, p.2, 1⟩]
def runsOf (items : List (Int × Int)) : List RunD := items.foldl addRun []
theorem runsOf_snoc (l : List (Int × Int)) (p : Int × Int) : runsOf (l ++ [p]) = addRun (runsOf l) p := by unfold runsOf; rw [List.foldl_append]; rfl
theorem addRun_nil (p : Int × Int) : addRun [] p = [⟨p.1, p.2, 1⟩] := rfl
theorem addRun_yes {l : List RunD} {r : RunD} {p : Int × Int} (h1 : wrap64 (r.off + r.count) = p.1) (h2 : wrap64 (r.page + r.count) = p.2) : addRun (l ++ [r]) p = l ++ [⟨r.off, r.page, wrap64 (r.count + 1)⟩] := by
  unfold addRun
  rw [List.getLast?_concat]
  simp [h1, h2]
theorem addRun_no {l : List RunD} {r : RunD} {p : Int × Int} (h : ¬ (wrap64 (r.off + r.count) = p.1 ∧ wrap64 (r.page + r.count) = p.2)) : addRun (l ++ [r]) p = l ++ [r] ++ [⟨p.1, p.2, 1⟩] := by
  unfold addRun
  rw [List.getLast?_concat]
  simp [h]
theorem addRun_length (l : List RunD) (p : Int × Int) : (addRun l p).length ≤ l.length + 1 := by
  rcases List.eq_nil_or_concat l with rfl | ⟨l', r, rfl⟩
  · simp [addRun_nil]
  · by_cases h : wrap64 (r.off + r.count) = p.1 ∧ wrap64 (r.page + r.count) = p.2
    · rw [List.concat_eq_append, addRun_yes h.1 h.2]; simp
    · rw [List.concat_eq_append, addRun_no h]; simp
theorem runsOf_length (l : List (Int × Int)) : (runsOf l).length ≤ l.length := by
  have key : ∀ (l : List (Int × Int)) (R : List RunD), (l.foldl addRun R).length ≤ R.length + l.length := by
    intro l
    induction l with
    | nil => intro R; simp
    | cons p l ih =>
      intro R
      have h1 := ih (addRun R p)
      have h2 := addRun_length R p
      simp only [List.foldl_cons, List.length_cons]
      omega
  have := key l []
  simp only [List.length_nil, Nat.zero_add] at this
  exact this

theorem infoRun : (Tryz.prog.info? 73).map (fun i => (i.zero, i.size, i.bytes)) = some (some (.agg #[.int .i64 0, .int .i64 0, .int .i64 0]), 3, 24) := by kernel_rfl
theorem wpListIn_append_run {F : Fence} {n : Nat} {ops : Array Oper} {rest : List Oper} {o : Oper} {a : Act} {w : World} {Q : Exit → Act → World → Prop} (hg : o.guard = none) (s x : Operand)
    (ho : o.op = .call { callee := .builtin .append, args := #[s, x], argTypes := #[30, 30] }) (W : World) (base : Nat) (v : Value) (acc : List RunD) (p : RunD)
    (hw : w = W.alloc (.cells #[.int .i64 p.off, .int .i64 p.page, .int .i64 p.count] 73)) (hs : a.eval s = v) (gx : Nat) (hgx : gx = W.heap.size) (hx : a.eval x = .slice (some ⟨gx, 0, none⟩) 1 1)
    (hown : W.ownsRow base 73 3 v acc.length (runCells acc)) (hb : base ≤ W.heap.size) (hl : acc.length ≤ 5000000000000)
    (h : ∀ v' w', w'.ownsRow base 73 3 v' (acc ++ [p]).length (runCells (acc ++ [p])) → Mod (fun k => some k = v.ownBlock) W w' → (v'.ownBlock = v.ownBlock ∨ v'.ownBlock = some (W.heap.size + 1)) → wpListIn F n Tryz.prog ops Q rest (a.put o.dst v') w') :
    wpListIn F n Tryz.prog ops Q (o :: rest) a w := by
  subst hgx
  obtain ⟨i0, hi, hz, hsz, hby⟩ := info_parts infoRun
  have hM : Mod None_ W w := by rw [hw]; exact (Mod.refl _ W).alloc _
  have hown1 := own_mod hown hM (fun _ _ f => f)
  have hB : Blk w W.heap.size 73 #[.int .i64 p.off, .int .i64 p.page, .int .i64 p.count] := by rw [hw]; exact Blk.new _ _ _
  obtain ⟨v', w', hrun, hown', hgr, _, hat⟩ := run_append_own_at (P := Tryz.prog) w base 30 o.type 73 i0 _ 3 24 Tryz.underlying30 hi hz hsz hby rfl (by decide) v acc.length _ hown1 ⟨W.heap.size, 0, none⟩ 1 1 [.int .i64 p.off, .int .i64 p.page, .int .i64 p.count] rfl
    (by
      intro j u hj
      rw [Addr.add_lit, Nat.zero_add, hB.cell]
      match j, hj with
      | 0, hj => simpa using hj
      | 1, hj => simpa using hj
      | 2, hj => simpa using hj)
    (by
      intro u hu
      rcases List.mem_cons.1 hu with rfl | hu
      · rfl
      · rcases List.mem_cons.1 hu with rfl | hu
        · rfl
        · rcases List.mem_cons.1 hu with rfl | hu
          · rfl
          · cases hu)
    (by unfold maxLen; omega) (by omega) (by rw [hw, alloc_size]; omega)
  have hsw : w.heap.size = W.heap.size + 1 := by rw [hw, alloc_size]
  have epc : runCells acc ++ [Value.int .i64 p.off, Value.int .i64 p.page, Value.int .i64 p.count] = runCells (acc ++ [p]) := by simp [runCells]
  have ell : (acc ++ [p]).length = acc.length + 1 := by simp
  rw [epc, ← ell] at hown'
  have hk := h v' w' hown' (hM.none.trans' (Mod.of_grown hgr) (fun k _ e => e)) (by rw [hsw] at hat; exact hat)
  refine wpListIn_plain hg fun K hK' => ?_
  unfold Oper.wpIn
  refine ⟨?_, ?_⟩
  · simp [Oper.about, ho, resolve, Target.leads, Sem.run_pure]
  · rw [Oper.semAt_plain F _ _ (by rw [ho]; intro c hc'; cases hc')]
    simp [execOp, ho, resolve, invoke, builtin, hs, hx, hrun, Result.andThen]
    exact hK' _ _ hk
end Go.Proofs.YtabebkffcmajkaaGreatDoor

/-! Walk: radix.Runs. -/
namespace Go.Proofs.YtabebkffcmajkaaGreatDoor
open Go.RowKit Go.Maps Go.Shelf
attribute [local go_sem] quietV loudUpon Oper.semAt_some

theorem w64 (a : Int) : IntKind.i64.wrap a = wrap64 a := IntWalk.i64_left a
theorem itemsOf_length (f : Nat → Int) (base : Int) (N : Nat) (off : Int) : (itemsOf f base N off).length ≤ N := by
  unfold itemsOf
  rw [List.length_map]
  exact Nat.le_trans (List.length_filter_le _ _) (by simp)
/-- what holds while Runs goes on: the list lies in the variable bl -/
def RunsI (w0 : World) (bl : Nat) (pre : List (Int × Int)) (W : World) : Prop :=
  ∃ v, Blk W bl 30 #[v] ∧ W.ownsRow w0.heap.size 73 3 v (runsOf pre).length (runCells (runsOf pre)) ∧ Mod (· = bl) w0 W
theorem RunsI.grown {w0 : World} {bl : Nat} {pre : List (Int × Int)} {A B : World} {row : Option Nat} (h : RunsI w0 bl pre A) (hbl : bl < w0.heap.size)
    (hg : A.grownBy B row) (hr : ∀ r, row = some r → w0.heap.size ≤ r ∧ ∃ o : Obj, A.heap[r]? = some o ∧ o.isCells = false) : RunsI w0 bl pre B := by
  obtain ⟨v, hv, hown, hM⟩ := h
  refine ⟨v, blk_of_grown_own hv hg hr (by omega), own_mod hown (Mod.of_grown hg) (fun g hg' e => ?_), mod_of_grown_own hM hg hr (Nat.le_refl _)⟩
  obtain ⟨_, o, ho, hoc⟩ := hr g e.symm
  obtain ⟨_, cur, hh⟩ := own_blk hown hg'
  rw [hh] at ho; cases ho; simp [Obj.isCells] at hoc
theorem keep_own {w : World} {bl : Nat} (hbl : bl < w.heap.size) (hno : ownerAt w bl = none) : ∀ W W1 B g t cs, Below w.heap.size w W → Mod None_ W W1 → KpO w.heap.size bl W1 B → W.heap.size ≤ g → Blk W1 g t cs → Blk B g t cs := by
  intro W W1 B g t cs hb hm hk hg hB
  have e : ownerAt W1 bl = none := by
    rw [ownerAt_block (hm.block bl (by have := hb.size; omega) id), ownerAt_block (hb.block bl hbl)]; exact hno
  exact hk.same g _ _ _ (by have := hb.size; omega) hB (by rw [e]; simp)

theorem Mod.keeps {w w' : World} (h : Mod None_ w w') {B : Nat} : KeepsFrom B w w' := KeepsFrom.of_mod h (fun _ _ _ f => f)
theorem Mod.kpO {w w' : World} (h : Mod None_ w w') {B bl : Nat} (_ : bl < w'.heap.size) (hbl : bl < w.heap.size) : KpO B bl w w' := KpO.of_mod h hbl id (fun _ _ _ f => f)
/-- the last run's count is stored -/
theorem own_last {w : World} {lo g c n : Nat} {l : List RunD} {r : RunD} (h : w.ownsRow lo 73 3 (.slice (some ⟨g, 0, none⟩) (n + 1) c) (n + 1) (runCells (l ++ [r]))) (hn : n = l.length) (v : Int) :
    (w.setCell ⟨g, n * 3 + 2, none⟩ (.int .i64 v)).ownsRow lo 73 3 (.slice (some ⟨g, 0, none⟩) (n + 1) c) (n + 1) (runCells (l ++ [⟨r.off, r.page, v⟩])) ∧ Mod (· = g) w (w.setCell ⟨g, n * 3 + 2, none⟩ (.int .i64 v)) := by
  subst hn
  refine ⟨?_, (Mod.refl (· = g) w).setCell (p := ⟨g, l.length * 3 + 2, none⟩) (.inr rfl) _⟩
  rcases h.2 with ⟨h0, _⟩ | ⟨g', cap, cur, hv, hb, hg, hn, hc, hs, ht⟩
  · cases h0
  · simp only [Value.slice.injEq, Option.some.injEq, Addr.mk.injEq, true_and, and_true] at hv
    obtain ⟨rfl, rfl⟩ := hv
    have hB : Blk w g 73 cur := hg
    have hB2 := hB.set_ (l.length * 3 + 2) (.int .i64 v)
    refine ⟨by rw [runCells_length]; simp, .inr ⟨g, c, _, rfl, hb, hB2, hn, hc, by simpa using hs, ?_⟩⟩
    rw [← runCells_last, Array.toList_setIfInBounds, List.take_set, ht]
/-- a store into the own row keeps what is no cells -/
theorem Mod.keepsIn {w w' : World} {lo g c n m : Nat} {t : TypeId} {xs : List Value} (h : Mod (· = g) w w') (_ : Blk w m t #[.slice (some ⟨g, 0, Option.none⟩) n c]) (hown : w.ownsRow lo 73 3 (.slice (some ⟨g, 0, Option.none⟩) n c) n xs) {B : Nat} : KeepsFrom B w w' :=
  ⟨h.size, fun k o _ hk hoc => by
    have hlt := (Array.getElem?_eq_some_iff.1 hk).1
    refine (h.block k hlt (fun e => ?_)).trans hk
    subst e
    obtain ⟨_, cur, hh⟩ := own_blk hown (g := k) rfl
    rw [hh] at hk; cases hk; simp [Obj.isCells] at hoc⟩
theorem kpO_own {w w' : World} {g c n m : Nat} {t : TypeId} (h : Mod (· = g) w w') (hv : Blk w m t #[.slice (some ⟨g, 0, none⟩) n c]) (hne : g ≠ m) {B : Nat} : KpO B m w w' :=
  ⟨h.size, fun k cs t fr _ hk hno => by
      have hlt := (Array.getElem?_eq_some_iff.1 hk).1
      refine (h.block k hlt (fun e => hno ?_)).trans hk
      unfold ownerAt
      rw [hv.cell 0, e]
      rfl,
    fun k hk => .inl (by rw [ownerAt_block (h.block m hv.lt (by omega))] at hk; exact hk)⟩

set_option maxRecDepth 100000 in
set_option maxHeartbeats 4000000 in
theorem runs_any (w : World) (t r : Nat) (mid leaf : Nat → Option Nat) (f : Nat → Int) (many : Int) (h : RadixAt w t r mid leaf f many) :
    Calls Tryz.prog 40 #[.pointer (some ⟨t, 0, none⟩)] w fun e w' => ∃ v, e = .returned v ∧ w'.ownsRow w.heap.size 73 3 v (runsOf (itemsOf f 0 512 0)).length (runCells (runsOf (itemsOf f 0 512 0))) ∧ Mod None_ w w' := by
  have HR := hide h
  clear h
  refine calls_of_wp_marks 3 Tryz.func40 rfl ?_
  simp only [Tryz.ntmps40, List.size_toArray, List.length_cons, List.length_nil, Nat.reduceAdd, Nat.reduceSub, Array.replicate_succ, Array.replicate_zero, List.push_toArray, List.append_toArray, List.nil_append, List.cons_append]
  go_wp2_with fail
  refine (from_call _ t 0).mono ?_
  rintro e w3 ⟨rfl, hw3⟩
  obtain ⟨m, hm⟩ : ∃ m, m = w.heap.size := ⟨_, rfl⟩
  simp only [alloc_size]
  rw [← hm]
  have hM3 : Mod None_ w w3 := by rw [hw3]; exact (((Mod.refl _ w).alloc _).alloc _).alloc _
  have b0 : Blk w3 m 30 #[.slice none 0 0] := by rw [hw3, hm]; exact ((Blk.new w 30 _).alloc _).alloc _
  have b1 : Blk w3 (m + 1) 80 #[.pointer (some ⟨t, 0, none⟩)] := by
    have := (Blk.new (w.alloc (.cells #[.slice none 0 0] 30)) 80 #[.pointer (some ⟨t, 0, none⟩)]).alloc (.cells #[.int .i64 0] 3)
    rw [← hw3, alloc_size, ← hm] at this
    exact this
  have b2 : Blk w3 (m + 2) 3 #[.int .i64 0] := by
    have := Blk.new ((w.alloc (.cells #[.slice none 0 0] 30)).alloc (.cells #[.pointer (some ⟨t, 0, none⟩)] 80)) 3 #[.int .i64 0]
    rw [← hw3, alloc_size, alloc_size, ← hm] at this
    exact this
  have hR3 := HR.out.kept hM3
  have hml : m < w3.heap.size := b0.lt
  have hgem : w.heap.size ≤ m := by omega
  have hem : m ≤ w.heap.size := by omega
  clear hw3 hm
  go_wp2_with fail
  rw [show m + 1 + 1 = m + 2 from rfl]
  have hno : ownerAt w3 m = none := by unfold ownerAt; rw [b0.cell 0]; rfl
  have hst := from_stops 2 w3 (KpO w3.heap.size m) (fun W _ => KpO.refl _ _ W) (fun h k => h.trans k) (keep_own hml hno) t r mid leaf f many 0 (m + 2) (m + 1) hR3 (b2.cell 0) (b1.cell 0)
  have hNl := itemsOf_length f 0 512 0
  obtain ⟨P, hP⟩ : ∃ P, P = itemsOf f 0 512 0 := ⟨_, rfl⟩
  have HP := hide hP
  rw [← hP] at hst hNl
  clear hP HR
  refine wp_range_mid 3 (by omega) (gf := 54) (lb := #[.pointer (some ⟨m + 2, 0, none⟩), .pointer (some ⟨m + 1, 0, none⟩)]) rfl (enters_of Tryz.func54 (by kernel_rfl) rfl) hst (fun h k => h.trans k) (fun U l o o' hl h ho _ => KpO.putObj U l o o' (by omega) h ho) (Below.refl _ _) (fun _ => rfl)
    (RunsI w3 m) (fun _ _ _ => False) 0 (RunsI w3 m P)
    (fun pre A B row h hg hr => h.grown hml hg hr) (fun c pre A B row h _ _ => h)
    ⟨_, b0, ⟨rfl, .inl ⟨rfl, rfl⟩⟩, Mod.refl _ _⟩ ?done ?stop ?body ?rest
  case done =>
    rintro xs U hxs h
    obtain rfl : P = xs := hxs.symm
    exact h
  case stop =>
    rintro c pre U hp h
    exact h.elim
  case body =>
    apply Exists.intro
    refine ⟨?_, ?_⟩
    · intro l x U K hK
      gi_wp2
      exact hK
    · rintro l pre x U ⟨v, hv, hown, hM⟩ hlt
      obtain ⟨A, c, rfl⟩ := own_slice hown
      have hRl := runsOf_length pre
      have cl : U.cell? ⟨m, 0, none⟩ = some (.slice A (runsOf pre).length c) := hv.cell 0
      have hsn := runsOf_snoc pre x
      obtain ⟨R, hR⟩ : ∃ R, R = runsOf pre := ⟨_, rfl⟩
      rw [← hR] at hv hown hRl cl hsn
      have HSN := hide hsn
      clear hR hsn hst
      rcases List.eq_nil_or_concat R with rfl | ⟨R', r0, rfl⟩
      · have hln : ∀ w, (Builtin.len_ #[30] 3 #[.slice A (([] : List RunD).length) c]).run Tryz.prog w = .ok (.int .i64 0) w := fun w => by simp [Builtin.len_, run_underlying Tryz.underlying30]; rfl
        rw [addRun_nil] at HSN
        gi_wp2_with fail
        refine region_stw_in (by kernel_rfl) (by kernel_rfl) (by kernel_rfl) ?_
        rintro U2 hU2
        have hd2 : Mod None_ U U2 := by rw [hU2]; exact (Mod.refl _ U).drew
        have hmU : m < U.heap.size := hv.lt
        replace hv := hv.mod hd2 id
        replace hown := own_mod hown hd2 (fun _ _ f => f)
        replace cl : U2.cell? ⟨m, 0, none⟩ = some _ := hv.cell 0
        have hbU : w3.heap.size ≤ U2.heap.size := Nat.le_trans hM.size hd2.size
        clear hU2
        repeat (refine stw_step (fun K hK => ?_); go_simp; refine hK _ ?_; clear hK K)
        refine stw_nil ?_
        gi_wp2_with ((with_reducible refine at_slotIn 59 ?_); refine wpListIn_append_run rfl (.tmp 54) (.tmp 58) rfl U2 w3.heap.size (.slice A ([] : List RunD).length c) [] ⟨x.1, x.2, 1⟩ rfl rfl U2.heap.size rfl rfl hown hbU (by simp) ?_; intro v8 w8 hown8 hm8 hat8; obtain ⟨N8, hN8⟩ : ∃ N, N = ([] ++ [(⟨x.1, x.2, 1⟩ : RunD)]).length := ⟨_, rfl⟩; rw [← hN8] at hown8; have HN8 := hide hN8; clear hN8; obtain ⟨A2, c2, rfl⟩ := own_slice hown8; go_frame
                     obtain ⟨k1, k2, k3, k4, k5⟩ := grown_keeps 30 73 3 (by omega) hbU hv hown hown8 hm8 hat8
                     have hv8 := hv.mod hm8 (fun e => by have := (own_blk hown e.symm).1; omega)
                     have cl8 : w8.cell? ⟨m, 0, none⟩ = some (.slice A ([] : List RunD).length c) := hv8.cell 0
                     have cf8 : w8.frozen? ⟨m, 0, none⟩ = false := hv8.frozen 0
                     have L1 := hide k1
                     have L2 := hide k2
                     have L3 := hide k3
                     have L4 := hide k4
                     have L5 := hide k5
                     clear k1 k2 k3 k4 k5 hown8 hm8 hat8 hv8)
        refine ⟨hd2.keeps.trans L1.out, (Mod.kpO hd2 (by have := hv.lt; omega) hmU).trans L2.out, _, L3.out, ?_, (hM.trans hd2.none).trans' L5.out (fun k hk e => by omega)⟩
        rw [HSN.out]
        have hL4 := L4.out
        rw [HN8.out] at hL4 ⊢
        exact hL4
      · rw [List.concat_eq_append] at hv hown hRl cl HSN
        have eln : (R' ++ [r0]).length = R'.length + 1 := by simp
        rw [eln] at hv hown hRl cl
        obtain ⟨n', hn'⟩ : ∃ n', n' = R'.length := ⟨_, rfl⟩
        have hln : ∀ w, (Builtin.len_ #[30] 3 #[.slice A (n' + 1) c]).run Tryz.prog w = .ok (.int .i64 ((n' : Int) + 1)) w := fun w => by simp [Builtin.len_, run_underlying Tryz.underlying30]; rfl
        have hnl : (n' : Int) ≤ 512 := by omega
        have hn1 : (n' : Int) < (n' : Int) + 1 := by omega
        obtain ⟨g, cap, rfl, hgb, hgl⟩ : ∃ g cap, A = some ⟨g, 0, none⟩ ∧ w3.heap.size ≤ g ∧ g < U.heap.size := by
          rcases hown.2 with ⟨_, h0⟩ | ⟨g, cap, cur, h1, h2, h3, _⟩
          · omega
          · simp only [Value.slice.injEq, true_and] at h1
            exact ⟨g, cap, h1.1, h2, (Array.getElem?_eq_some_iff.1 h3).1⟩
        obtain ⟨a1, a2, a3⟩ := runCells_at (R' ++ [r0]) R'.length (by simp)
        have er : (R' ++ [r0])[R'.length]'(by simp) = r0 := by simp
        rw [er] at a1 a2 a3
        have hcell := hown.cells (g := g) rfl
        have x0 := hcell _ _ a1
        have x1 := hcell _ _ a2
        have x2 := hcell _ _ a3
        simp only [Addr.add_lit, Nat.zero_add] at x0 x1 x2
        have hfz : U.frozen? ⟨g, R'.length * 3 + 2, none⟩ = false := by
          obtain ⟨_, cur, hh⟩ := own_blk hown (g := g) rfl
          exact (show Blk U g 73 cur from hh).frozen _
        rw [← hn'] at hv hown hRl cl x0 x1 x2 hfz eln
        have HN' := hide hn'
        clear hn' a1 a2 a3 er hcell
        gi_wp2_with fail
        by_cases h1 : wrap64 (r0.off + r0.count) = x.1
        · have ep1 : IntKind.i64.wrap (r0.off + r0.count) = x.1 := by rw [w64]; exact h1
          by_cases h2 : wrap64 (r0.page + r0.count) = x.2
          · have ep2 : IntKind.i64.wrap (r0.page + r0.count) = x.2 := by rw [w64]; exact h2
            rw [addRun_yes h1 h2] at HSN
            clear h1 h2
            refine region_stw_in (by kernel_rfl) (by kernel_rfl) (by kernel_rfl) ?_
            rintro U2 hU2
            have hd2 : Mod None_ U U2 := by rw [hU2]; exact (Mod.refl _ U).drew
            have hmU : m < U.heap.size := hv.lt
            replace hv := hv.mod hd2 id
            replace hown := own_mod hown hd2 (fun _ _ f => f)
            replace cl : U2.cell? ⟨m, 0, none⟩ = some _ := hv.cell 0
            have hbU : w3.heap.size ≤ U2.heap.size := Nat.le_trans hM.size hd2.size
            replace x0 := (World.cell?_of_block (hd2.block g hgl id)).trans x0
            replace x1 := (World.cell?_of_block (hd2.block g hgl id)).trans x1
            replace x2 := (World.cell?_of_block (hd2.block g hgl id)).trans x2
            replace hfz := (World.frozen?_of_block (hd2.block g hgl id)).trans hfz
            clear hU2
            repeat (refine stw_step (fun K hK => ?_); go_simp; refine hK _ ?_; clear hK K)
            refine stw_nil ?_
            have hset := own_last hown (by rw [HN'.out]) (wrap64 (r0.count + 1))
            obtain ⟨hown2, hm3⟩ := hset
            have HO2 := hide hown2
            have HM3 := hide hm3
            clear hown2 hm3
            gi_wp2
            refine ⟨hd2.keeps.trans (Mod.keepsIn HM3.out hv hown), (Mod.kpO hd2 (by have := hv.lt; omega) hmU).trans (kpO_own HM3.out hv (by omega)), _, hv.mod HM3.out (by omega), ?_, (hM.trans hd2.none).trans' HM3.out (fun k hk e => by omega)⟩
            rw [HSN.out]
            have e : (R' ++ [(⟨r0.off, r0.page, wrap64 (r0.count + 1)⟩ : RunD)]).length = n' + 1 := by rw [HN'.out]; simp
            rw [e]
            exact HO2.out
          · have ep2 : ¬ IntKind.i64.wrap (r0.page + r0.count) = x.2 := by rw [w64]; exact h2
            rw [addRun_no (fun h => h2 h.2)] at HSN
            clear h1 h2
            refine region_stw_in (by kernel_rfl) (by kernel_rfl) (by kernel_rfl) ?_
            rintro U2 hU2
            have hd2 : Mod None_ U U2 := by rw [hU2]; exact (Mod.refl _ U).drew
            have hmU : m < U.heap.size := hv.lt
            replace hv := hv.mod hd2 id
            replace hown := own_mod hown hd2 (fun _ _ f => f)
            replace cl : U2.cell? ⟨m, 0, none⟩ = some _ := hv.cell 0
            have hbU : w3.heap.size ≤ U2.heap.size := Nat.le_trans hM.size hd2.size
            replace x0 := (World.cell?_of_block (hd2.block g hgl id)).trans x0
            replace x1 := (World.cell?_of_block (hd2.block g hgl id)).trans x1
            replace x2 := (World.cell?_of_block (hd2.block g hgl id)).trans x2
            replace hfz := (World.frozen?_of_block (hd2.block g hgl id)).trans hfz
            clear hU2
            repeat (refine stw_step (fun K hK => ?_); go_simp; refine hK _ ?_; clear hK K)
            refine stw_nil ?_
            gi_wp2_with ((with_reducible refine at_slotIn 59 ?_); refine wpListIn_append_run rfl (.tmp 54) (.tmp 58) rfl U2 w3.heap.size (.slice (some ⟨g, 0, none⟩) (n' + 1) c) (R' ++ [r0]) ⟨x.1, x.2, 1⟩ rfl rfl U2.heap.size rfl rfl (by rw [eln]; exact hown) hbU (by rw [eln]; omega) ?_; intro v8 w8 hown8 hm8 hat8; obtain ⟨N8, hN8⟩ : ∃ N, N = ((R' ++ [r0]) ++ [(⟨x.1, x.2, 1⟩ : RunD)]).length := ⟨_, rfl⟩; rw [← hN8] at hown8; have HN8 := hide hN8; clear hN8; obtain ⟨A2, c2, rfl⟩ := own_slice hown8; go_frame
                         obtain ⟨k1, k2, k3, k4, k5⟩ := grown_keeps 30 73 3 (by omega) hbU hv hown hown8 hm8 hat8
                         have hv8 := hv.mod hm8 (fun e => by have := (own_blk hown e.symm).1; omega)
                         have cl8 : w8.cell? ⟨m, 0, none⟩ = some (.slice (some ⟨g, 0, none⟩) (n' + 1) c) := hv8.cell 0
                         have cf8 : w8.frozen? ⟨m, 0, none⟩ = false := hv8.frozen 0
                         have L1 := hide k1
                         have L2 := hide k2
                         have L3 := hide k3
                         have L4 := hide k4
                         have L5 := hide k5
                         clear k1 k2 k3 k4 k5 hown8 hm8 hat8 hv8)
            refine ⟨hd2.keeps.trans L1.out, (Mod.kpO hd2 (by have := hv.lt; omega) hmU).trans L2.out, _, L3.out, ?_, (hM.trans hd2.none).trans' L5.out (fun k hk e => by omega)⟩
            rw [HSN.out]
            have hL4 := L4.out
            rw [HN8.out] at hL4 ⊢
            exact hL4
        · have ep1 : ¬ IntKind.i64.wrap (r0.off + r0.count) = x.1 := by rw [w64]; exact h1
          rw [addRun_no (fun h => h1 h.1)] at HSN
          clear h1
          refine region_stw_in (by kernel_rfl) (by kernel_rfl) (by kernel_rfl) ?_
          rintro U2 hU2
          have hd2 : Mod None_ U U2 := by rw [hU2]; exact (Mod.refl _ U).drew
          have hmU : m < U.heap.size := hv.lt
          replace hv := hv.mod hd2 id
          replace hown := own_mod hown hd2 (fun _ _ f => f)
          replace cl : U2.cell? ⟨m, 0, none⟩ = some _ := hv.cell 0
          have hbU : w3.heap.size ≤ U2.heap.size := Nat.le_trans hM.size hd2.size
          replace x0 := (World.cell?_of_block (hd2.block g hgl id)).trans x0
          replace x1 := (World.cell?_of_block (hd2.block g hgl id)).trans x1
          replace x2 := (World.cell?_of_block (hd2.block g hgl id)).trans x2
          replace hfz := (World.frozen?_of_block (hd2.block g hgl id)).trans hfz
          clear hU2
          repeat (refine stw_step (fun K hK => ?_); go_simp; refine hK _ ?_; clear hK K)
          refine stw_nil ?_
          gi_wp2_with ((with_reducible refine at_slotIn 59 ?_); refine wpListIn_append_run rfl (.tmp 54) (.tmp 58) rfl U2 w3.heap.size (.slice (some ⟨g, 0, none⟩) (n' + 1) c) (R' ++ [r0]) ⟨x.1, x.2, 1⟩ rfl rfl U2.heap.size rfl rfl (by rw [eln]; exact hown) hbU (by rw [eln]; omega) ?_; intro v8 w8 hown8 hm8 hat8; obtain ⟨N8, hN8⟩ : ∃ N, N = ((R' ++ [r0]) ++ [(⟨x.1, x.2, 1⟩ : RunD)]).length := ⟨_, rfl⟩; rw [← hN8] at hown8; have HN8 := hide hN8; clear hN8; obtain ⟨A2, c2, rfl⟩ := own_slice hown8; go_frame
                       obtain ⟨k1, k2, k3, k4, k5⟩ := grown_keeps 30 73 3 (by omega) hbU hv hown hown8 hm8 hat8
                       have hv8 := hv.mod hm8 (fun e => by have := (own_blk hown e.symm).1; omega)
                       have cl8 : w8.cell? ⟨m, 0, none⟩ = some (.slice (some ⟨g, 0, none⟩) (n' + 1) c) := hv8.cell 0
                       have cf8 : w8.frozen? ⟨m, 0, none⟩ = false := hv8.frozen 0
                       have L1 := hide k1
                       have L2 := hide k2
                       have L3 := hide k3
                       have L4 := hide k4
                       have L5 := hide k5
                       clear k1 k2 k3 k4 k5 hown8 hm8 hat8 hv8)
          refine ⟨hd2.keeps.trans L1.out, (Mod.kpO hd2 (by have := hv.lt; omega) hmU).trans L2.out, _, L3.out, ?_, (hM.trans hd2.none).trans' L5.out (fun k hk e => by omega)⟩
          rw [HSN.out]
          have hL4 := L4.out
          rw [HN8.out] at hL4 ⊢
          exact hL4
  case rest =>
    rintro D U hD ⟨v, hv, hown, hM⟩ hdf
    obtain ⟨A, c, rfl⟩ := own_slice hown
    have cl : U.cell? ⟨m, 0, none⟩ = some (.slice A (runsOf P).length c) := hv.cell 0
    have hm3 : Mod (· = D) U (U.putObj D (.deferred none)) := (Mod.of_grown (grownBy_putObj' _ D _)).mono fun k _ e => by cases e; rfl
    have hfin : Mod None_ w (U.putObj D (.deferred none)) := ((hM3.trans' hM (fun k hk e => by omega))).trans' hm3 (fun k hk e => by have := hM3.size; omega)
    have hown2 := own_mod hown hm3 (fun g hg e => by
      subst e
      obtain ⟨_, cur, hh⟩ := own_blk hown hg
      rw [hdf] at hh; cases hh)
    have hown3 : (U.putObj D (.deferred none)).ownsRow w.heap.size 73 3 (.slice A (runsOf P).length c) (runsOf P).length (runCells (runsOf P)) := by
      refine ⟨hown2.1, ?_⟩
      rcases hown2.2 with h | ⟨g, cap, cur, h1, h2, h3⟩
      · exact .inl h
      · exact .inr ⟨g, cap, cur, h1, Nat.le_trans hM3.size h2, h3⟩
    rw [HP.out] at hown3 cl
    have HF := hide hfin
    have HO := hide hown3
    have HD := hide hdf
    clear hfin hown hown2 hown3 hm3 hM hv hst hdf b0 b1 b2
    dsimp only
    go_wp2
    refine ⟨by simp, .inl ⟨_, _, rfl, run_takeDeferred HD.out, ?_⟩⟩
    refine ⟨.slice A (runsOf (itemsOf f 0 512 0)).length c, ?_, _, rfl, HO.out, HF.out⟩
    simp [results, Tryz.results40, go_sem]
end Go.Proofs.YtabebkffcmajkaaGreatDoor

/-! Walk: radix.Load. -/
namespace Go.Proofs.YtabebkffcmajkaaGreatDoor
open Go.RowKit Go.Maps Go.Shelf

def I64 (n : Int) : Prop := -9223372036854775808 ≤ n ∧ n ≤ 9223372036854775807
def RunD.Ok (r : RunD) : Prop := I64 r.off ∧ I64 r.page ∧ I64 r.count
/-- a slice that reads as these runs -/
def RunsAt (w : World) (v : Value) (l : List RunD) : Prop :=
  ∃ A c, v = .slice A l.length c ∧ l.length ≤ c ∧ c ≤ maxLen ∧ l.length ≤ 5864062014805 ∧ (∀ r ∈ l, r.Ok) ∧ (0 < l.length → ∃ g o, A = some ⟨g, o, none⟩ ∧ g < w.heap.size ∧ ∀ i (h : i < l.length),
    w.cell? ⟨g, o + i * 3, none⟩ = some (.int .i64 l[i].off) ∧ w.cell? ⟨g, o + i * 3 + 1, none⟩ = some (.int .i64 l[i].page) ∧ w.cell? ⟨g, o + i * 3 + 2, none⟩ = some (.int .i64 l[i].count))
theorem RunsAt.kept {w w' : World} {v : Value} {l : List RunD} (h : RunsAt w v l) (hm : Mod None_ w w') : RunsAt w' v l := by
  obtain ⟨A, c, h1, h2, h3, h4, h5, h6⟩ := h
  refine ⟨A, c, h1, h2, h3, h4, h5, fun h0 => ?_⟩
  obtain ⟨g, o, e, hg, hc⟩ := h6 h0
  have hb := hm.block g hg id
  exact ⟨g, o, e, Nat.lt_of_lt_of_le hg hm.size, fun i hi => ⟨(World.cell?_of_block hb).trans (hc i hi).1, (World.cell?_of_block hb).trans (hc i hi).2.1, (World.cell?_of_block hb).trans (hc i hi).2.2⟩⟩

/-- a run's first i pages are set -/
def setN (f : Nat → Int) (o : Nat) (page : Int) : Nat → (Nat → Int)
  | 0 => f
  | i + 1 => setAt (setN f o page i) (o + i) (wrap64 (page + i))
def tableOf (l : List RunD) : Nat → Int := l.foldl (fun f r => setN f r.off.toNat r.page r.count.toNat) (fun _ => 0)
theorem tableOf_snoc (l : List RunD) (r : RunD) : tableOf (l ++ [r]) = setN (tableOf l) r.off.toNat r.page r.count.toNat := by unfold tableOf; rw [List.foldl_append]; rfl
/-- a run that Load takes -/
def okRun (r : RunD) : Bool := decide (1 ≤ r.count) && decide (1 ≤ r.page) && decide (0 ≤ r.off ∧ r.off < 512) && decide (r.count ≤ 512 - r.off)

theorem set_o (w : World) (t r : Nat) (mid leaf : Nat → Option Nat) (f : Nat → Int) (many v n : Int) (o : Nat) (h : RadixAt w t r mid leaf f many) (hn : n = o) (ho : o < 512) :
    Calls Tryz.prog 74 #[.pointer (some ⟨t, 0, none⟩), .int .i64 n, .int .i64 v] w (SetPost w t r mid leaf f o v) := by
  subst hn
  have := set_any w t r mid leaf f many v (o / 8) (o % 8) h (by omega) (by omega)
  have e : o / 8 * 8 + o % 8 = o := by omega
  rw [e] at this
  exact this

/-- the loop of Load, over one run's pages -/
def LoadIn (w : World) (mb : Nat) (f : Nat → Int) (x : RunD) (i : Nat) (wr : World) : Prop :=
  Blk wr mb 73 #[.int .i64 x.off, .int .i64 x.page, .int .i64 x.count] ∧ ∃ mid leaf many, RadixAt wr (w.heap.size + 1) w.heap.size mid leaf (setN f x.off.toNat x.page i) many ∧ (∀ g, TreeB (w.heap.size + 1) w.heap.size mid leaf g → w.heap.size ≤ g ∧ g ≠ mb) ∧ Mod None_ w wr
/-- what Load leaves -/
def LoadPost (w : World) (l : List RunD) : Ending → World → Prop := fun e w' =>
  if l.all okRun = true then ∃ t r mid leaf many, e = .returned (.tuple #[.pointer (some ⟨t, 0, none⟩), .int .i64 0]) ∧ RadixAt w' t r mid leaf (tableOf l) many ∧ (∀ g, TreeB t r mid leaf g → w.heap.size ≤ g) ∧ Mod None_ w w'
  else e = .returned (.tuple #[.pointer none, .int .i64 70]) ∧ Mod None_ w w'
/-- the loop of Load, over the runs -/
def LoadRel (w : World) (l : List RunD) (k : Nat) (wr : World) : Prop :=
  (l.take k).all okRun = true ∧ ∃ mid leaf many, RadixAt wr (w.heap.size + 1) w.heap.size mid leaf (tableOf (l.take k)) many ∧ (∀ g, TreeB (w.heap.size + 1) w.heap.size mid leaf g → w.heap.size ≤ g) ∧ Mod None_ w wr

set_option maxRecDepth 100000 in
set_option maxHeartbeats 4000000 in
theorem load_any (w : World) (v : Value) (l : List RunD) (h : RunsAt w v l) : Calls Tryz.prog 61 #[v] w (LoadPost w l) := by
  obtain ⟨A, c, rfl, hc1, hc2, hl, hok, hA⟩ := h
  have HOK := hide hok
  have HA := hide hA
  clear hok hA
  have hln : ∀ w, (Builtin.len_ #[30] 3 #[.slice A l.length c]).run Tryz.prog w = .ok (.int .i64 l.length) w := fun w => by simp [Builtin.len_, run_underlying Tryz.underlying30]; rfl
  go_enter Tryz.func61, Tryz.ntmps61
  go_wp2_with fail
  refine (rnew_any w).mono ?_
  rintro e w1 ⟨rfl, hR, hM⟩
  have h0 : LoadRel w l 0 w1 := ⟨rfl, none8, none8, 0, hR, (fun g hg => by
    rcases hg with rfl | rfl | ⟨k, _, hk⟩ | ⟨k, _, hk⟩
    · omega
    · exact Nat.le_refl _
    · cases hk
    · cases hk), hM⟩
  clear hR hM
  go_wp2_with fail
  go_loopw [11] (fun i wr => ∃ k : Nat, k ≤ l.length ∧ i = .int .i64 k ∧ LoadRel w l k wr) (fun i _ => l.length - (intOf i).toNat)
  case atStart => exact ⟨0, Nat.zero_le _, rfl, h0⟩
  case round =>
    obtain ⟨k, hk, rfl, hR⟩ := hrel
    clear h0
    by_cases hlt : k < l.length
    · have hki : (k : Int) < l.length := by omega
      obtain ⟨hall, mid, leaf, many, hT, hB, hM⟩ := hR
      obtain ⟨g, o, rfl, hg, hcell⟩ := HA.out (by omega)
      obtain ⟨x0, x1, x2⟩ := hcell k hlt
      obtain ⟨⟨ho1, ho2⟩, ⟨hp1, hp2⟩, hn1, hn2⟩ := HOK.out l[k] (List.getElem_mem hlt)
      have htk : l.take (k + 1) = l.take k ++ [l[k]] := List.take_succ_eq_append_getElem hlt
      obtain ⟨x, hx⟩ : ∃ x, x = l[k] := ⟨_, rfl⟩
      rw [← hx] at x0 x1 x2 ho1 ho2 hp1 hp2 hn1 hn2 htk
      replace x0 := (World.cell?_of_block (hM.block g hg id)).trans x0
      replace x1 := (World.cell?_of_block (hM.block g hg id)).trans x1
      replace x2 := (World.cell?_of_block (hM.block g hg id)).trans x2
      have HTL := hide (fun g (hg : TreeB (w.heap.size + 1) w.heap.size mid leaf g) => hT.lt hg)
      have HX := hide hx
      have HTK := hide htk
      have HALL := hide hall
      have HT := hide hT
      have HB := hide hB
      have HM := hide hM
      clear hx htk hall hT hB hM hcell
      go_upto_region 5 with fail
      obtain ⟨wa, hwa⟩ : ∃ wa, wa = wr.alloc (.cells #[.int .i64 x.off, .int .i64 x.page, .int .i64 x.count] 73) := ⟨_, rfl⟩
      obtain ⟨mb, hmb⟩ : ∃ mb, mb = wr.heap.size := ⟨_, rfl⟩
      rw [← hwa, ← hmb]
      have hBx : Blk wa mb 73 #[.int .i64 x.off, .int .i64 x.page, .int .i64 x.count] := by rw [hwa, hmb]; exact Blk.new wr _ _
      have hMa : Mod None_ wr wa := by rw [hwa]; exact (Mod.refl _ wr).alloc _
      have hmbw : wr.heap.size ≤ mb := by omega
      have y0 : wa.cell? ⟨mb, 0, none⟩ = some (.int .i64 x.off) := hBx.cell 0
      have y1 : wa.cell? ⟨mb, 1, none⟩ = some (.int .i64 x.page) := hBx.cell 1
      have y2 : wa.cell? ⟨mb, 2, none⟩ = some (.int .i64 x.count) := hBx.cell 2
      replace HT := hide (HT.out.kept hMa)
      replace HM := hide (HM.out.trans hMa)
      clear hwa hmb x0 x1 x2
      go_cut [36] from 15 to 36 (fun s wx => s = .bool (!okRun x) ∧ wx = wa)
      case first =>
        by_cases c1 : 1 ≤ x.count
        · by_cases c2 : 1 ≤ x.page
          · have ho := isOff_any x.off wa
            by_cases c3 : 0 ≤ x.off ∧ x.off < 512
            · rw [decide_eq_true c3] at ho
              have d1 : ¬ x.count < 1 := by omega
              have d2 : ¬ x.page < 1 := by omega
              obtain ⟨c3a, c3b⟩ := c3
              have hsub : 512 - x.off ≤ 512 := by omega
              by_cases c4 : x.count ≤ 512 - x.off
              · have d4 : decide (512 - x.off < x.count) = false := decide_eq_false (by omega)
                have e : okRun x = true := by simp [okRun, c1, c2, c3a, c3b, c4]
                have E := hide e
                have HO := hide ho
                clear e ho
                go_wp2_with fail
                refine Calls.mono HO.out ?_
                rintro e w2 ⟨rfl, rfl⟩
                go_wp2_with fail
                go_meet
                case rel => exact ⟨by rw [E.out]; rfl, rfl⟩
              · have d4 : decide (512 - x.off < x.count) = true := decide_eq_true (by omega)
                have e : okRun x = false := by simp [okRun]; intros; omega
                have E := hide e
                have HO := hide ho
                clear e ho
                go_wp2_with fail
                refine Calls.mono HO.out ?_
                rintro e w2 ⟨rfl, rfl⟩
                go_wp2_with fail
                go_meet
                case rel => exact ⟨by rw [E.out]; rfl, rfl⟩
            · rw [decide_eq_false c3] at ho
              have d1 : ¬ x.count < 1 := by omega
              have d2 : ¬ x.page < 1 := by omega
              have e : okRun x = false := by simp [okRun]; intros; omega
              have E := hide e
              have HO := hide ho
              clear e ho c3
              go_wp2_with fail
              refine Calls.mono HO.out ?_
              rintro e w2 ⟨rfl, rfl⟩
              go_wp2_with fail
              go_meet
              case rel => exact ⟨by rw [E.out]; rfl, rfl⟩
          · have d1 : ¬ x.count < 1 := by omega
            have d2 : x.page < 1 := by omega
            have e : okRun x = false := by simp [okRun]; intros; omega
            have E := hide e
            clear e
            go_wp2_with fail
            go_meet
            case rel => exact ⟨by rw [E.out]; rfl, rfl⟩
        · have d1 : x.count < 1 := by omega
          have e : okRun x = false := by simp [okRun]; intros; omega
          have E := hide e
          clear e
          go_wp2_with fail
          go_meet
          case rel => exact ⟨by rw [E.out]; rfl, rfl⟩
      case rest =>
        obtain ⟨rfl, rfl⟩ := hcut
        cases hokx : okRun x with
        | false =>
          have hfin : LoadPost w l (.returned (.tuple #[.pointer none, .int .i64 70])) wc := by
            unfold LoadPost
            rw [if_neg ?_]
            · exact ⟨rfl, HM.out⟩
            · intro e
              have := List.all_eq_true.1 e l[k] (List.getElem_mem hlt)
              rw [← HX.out, hokx] at this
              cases this
          have HF := hide hfin
          clear hfin hokx
          go_wp2
          go_ret2
          exact HF.out
        | true =>
          rw [show (!true) = false from rfl]
          have hok2 := hokx
          simp only [okRun, Bool.and_eq_true, decide_eq_true_eq] at hok2
          obtain ⟨⟨⟨q1, q2⟩, q3, q4⟩, q5⟩ := hok2
          obtain ⟨n, hn⟩ : ∃ n : Nat, x.count = n := ⟨x.count.toNat, by omega⟩
          obtain ⟨o1, ho1'⟩ : ∃ o1 : Nat, x.off = o1 := ⟨x.off.toNat, by omega⟩
          have hno : o1 + n ≤ 512 := by omega
          have hin0 : LoadIn w mb (tableOf (l.take k)) x 0 wc := ⟨hBx, mid, leaf, many, HT.out, fun g hg => ⟨HB.out g hg, fun e => by
            have := HTL.out g hg
            omega⟩, HM.out⟩
          have HN := hide hn
          have HO1 := hide ho1'
          have hto : x.off.toNat = o1 := by omega
          have HTO := hide hto
          have hni : (n : Int) ≤ 512 := by omega
          have hnx : x.count ≤ (n : Int) := by omega
          have hnx2 : (n : Int) ≤ x.count := by omega
          have hox : x.off ≤ (o1 : Int) := by omega
          have hox2 : (o1 : Int) ≤ x.off := by omega
          obtain ⟨wo, rfl⟩ : ∃ wo : World, wo = wr := ⟨_, rfl⟩
          clear hn ho1' hto HT HM HB hBx y0 y1
          go_wp2_with fail
          go_loopw [7, 39] (fun _ s wr => ∃ i : Nat, i ≤ n ∧ s = .int .i64 i ∧ LoadIn w mb (tableOf (l.take k)) x i wr) (fun _ s _ => n - (intOf s).toNat)
          case atStart => exact ⟨0, Nat.zero_le _, rfl, hin0⟩
          case round =>
            obtain ⟨i, hi, rfl, hB, mid2, leaf2, many2, hT, hTB, hM⟩ := hrel
            clear hin0
            have z0 : wr.cell? ⟨mb, 0, none⟩ = some (.int .i64 x.off) := hB.cell 0
            have z1 : wr.cell? ⟨mb, 1, none⟩ = some (.int .i64 x.page) := hB.cell 1
            by_cases hin : i < n
            · have hii : (i : Int) < x.count := by omega
              have hset := set_o wr _ _ _ _ _ _ (wrap64 (x.page + i)) (x.off + i) (o1 + i) hT (by rw [HO1.out]; push_cast; rfl) (by omega)
              have HS := hide hset
              have HB := hide hB
              have HTB := hide hTB
              have HM := hide hM
              clear hset hT hB hTB hM
              go_wp2_with fail
              refine Calls.mono HS.out ?_
              rintro e w5 ⟨mid3, leaf3, many3, rfl, hT3, hM3, hB3⟩
              have hlt5 := HB.out.lt
              have hnext : LoadIn w mb (tableOf (l.take k)) x (i + 1) w5 := by
                refine ⟨HB.out.mod hM3 (fun e => (HTB.out _ e).2 rfl), mid3, leaf3, many3, ?_, fun g hg => ?_, HM.out.trans' hM3 (fun g hg e => by have := (HTB.out g e).1; omega)⟩
                · show RadixAt w5 _ _ _ _ (setAt (setN (tableOf (l.take k)) x.off.toNat x.page i) (x.off.toNat + i) (wrap64 (x.page + i))) _
                  rw [HTO.out] at hT3 ⊢
                  exact hT3
                · rcases hB3 g hg with e | e
                  · exact HTB.out g e
                  · have := HM.out.size
                    have := e.2
                    exact ⟨by omega, by omega⟩
              have HNX := hide hnext
              clear hnext hT3 hM3 hB3
              go_wp2
              go_roundw
              case rel => exact ⟨i + 1, by omega, by simp, HNX.out⟩
              case measure => simp [intOf]; omega
            · obtain rfl : i = n := by omega
              have hii : x.count ≤ (i : Int) := by omega
              have hfin : LoadRel w l (k + 1) wr := by
                refine ⟨by rw [HTK.out, List.all_append, HALL.out]; simp [hokx], mid2, leaf2, many2, ?_, fun g hg => (hTB g hg).1, hM⟩
                rw [HTK.out, tableOf_snoc]
                have e : x.count.toNat = i := by omega
                rw [e]
                exact hT
              have HF := hide hfin
              clear hfin hT hTB hM hB hokx
              go_wp2
              go_roundw
              case rel => exact ⟨k + 1, by omega, by simp, HF.out⟩
              case measure => simp [intOf]; omega
    · obtain rfl : k = l.length := by omega
      obtain ⟨hall, mid, leaf, many, hT, hB, hM⟩ := hR
      rw [List.take_length] at hall hT
      have hfin : LoadPost w l (.returned (.tuple #[.pointer (some ⟨w.heap.size + 1, 0, none⟩), .int .i64 0])) wr := by
        unfold LoadPost
        rw [if_pos hall]
        exact ⟨_, _, _, _, _, rfl, hT, hB, hM⟩
      have HF := hide hfin
      clear hfin hall hT hB hM
      go_wp2
      go_ret2
      exact HF.out
end Go.Proofs.YtabebkffcmajkaaGreatDoor
