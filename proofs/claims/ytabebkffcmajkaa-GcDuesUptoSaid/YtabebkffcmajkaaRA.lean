import Derived.Test.YtabebkffcmajkaaH
import Derived.Test.YtabebkffcmajkaaK
import Derived.LoopN
/-! A tree of fan-out 8: how it lies in memory. -/
namespace Go.Proofs.Ytabebkffcmajkaa
open Go.RowKit Go.Maps

def ptrV (o : Option Nat) : Value := .pointer (o.map fun b => ⟨b, 0, none⟩)
/-- the cells of a part -/
def nodeCells (ch : Nat → Option Nat) (vs : Nat → Int) : Array Value :=
  #[ptrV (ch 0), ptrV (ch 1), ptrV (ch 2), ptrV (ch 3), ptrV (ch 4), ptrV (ch 5), ptrV (ch 6), ptrV (ch 7),
    .int .i64 (vs 0), .int .i64 (vs 1), .int .i64 (vs 2), .int .i64 (vs 3), .int .i64 (vs 4), .int .i64 (vs 5), .int .i64 (vs 6), .int .i64 (vs 7)]
def none8 : Nat → Option Nat := fun _ => none
def zero8 : Nat → Int := fun _ => 0
theorem nodeCells_ptr (ch : Nat → Option Nat) (vs : Nat → Int) {k : Nat} (h : k < 8) : (nodeCells ch vs)[k]? = some (ptrV (ch k)) := by
  match k, h with
  | 0, _ => rfl
  | 1, _ => rfl
  | 2, _ => rfl
  | 3, _ => rfl
  | 4, _ => rfl
  | 5, _ => rfl
  | 6, _ => rfl
  | 7, _ => rfl
theorem nodeCells_val (ch : Nat → Option Nat) (vs : Nat → Int) {k : Nat} (h : k < 8) : (nodeCells ch vs)[8 + k]? = some (.int .i64 (vs k)) := by
  match k, h with
  | 0, _ => rfl
  | 1, _ => rfl
  | 2, _ => rfl
  | 3, _ => rfl
  | 4, _ => rfl
  | 5, _ => rfl
  | 6, _ => rfl
  | 7, _ => rfl
def setAt {α : Type} (f : Nat → α) (k : Nat) (v : α) : Nat → α := fun i => if i = k then v else f i
theorem setAt_same {α : Type} (f : Nat → α) (k : Nat) (v : α) : setAt f k v k = v := by simp [setAt]
theorem setAt_ne {α : Type} (f : Nat → α) {k i : Nat} (v : α) (h : i ≠ k) : setAt f k v i = f i := by simp [setAt, h]
theorem nodeCells_setPtr (ch : Nat → Option Nat) (vs : Nat → Int) {k : Nat} (h : k < 8) (b : Option Nat) : (nodeCells ch vs).setIfInBounds k (ptrV b) = nodeCells (setAt ch k b) vs := by
  match k, h with
  | 0, _ => rfl
  | 1, _ => rfl
  | 2, _ => rfl
  | 3, _ => rfl
  | 4, _ => rfl
  | 5, _ => rfl
  | 6, _ => rfl
  | 7, _ => rfl
theorem nodeCells_setVal (ch : Nat → Option Nat) (vs : Nat → Int) {k : Nat} (h : k < 8) (v : Int) : (nodeCells ch vs).setIfInBounds (8 + k) (.int .i64 v) = nodeCells ch (setAt vs k v) := by
  match k, h with
  | 0, _ => rfl
  | 1, _ => rfl
  | 2, _ => rfl
  | 3, _ => rfl
  | 4, _ => rfl
  | 5, _ => rfl
  | 6, _ => rfl
  | 7, _ => rfl
theorem nodeCells_congr {ch ch' : Nat → Option Nat} {vs vs' : Nat → Int} (h : ∀ k, k < 8 → ch k = ch' k) (h' : ∀ k, k < 8 → vs k = vs' k) : nodeCells ch vs = nodeCells ch' vs' := by
  unfold nodeCells
  rw [h 0 (by omega), h 1 (by omega), h 2 (by omega), h 3 (by omega), h 4 (by omega), h 5 (by omega), h 6 (by omega), h 7 (by omega),
    h' 0 (by omega), h' 1 (by omega), h' 2 (by omega), h' 3 (by omega), h' 4 (by omega), h' 5 (by omega), h' 6 (by omega), h' 7 (by omega)]

/-- a part of level n that reads as the values f (of 8 ^ (n + 1) offsets), its blocks from lo on -/
def NodeR (w : World) (lo : Nat) : Nat → Nat → (Nat → Int) → Prop
  | 0, p, f => lo ≤ p ∧ Blk w p 93 (nodeCells none8 f)
  | n + 1, p, f => lo ≤ p ∧ ∃ ch, Blk w p 93 (nodeCells ch zero8) ∧ ∀ k, k < 8 →
      (ch k = none → ∀ i, i < 8 ^ (n + 1) → f (k * 8 ^ (n + 1) + i) = 0) ∧ (∀ q, ch k = some q → NodeR w lo n q (fun i => f (k * 8 ^ (n + 1) + i)))
theorem NodeR.mod {S : Nat → Prop} {w w' : World} {lo : Nat} (hm : Mod S w w') (hs : ∀ k, lo ≤ k → ¬ S k) : ∀ {n p : Nat} {f : Nat → Int}, NodeR w lo n p f → NodeR w' lo n p f
  | 0, _, _, h => ⟨h.1, h.2.mod hm (hs _ h.1)⟩
  | n + 1, _, _, h => by
    obtain ⟨h1, ch, h2, h3⟩ := h
    exact ⟨h1, ch, h2.mod hm (hs _ h1), fun k hk => ⟨(h3 k hk).1, fun q hq => NodeR.mod hm hs ((h3 k hk).2 q hq)⟩⟩
theorem NodeR.lo {w : World} {lo lo' : Nat} (hl : lo' ≤ lo) : ∀ {n p : Nat} {f : Nat → Int}, NodeR w lo n p f → NodeR w lo' n p f
  | 0, _, _, h => ⟨Nat.le_trans hl h.1, h.2⟩
  | n + 1, _, _, h => by
    obtain ⟨h1, ch, h2, h3⟩ := h
    exact ⟨Nat.le_trans hl h1, ch, h2, fun k hk => ⟨(h3 k hk).1, fun q hq => NodeR.lo hl ((h3 k hk).2 q hq)⟩⟩
theorem NodeR.le {w : World} {lo : Nat} : ∀ {n p : Nat} {f : Nat → Int}, NodeR w lo n p f → lo ≤ p
  | 0, _, _, h => h.1
  | _ + 1, _, _, h => h.1
/-- what keeps all blocks of cells from lo on keeps the part -/
theorem NodeR.keep {w w' : World} {lo : Nat} (hk : ∀ g t cs, lo ≤ g → Blk w g t cs → Blk w' g t cs) : ∀ {n p : Nat} {f : Nat → Int}, NodeR w lo n p f → NodeR w' lo n p f
  | 0, _, _, h => ⟨h.1, hk _ _ _ h.1 h.2⟩
  | n + 1, _, _, h => by
    obtain ⟨h1, ch, h2, h3⟩ := h
    exact ⟨h1, ch, hk _ _ _ h1 h2, fun k hk' => ⟨(h3 k hk').1, fun q hq => NodeR.keep hk ((h3 k hk').2 q hq)⟩⟩
theorem NodeR.congr {w : World} {lo : Nat} : ∀ {n p : Nat} {f g : Nat → Int}, (∀ i, i < 8 ^ (n + 1) → f i = g i) → NodeR w lo n p f → NodeR w lo n p g
  | 0, _, f, g, he, h => ⟨h.1, by rw [nodeCells_congr (fun _ _ => rfl) (vs' := f) (fun k hk => (he k (by simpa using hk)).symm)]; exact h.2⟩
  | n + 1, _, f, g, he, h => by
    obtain ⟨h1, ch, h2, h3⟩ := h
    have hp : 8 ^ (n + 1 + 1) = 8 ^ (n + 1) * 8 := by rw [Nat.pow_succ]
    have hlt : ∀ k i, k < 8 → i < 8 ^ (n + 1) → k * 8 ^ (n + 1) + i < 8 ^ (n + 1 + 1) := fun k i hk hi => by
      have : k * 8 ^ (n + 1) ≤ 7 * 8 ^ (n + 1) := Nat.mul_le_mul_right _ (by omega)
      omega
    exact ⟨h1, ch, h2, fun k hk => ⟨fun hn i hi => by rw [← he _ (hlt k i hk hi)]; exact (h3 k hk).1 hn i hi, fun q hq => NodeR.congr (fun i hi => he _ (hlt k i hk hi)) ((h3 k hk).2 q hq)⟩⟩

/-- the whole tree, to be written: its parts apart from one another -/
structure RadixAt (w : World) (t : Nat) (r : Nat) (mid leaf : Nat → Option Nat) (f : Nat → Int) (many : Int) : Prop where
  tree : Blk w t 80 #[.pointer (some ⟨r, 0, none⟩), .int .i64 many]
  root : Blk w r 93 (nodeCells mid zero8)
  mids : ∀ k m, k < 8 → mid k = some m → Blk w m 93 (nodeCells (fun j => leaf (k * 8 + j)) zero8)
  nomid : ∀ k j, k < 8 → j < 8 → mid k = none → leaf (k * 8 + j) = none
  leaves : ∀ q l, q < 64 → leaf q = some l → Blk w l 93 (nodeCells none8 (fun i => f (q * 8 + i)))
  noleaf : ∀ q i, q < 64 → i < 8 → leaf q = none → f (q * 8 + i) = 0
  leafInj : ∀ q q' l, q < 64 → q' < 64 → leaf q = some l → leaf q' = some l → q = q'
  midInj : ∀ k k' m, k < 8 → k' < 8 → mid k = some m → mid k' = some m → k = k'
  midLeaf : ∀ k q m, k < 8 → q < 64 → mid k = some m → leaf q = some m → False
  above : t < r ∨ r < t
  midAbove : ∀ k m, k < 8 → mid k = some m → m ≠ r ∧ m ≠ t
  leafAbove : ∀ q l, q < 64 → leaf q = some l → l ≠ r ∧ l ≠ t
/-- the blocks of a tree -/
def TreeB (t r : Nat) (mid leaf : Nat → Option Nat) : Nat → Prop := fun g => g = t ∨ g = r ∨ (∃ k, k < 8 ∧ mid k = some g) ∨ (∃ q, q < 64 ∧ leaf q = some g)
theorem RadixAt.lt {w : World} {t r : Nat} {mid leaf : Nat → Option Nat} {f : Nat → Int} {many : Int} (h : RadixAt w t r mid leaf f many) {g : Nat} (hg : TreeB t r mid leaf g) : g < w.heap.size := by
  rcases hg with rfl | rfl | ⟨k, hk, hm⟩ | ⟨q, hq, hl⟩
  · exact h.tree.lt
  · exact h.root.lt
  · exact (h.mids k g hk hm).lt
  · exact (h.leaves q g hq hl).lt
theorem RadixAt.mod {S : Nat → Prop} {w w' : World} {t r : Nat} {mid leaf : Nat → Option Nat} {f : Nat → Int} {many : Int} (h : RadixAt w t r mid leaf f many) (hm : Mod S w w') (hs : ∀ g, TreeB t r mid leaf g → ¬ S g) : RadixAt w' t r mid leaf f many :=
  ⟨h.tree.mod hm (hs _ (.inl rfl)), h.root.mod hm (hs _ (.inr (.inl rfl))), fun k m hk he => (h.mids k m hk he).mod hm (hs _ (.inr (.inr (.inl ⟨k, hk, he⟩)))), h.nomid,
    fun q l hq he => (h.leaves q l hq he).mod hm (hs _ (.inr (.inr (.inr ⟨q, hq, he⟩)))), h.noleaf, h.leafInj, h.midInj, h.midLeaf, h.above, h.midAbove, h.leafAbove⟩
theorem RadixAt.kept {w w' : World} {t r : Nat} {mid leaf : Nat → Option Nat} {f : Nat → Int} {many : Int} (h : RadixAt w t r mid leaf f many) (hm : Mod None_ w w') : RadixAt w' t r mid leaf f many := h.mod hm fun _ _ e => e
/-- read as a part of level 2 -/
theorem RadixAt.node {w : World} {t r : Nat} {mid leaf : Nat → Option Nat} {f : Nat → Int} {many : Int} (h : RadixAt w t r mid leaf f many) : NodeR w 0 2 r f := by
  refine ⟨Nat.zero_le _, mid, h.root, fun k hk => ⟨fun hn i hi => ?_, fun m hm => ⟨Nat.zero_le _, fun j => leaf (k * 8 + j), h.mids k m hk hm, fun j hj => ⟨fun hl i hi => ?_, fun l hl => ⟨Nat.zero_le _, ?_⟩⟩⟩⟩⟩
  · have hi' : i < 64 := by simpa using hi
    have e : k * 8 ^ (1 + 1) + i = (k * 8 + i / 8) * 8 + i % 8 := by simp; omega
    rw [e]
    exact h.noleaf _ _ (by omega) (by omega) (h.nomid k _ hk (by omega) hn)
  · have hi' : i < 8 := by simpa using hi
    have e : k * 8 ^ (1 + 1) + (j * 8 ^ (0 + 1) + i) = (k * 8 + j) * 8 + i := by simp; omega
    show f (k * 8 ^ (1 + 1) + (j * 8 ^ (0 + 1) + i)) = 0
    rw [e]
    exact h.noleaf _ _ (by omega) hi' hl
  · have := h.leaves (k * 8 + j) l (by omega) hl
    have e : nodeCells none8 (fun i => f ((k * 8 + j) * 8 + i)) = nodeCells none8 (fun i => f (k * 8 ^ (1 + 1) + (j * 8 ^ (0 + 1) + i))) := nodeCells_congr (fun _ _ => rfl) fun i _ => by
      show f _ = f _
      congr 1
      simp
      omega
    rw [← e]
    exact this
end Go.Proofs.Ytabebkffcmajkaa

/-! Walks: radix.New, isOff, leaf. -/
namespace Go.Proofs.Ytabebkffcmajkaa
open Go.RowKit Go.Maps

set_option maxRecDepth 100000 in
set_option maxHeartbeats 400000 in
theorem rnew_any (w : World) : Calls Try.prog 50 #[] w fun e w' => e = .returned (.pointer (some ⟨w.heap.size + 1, 0, none⟩)) ∧ RadixAt w' (w.heap.size + 1) w.heap.size none8 none8 (fun _ => 0) 0 ∧ Mod None_ w w' := by
  go_enter Try.func50, Try.ntmps50
  go_wp2
  go_ret
  refine ⟨rfl, ⟨?_, ?_, ?_, ?_, ?_, ?_, ?_, ?_, ?_, ?_, ?_, ?_⟩, ((Mod.refl _ w).alloc _).alloc _⟩
  · have := Blk.new (w.alloc (.cells (nodeCells none8 zero8) 93)) 80 #[.pointer (some ⟨w.heap.size, 0, none⟩), .int .i64 0]
    rw [alloc_size] at this
    exact this
  · exact (Blk.new w 93 (nodeCells none8 zero8)).alloc _
  · intro _ _ _ e; cases e
  · intros; rfl
  · intro _ _ _ e; cases e
  · intros; rfl
  · intro _ _ _ _ _ e; cases e
  · intro _ _ _ _ _ e; cases e
  · intro _ _ _ _ _ e; cases e
  · right; omega
  · intro _ _ _ e; cases e
  · intro _ _ _ e; cases e
theorem isOff_any (n : Int) (w : World) : Calls Try.prog 51 #[.int .i64 n] w fun e w' => e = .returned (.bool (decide (0 ≤ n ∧ n < 512))) ∧ w = w' := by
  by_cases h0 : 0 ≤ n
  · by_cases h1 : n < 512
    · rw [decide_eq_true ⟨h0, h1⟩]
      go_enter Try.func51, Try.ntmps51
      go_wp2
      go_ret
      simp
    · rw [decide_eq_false (fun h => h1 h.2)]
      have hd : decide (n < 512) = false := decide_eq_false h1
      go_enter Try.func51, Try.ntmps51
      go_wp2
      go_ret
      simp
  · rw [decide_eq_false (fun h => h0 h.1)]
    have hd : decide (0 ≤ n) = false := decide_eq_false h0
    go_enter Try.func51, Try.ntmps51
    go_wp2
    go_ret
    simp

section
variable {w : World} {t r : Nat} {mid leaf : Nat → Option Nat} {f : Nat → Int} {many : Int}
theorem RadixAt.cRoot (h : RadixAt w t r mid leaf f many) : w.cell? ⟨t, 0, none⟩ = some (.pointer (some ⟨r, 0, none⟩)) := h.tree.cell 0
theorem RadixAt.cMid (h : RadixAt w t r mid leaf f many) {k : Nat} (hk : k < 8) : w.cell? ⟨r, k, none⟩ = some (ptrV (mid k)) := by rw [h.root.cell, nodeCells_ptr _ _ hk]
theorem RadixAt.cLeaf (h : RadixAt w t r mid leaf f many) {k j m : Nat} (hk : k < 8) (hj : j < 8) (hm : mid k = some m) : w.cell? ⟨m, j, none⟩ = some (ptrV (leaf (k * 8 + j))) := by rw [(h.mids k m hk hm).cell, nodeCells_ptr _ _ hj]
end

set_option maxRecDepth 100000 in
set_option maxHeartbeats 1000000 in
theorem leaf_get (w : World) (t r : Nat) (mid leaf : Nat → Option Nat) (f : Nat → Int) (many off : Int) (k j : Nat) (h : RadixAt w t r mid leaf f many) (h0 : 0 ≤ off) (h1 : off < 512) (hk : k < 8) (hj : j < 8) (e1 : off / 64 % 8 = k) (e2 : off / 8 % 8 = j) :
    Calls Try.prog 62 #[.pointer (some ⟨t, 0, none⟩), .int .i64 off, .bool false] w fun e w' => e = .returned (ptrV (leaf (k * 8 + j))) ∧ w = w' := by
  have c0 := h.cRoot
  have c1 := h.cMid hk
  have hki : (k : Int) < 8 := by omega
  have hji : (j : Int) < 8 := by omega
  cases hm : mid k with
  | none =>
    have hl := h.nomid k j hk hj hm
    rw [hm] at c1
    have c1' : w.cell? ⟨r, k, none⟩ = some (.pointer none) := c1
    have HL := hide hl
    clear hl hm h c1
    go_enter Try.func62, Try.ntmps62
    go_wp2_with fail
    refine wp_loop_rounds 3 ?_
    rw [rounds_succ]
    go_wp2
    go_ret
    rw [HL.out]
    exact ⟨rfl, rfl⟩
  | some m =>
    have c2 := h.cLeaf hk hj hm
    rw [hm] at c1
    have c1' : w.cell? ⟨r, k, none⟩ = some (.pointer (some ⟨m, 0, none⟩)) := c1
    clear hm h c1
    generalize leaf (k * 8 + j) = x at c2 ⊢
    cases x with
    | none =>
      have c2' : w.cell? ⟨m, j, none⟩ = some (.pointer none) := c2
      clear c2
      go_enter Try.func62, Try.ntmps62
      go_wp2_with fail
      refine wp_loop_rounds 3 ?_
      rw [rounds_succ]
      go_wp2_with fail
      rw [rounds_succ]
      go_wp2
      go_ret
      exact ⟨rfl, rfl⟩
    | some l =>
      have c2' : w.cell? ⟨m, j, none⟩ = some (.pointer (some ⟨l, 0, none⟩)) := c2
      clear c2
      go_enter Try.func62, Try.ntmps62
      go_wp2_with fail
      refine wp_loop_rounds 3 ?_
      rw [rounds_succ]
      go_wp2_with fail
      rw [rounds_succ]
      go_wp2_with fail
      rw [rounds_succ]
      go_wp2
      go_ret
      exact ⟨rfl, rfl⟩

/-- what leaf leaves where it may grow: the part of the lowest level is there -/
def LeafPost (w : World) (t r : Nat) (mid leaf : Nat → Option Nat) (f : Nat → Int) (many : Int) (q : Nat) : Ending → World → Prop := fun e w' =>
  ∃ l mid' leaf', e = .returned (.pointer (some ⟨l, 0, none⟩)) ∧ RadixAt w' t r mid' leaf' f many ∧ leaf' q = some l ∧ Mod (TreeB t r mid leaf) w w' ∧ (∀ g, TreeB t r mid' leaf' g → TreeB t r mid leaf g ∨ w.heap.size ≤ g)
/-- a new part of the lowest level -/
theorem RadixAt.addLeaf {w w' : World} {t r : Nat} {mid leaf : Nat → Option Nat} {f : Nat → Int} {many : Int} (h : RadixAt w t r mid leaf f many) {k j m : Nat} (hk : k < 8) (hj : j < 8) (hm : mid k = some m) (hl : leaf (k * 8 + j) = none)
    (hw : w' = (w.alloc (.cells (nodeCells none8 zero8) 93)).setCell ⟨m, j, none⟩ (.pointer (some ⟨w.heap.size, 0, none⟩))) :
    RadixAt w' t r mid (setAt leaf (k * 8 + j) (some w.heap.size)) f many ∧ Mod (TreeB t r mid leaf) w w' ∧ (∀ g, TreeB t r mid (setAt leaf (k * 8 + j) (some w.heap.size)) g → TreeB t r mid leaf g ∨ w.heap.size ≤ g) := by
  have hM : Mod (· = m) w w' := by rw [hw]; exact ((Mod.refl (· = m) w).alloc _).setCell (p := ⟨m, j, none⟩) (.inr rfl) _
  have hmB : TreeB t r mid leaf m := .inr (.inr (.inl ⟨k, hk, hm⟩))
  have hma := h.midAbove k m hk hm
  have hmd := h.mids k m hk hm
  have hnew : Blk w' w.heap.size 93 (nodeCells none8 zero8) := by
    rw [hw]
    exact (Blk.new w 93 (nodeCells none8 zero8)).mod ((Mod.refl (· = m) _).setCell (p := ⟨m, j, none⟩) (.inr rfl) _) (by have := hmd.lt; omega)
  have hlt : ∀ {g}, TreeB t r mid leaf g → g < w.heap.size := fun hg => h.lt hg
  have hlf : ∀ q l, q < 64 → leaf q = some l → l < w.heap.size := fun q l hq he => hlt (.inr (.inr (.inr ⟨q, hq, he⟩)))
  have hmdl : ∀ k m, k < 8 → mid k = some m → m < w.heap.size := fun k m hk he => hlt (.inr (.inr (.inl ⟨k, hk, he⟩)))
  have htl := h.tree.lt
  have hrl := h.root.lt
  have hset : ∀ q l, q ≠ k * 8 + j → setAt leaf (k * 8 + j) (some w.heap.size) q = some l → leaf q = some l := fun q l hq he => by rwa [setAt_ne _ _ hq] at he
  have hsame : ∀ l, setAt leaf (k * 8 + j) (some w.heap.size) (k * 8 + j) = some l → l = w.heap.size := fun l he => by rw [setAt_same] at he; injection he with he; exact he.symm
  refine ⟨⟨h.tree.mod hM (by intro e; exact hma.2 e.symm), h.root.mod hM (by intro e; exact hma.1 e.symm), fun k' m' hk' he => ?_, fun k' j' hk' hj' hn => ?_, fun q l hq he => ?_, fun q i hq hi hn => ?_, fun q q' l hq hq' he he' => ?_, h.midInj, fun k' q m' hk' hq he he' => ?_, h.above, h.midAbove, fun q l hq he => ?_⟩,
    hM.mono (fun g _ e => by subst e; exact hmB), fun g hg => ?_⟩
  · by_cases e : k' = k
    · subst e
      rw [hm] at he
      injection he with he
      subst he
      have h2 : Blk w' m 93 ((nodeCells (fun j => leaf (k' * 8 + j)) zero8).setIfInBounds j (.pointer (some ⟨w.heap.size, 0, none⟩))) := by
        rw [hw]; exact (hmd.alloc _).set_ j _
      rw [show (Value.pointer (some ⟨w.heap.size, 0, none⟩)) = ptrV (some w.heap.size) from rfl, nodeCells_setPtr _ _ hj] at h2
      rw [nodeCells_congr (ch' := setAt (fun j => leaf (k' * 8 + j)) j (some w.heap.size)) (vs' := zero8) (fun i hi => ?_) (fun _ _ => rfl)]
      · exact h2
      · unfold setAt
        by_cases e2 : i = j
        · subst e2; simp
        · rw [if_neg e2, if_neg (by omega)]
    · have hne : m' ≠ m := fun e2 => e (h.midInj k' k m' hk' hk he (by rw [e2]; exact hm))
      have := (h.mids k' m' hk' he).mod hM hne
      rw [nodeCells_congr (ch' := fun j => leaf (k' * 8 + j)) (vs' := zero8) (fun i hi => setAt_ne _ _ (by omega)) (fun _ _ => rfl)]
      exact this
  · by_cases e : k' = k
    · subst e; rw [hm] at hn; cases hn
    · rw [setAt_ne _ _ (by omega)]; exact h.nomid k' j' hk' hj' hn
  · by_cases e : q = k * 8 + j
    · subst e
      rw [hsame l he, nodeCells_congr (ch' := none8) (vs' := zero8) (fun _ _ => rfl) (fun i hi => h.noleaf _ i hq hi hl)]
      exact hnew
    · have he' := hset q l e he
      exact (h.leaves q l hq he').mod hM (fun e2 => h.midLeaf k q m hk hq hm (by rw [he', e2]))
  · have e : q ≠ k * 8 + j := fun e => by subst e; rw [setAt_same] at hn; cases hn
    rw [setAt_ne _ _ e] at hn
    exact h.noleaf q i hq hi hn
  · by_cases e : q = k * 8 + j
    · by_cases e' : q' = k * 8 + j
      · omega
      · subst e
        have h1 := hsame l he
        have h2 := hlf q' l hq' (hset q' l e' he')
        omega
    · by_cases e' : q' = k * 8 + j
      · subst e'
        have h1 := hsame l he'
        have h2 := hlf q l hq (hset q l e he)
        omega
      · exact h.leafInj q q' l hq hq' (hset q l e he) (hset q' l e' he')
  · by_cases e : q = k * 8 + j
    · subst e
      have h1 := hsame m' he'
      have h2 := hmdl k' m' hk' he
      omega
    · exact h.midLeaf k' q m' hk' hq he (hset q m' e he')
  · by_cases e : q = k * 8 + j
    · subst e
      have h1 := hsame l he
      omega
    · exact h.leafAbove q l hq (hset q l e he)
  · rcases hg with rfl | rfl | hg | ⟨q, hq, he⟩
    · exact .inl (.inl rfl)
    · exact .inl (.inr (.inl rfl))
    · exact .inl (.inr (.inr (.inl hg)))
    · by_cases e : q = k * 8 + j
      · subst e; right; rw [hsame g he]; exact Nat.le_refl _
      · exact .inl (.inr (.inr (.inr ⟨q, hq, hset q g e he⟩)))
/-- a new part of the middle level -/
theorem RadixAt.addMid {w w' : World} {t r : Nat} {mid leaf : Nat → Option Nat} {f : Nat → Int} {many : Int} (h : RadixAt w t r mid leaf f many) {k : Nat} (hk : k < 8) (hm : mid k = none)
    (hw : w' = (w.alloc (.cells (nodeCells none8 zero8) 93)).setCell ⟨r, k, none⟩ (.pointer (some ⟨w.heap.size, 0, none⟩))) :
    RadixAt w' t r (setAt mid k (some w.heap.size)) leaf f many ∧ Mod (TreeB t r mid leaf) w w' ∧ (∀ g, TreeB t r (setAt mid k (some w.heap.size)) leaf g → TreeB t r mid leaf g ∨ w.heap.size ≤ g) := by
  have hM : Mod (· = r) w w' := by rw [hw]; exact ((Mod.refl (· = r) w).alloc _).setCell (p := ⟨r, k, none⟩) (.inr rfl) _
  have hrB : TreeB t r mid leaf r := .inr (.inl rfl)
  have hrd := h.root
  have hnew : Blk w' w.heap.size 93 (nodeCells none8 zero8) := by
    rw [hw]
    exact (Blk.new w 93 (nodeCells none8 zero8)).mod ((Mod.refl (· = r) _).setCell (p := ⟨r, k, none⟩) (.inr rfl) _) (by have := hrd.lt; omega)
  have hlt : ∀ {g}, TreeB t r mid leaf g → g < w.heap.size := fun hg => h.lt hg
  have hlf : ∀ q l, q < 64 → leaf q = some l → l < w.heap.size := fun q l hq he => hlt (.inr (.inr (.inr ⟨q, hq, he⟩)))
  have hmdl : ∀ k m, k < 8 → mid k = some m → m < w.heap.size := fun k m hk he => hlt (.inr (.inr (.inl ⟨k, hk, he⟩)))
  have htl := h.tree.lt
  have hrl := h.root.lt
  have habv := h.above
  have hset : ∀ q l, q ≠ k → setAt mid k (some w.heap.size) q = some l → mid q = some l := fun q l hq he => by rwa [setAt_ne _ _ hq] at he
  have hsame : ∀ l, setAt mid k (some w.heap.size) k = some l → l = w.heap.size := fun l he => by rw [setAt_same] at he; injection he with he; exact he.symm
  refine ⟨⟨h.tree.mod hM (by intro e; omega), ?_, fun k' m' hk' he => ?_, fun k' j' hk' hj' hn => ?_, fun q l hq he => ?_, h.noleaf, h.leafInj, fun k1 k2 m' hk1 hk2 he he' => ?_, fun k' q m' hk' hq he he' => ?_, h.above, fun k' m' hk' he => ?_, h.leafAbove⟩,
    hM.mono (fun g _ e => by subst e; exact hrB), fun g hg => ?_⟩
  · have h2 : Blk w' r 93 ((nodeCells mid zero8).setIfInBounds k (.pointer (some ⟨w.heap.size, 0, none⟩))) := by
      rw [hw]; exact (hrd.alloc _).set_ k _
    rw [show (Value.pointer (some ⟨w.heap.size, 0, none⟩)) = ptrV (some w.heap.size) from rfl, nodeCells_setPtr _ _ hk] at h2
    exact h2
  · by_cases e : k' = k
    · subst e
      rw [hsame m' he, nodeCells_congr (ch' := none8) (vs' := zero8) (fun j hj => h.nomid k' j hk hj hm) (fun _ _ => rfl)]
      exact hnew
    · have he' := hset k' m' e he
      exact (h.mids k' m' hk' he').mod hM (h.midAbove k' m' hk' he').1
  · by_cases e : k' = k
    · subst e; rw [setAt_same] at hn; cases hn
    · rw [setAt_ne _ _ e] at hn; exact h.nomid k' j' hk' hj' hn
  · exact (h.leaves q l hq he).mod hM (h.leafAbove q l hq he).1
  · by_cases e : k1 = k
    · by_cases e' : k2 = k
      · omega
      · subst e
        have h1 := hsame m' he
        have h2 := hmdl k2 m' hk2 (hset k2 m' e' he')
        omega
    · by_cases e' : k2 = k
      · subst e'
        have h1 := hsame m' he'
        have h2 := hmdl k1 m' hk1 (hset k1 m' e he)
        omega
      · exact h.midInj k1 k2 m' hk1 hk2 (hset k1 m' e he) (hset k2 m' e' he')
  · by_cases e : k' = k
    · subst e
      have h1 := hsame m' he
      have h2 := hlf q m' hq he'
      omega
    · exact h.midLeaf k' q m' hk' hq (hset k' m' e he) he'
  · by_cases e : k' = k
    · subst e
      have h1 := hsame m' he
      omega
    · exact h.midAbove k' m' hk' (hset k' m' e he)
  · rcases hg with rfl | rfl | ⟨k', hk', he⟩ | hg
    · exact .inl (.inl rfl)
    · exact .inl (.inr (.inl rfl))
    · by_cases e : k' = k
      · subst e; right; rw [hsame g he]; exact Nat.le_refl _
      · exact .inl (.inr (.inr (.inl ⟨k', hk', hset k' g e he⟩)))
    · exact .inl (.inr (.inr (.inr hg)))
end Go.Proofs.Ytabebkffcmajkaa
