import Derived.Test.YtmamdacmpikdbaaPL1
/-! The walk of upTo: four indexes and four references side by side. -/
namespace Go.Proofs.Ytmamdacmpikdbaa
open Go.RowKit Go.Maps
attribute [local go_sem] quietV loudUpon

def ptrI (b : Nat) : Value := .pointer (some ⟨b + 3, 0, none⟩)
def ptrR (y : Nat) : Value := .pointer (some ⟨y, 0, none⟩)
def arr4 (f : Nat → Value) (m : Nat) : Array Value := #[if 0 < m then f 0 else .pointer none, if 1 < m then f 1 else .pointer none, if 2 < m then f 2 else .pointer none, if 3 < m then f 3 else .pointer none]
structure Slot where
  b : Nat
  y : Nat
  R : List Row
  L : List Row
/-- the first m places of the two arrays are filled -/
structure Slots (lo : Nat) (w : World) (gx gy : Nat) (s : Nat → Slot) (m n : Nat) : Prop where
  bx : Blk w gx 70 (arr4 (fun i => ptrI (s i).b) m)
  by_ : Blk w gy 72 (arr4 (fun i => ptrR (s i).y) m)
  ix : ∀ i, i < m → IndexAt w (s i).b (s i).R
  rf : ∀ i, i < m → RefAt w (s i).y (s i).L
  rel : ∀ i, i < m → Rel (s i).R (s i).L
  apx : ∀ i j, i < m → j < m → i ≠ j → (s i).b + 4 ≤ (s j).b ∨ (s j).b + 4 ≤ (s i).b
  apy : ∀ i j, i < m → j < m → i ≠ j → (s i).y ≠ (s j).y
  len : ∀ i, i < m → (s i).R.length ≤ n
  lo : ∀ i, i < m → lo ≤ (s i).b ∧ lo ≤ (s i).y

theorem blk_not_ix {w : World} {g b : Nat} {t : TypeId} {cs : Array Value} {R : List Row} (h : Blk w g t cs) (ht : t ≠ 61) (hI : IndexAt w b R) : ¬ Ix b g := by
  intro hk
  unfold Blk at h
  unfold Ix at hk
  obtain ⟨es, c, h0, _⟩ := hI.inos.ex
  obtain ⟨l1, hl1, _⟩ := hI.names
  obtain ⟨es1, c1, h1, _⟩ := hl1.ex
  obtain ⟨l2, hl2, _⟩ := hI.links
  obtain ⟨es2, c2, h2, _⟩ := hl2.ex
  have h3 := hI.blk
  unfold Blk at h3
  have : g = b ∨ g = b + 1 ∨ g = b + 2 ∨ g = b + 3 := by omega
  rcases this with rfl | rfl | rfl | rfl
  · rw [h] at h0; cases h0
  · rw [h] at h1; cases h1
  · rw [h] at h2; cases h2
  · rw [h] at h3
    simp only [Option.some.injEq, Obj.cells.injEq] at h3
    exact ht h3.2.1
theorem blk_not_ref {w : World} {g y : Nat} {t : TypeId} {cs : Array Value} {L : List Row} (h : Blk w g t cs) (ht : t ≠ 81) (hR : RefAt w y L) : g ≠ y := by
  rintro rfl
  obtain ⟨v, hb, _⟩ := hR.ex
  unfold Blk at h hb
  rw [h] at hb
  simp only [Option.some.injEq, Obj.cells.injEq] at hb
  exact ht hb.2.1

section
variable {lo : Nat} {w w' : World} {gx gy : Nat} {s : Nat → Slot} {m n : Nat}
theorem Slots.kept (h : Slots lo w gx gy s m n) (hm : Mod None_ w w') : Slots lo w' gx gy s m n :=
  ⟨h.bx.mod hm id, h.by_.mod hm id, fun i hi => (h.ix i hi).kept hm, fun i hi => (h.rf i hi).kept hm, h.rel, h.apx, h.apy, h.len, h.lo⟩
theorem Slots.mono (h : Slots lo w gx gy s m n) {n' : Nat} (hn : n ≤ n') : Slots lo w gx gy s m n' :=
  ⟨h.bx, h.by_, h.ix, h.rf, h.rel, h.apx, h.apy, fun i hi => Nat.le_trans (h.len i hi) hn, h.lo⟩
theorem both_noRows (h : Slots lo w gx gy s m n) {k : Nat} (hk : k < m) : NoRows w (Both (s k).b (s k).y) := by
  intro g hg
  rcases hg with hg | hg
  · exact (h.ix k hk).noRows g hg
  · exact (h.rf k hk).noRows g hg
/-- behind a step on the place k -/
theorem Slots.step (h : Slots lo w gx gy s m n) {k : Nat} (hk : k < m) (hm : Mod (Both (s k).b (s k).y) w w') {R' L' : List Row} (hr : Rel R' L') (hI : IndexAt w' (s k).b R') (hR : RefAt w' (s k).y L') (hl : R'.length ≤ n + 1) :
    Slots lo w' gx gy (fun i => if i = k then ⟨(s k).b, (s k).y, R', L'⟩ else s i) m (n + 1) := by
  have hgx : ¬ Both (s k).b (s k).y gx := by
    rintro (e | e)
    · exact blk_not_ix h.bx (by decide) (h.ix k hk) e
    · exact blk_not_ref h.bx (by decide) (h.rf k hk) e
  have hgy : ¬ Both (s k).b (s k).y gy := by
    rintro (e | e)
    · exact blk_not_ix h.by_ (by decide) (h.ix k hk) e
    · exact blk_not_ref h.by_ (by decide) (h.rf k hk) e
  have eb : ∀ i, (if i = k then (⟨(s k).b, (s k).y, R', L'⟩ : Slot) else s i).b = (s i).b := fun i => by split <;> simp_all
  have ey : ∀ i, (if i = k then (⟨(s k).b, (s k).y, R', L'⟩ : Slot) else s i).y = (s i).y := fun i => by split <;> simp_all
  refine ⟨?_, ?_, fun i hi => ?_, fun i hi => ?_, fun i hi => ?_, fun i j hi hj hij => ?_, fun i j hi hj hij => ?_, fun i hi => ?_, fun i hi => ?_⟩
  · simp only [eb]; exact h.bx.mod hm hgx
  · simp only [ey]; exact h.by_.mod hm hgy
  · by_cases e : i = k
    · subst e; simpa using hI
    · rw [if_neg e]
      refine (h.ix i hi).mod hm fun g h1 h2 hg => ?_
      rcases hg with hg | hg
      · unfold Ix at hg
        rcases h.apx i k hi hk e with h3 | h3 <;> omega
      · exact (h.rf k hk).notIx (h.ix i hi) (by subst hg; exact ⟨h1, h2⟩)
  · by_cases e : i = k
    · subst e; simpa using hR
    · rw [if_neg e]
      refine (h.rf i hi).mod hm (both_noRows h hk) fun hg => ?_
      rcases hg with hg | hg
      · exact (h.rf i hi).notIx (h.ix k hk) hg
      · exact h.apy i k hi hk e hg
  · by_cases e : i = k
    · subst e; simpa using hr
    · rw [if_neg e]; exact h.rel i hi
  · rw [eb, eb]; exact h.apx i j hi hj hij
  · rw [ey, ey]; exact h.apy i j hi hj hij
  · by_cases e : i = k
    · subst e; simpa using hl
    · rw [if_neg e]; exact Nat.le_succ_of_le (h.len i hi)
  · rw [eb, ey]; exact h.lo i hi
theorem Slots.mod_none (h : Slots lo w gx gy s m n) {k : Nat} (hk : k < m) {w0 : World} (hw : Mod None_ w0 w) (hlo : w0.heap.size ≤ lo) (hm : Mod (Both (s k).b (s k).y) w w') : Mod None_ w0 w' :=
  hw.trans' hm fun g hg e => by
    have := h.lo k hk
    rcases e with e | e
    · unfold Ix at e; omega
    · omega
end
end Go.Proofs.Ytmamdacmpikdbaa
