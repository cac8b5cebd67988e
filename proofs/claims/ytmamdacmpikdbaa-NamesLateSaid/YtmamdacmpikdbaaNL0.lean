import Derived.Test.YtmamdacmpikdbaaA3
import Derived.Test.YtmamdacmpikdbaaP7
import Derived.Test.YtmamdacmpikdbaaNK1
import Derived.Test.YtmamdacmpikdbaaSt
/-! What holds while NamesLate ranges over All. -/
namespace Go.Proofs.Ytmamdacmpikdbaa
open Go.RowKit Go.Maps Go.Shelf

theorem drop_eqL (w : World) (b : Nat) (R : List Row) (d : Int) (s : ByteArray) (hlen : R.length < 4611686018427387900) (hd : (Lit.int .i64 d).wf = true) (h : IndexAt w b R) :
    Calls Try.prog 25 #[.pointer (some ⟨b + 3, 0, none⟩), .int .i64 d, .string s] w fun e w' => e = .returned (.tuple #[.int .i64 (findIno R d s), .int .i64 (dropErr R d s)]) ∧ Mod (Ix b) w w' ∧ IndexAt w' b (dropRows R d s) := drop_any w b R d s hlen hd h
theorem get_eqL (w : World) (b : Nat) (R : List Row) (d : Int) (s : ByteArray) (z : Int) (hd : (Lit.int .i64 d).wf = true) (h : IndexAt w b R) (hz : findIno R d s = z) :
    Calls Try.prog 17 #[.pointer (some ⟨b + 3, 0, none⟩), .int .i64 d, .string s] w fun e w' => e = .returned (.int .i64 z) ∧ Mod None_ w w' := by rw [← hz]; exact get_any w b R d s hd h

/-- the rows when a round (number r) has gone over these pairs -/
def lateRows (r : Nat) (R : List Row) (d : Int) (pre : List (ByteArray × Int)) : List Row := if r = 0 ∧ mets pre ≠ 0 then dropRows R d mB else R
def LateS (b m : Nat) : Nat → Prop := fun k => Ix b k ∨ k = m + 1 ∨ k = m + 2
structure LateAt (r b m : Nat) (R : List Row) (d : Int) (w0 : World) (pre : List (ByteArray × Int)) (W : World) : Prop where
  seen : Blk W (m + 1) 3 #[.int .i64 pre.length]
  met : Blk W (m + 2) 3 #[.int .i64 (mets pre)]
  ix : IndexAt W b (lateRows r R d pre)
  mod : Mod (LateS b m) w0 W
theorem LateAt.grown {r b m : Nat} {R : List Row} {d : Int} {w0 : World} {pre : List (ByteArray × Int)} {A B : World} {row : Option Nat} (h : LateAt r b m R d w0 pre A) (hb : b + 4 ≤ w0.heap.size) (hm : m + 2 < w0.heap.size)
    (hg : A.grownBy B row) (hr : ∀ r, row = some r → w0.heap.size ≤ r ∧ ∃ o : Obj, A.heap[r]? = some o ∧ o.isCells = false) : LateAt r b m R d w0 pre B :=
  ⟨blk_of_grown_own h.seen hg hr (by omega), blk_of_grown_own h.met hg hr (by omega), h.ix.mod (Mod.of_grown hg) (fun k h1 h2 e => by have := (hr k e.symm).1; omega), mod_of_grown_own h.mod hg hr (Nat.le_refl _)⟩
def LateI (r b m : Nat) (R : List Row) (d : Int) (P : List (ByteArray × Int)) (w0 : World) (pre : List (ByteArray × Int)) (W : World) : Prop :=
  (pre <+: P ∧ (r = 1 → pre = [])) ∧ LateAt r b m R d w0 pre W
def LateX (r b m : Nat) (R : List Row) (d : Int) (P : List (ByteArray × Int)) (w0 : World) (c : Code) (pre : List (ByteArray × Int)) (W : World) : Prop :=
  (c = .ret ∧ ¬ pre <+: P) ∨ (c = .exit 2 ∧ r = 1 ∧ pre.length = 1 ∧ LateAt r b m R d w0 pre W)
def LateF (r b m : Nat) (R : List Row) (d : Int) (P : List (ByteArray × Int)) (w0 : World) (W : World) : Prop :=
  ∃ pre, pre <+: P ∧ (r = 1 → pre.length = min 1 P.length) ∧ (r ≠ 1 → pre = P) ∧ LateAt r b m R d w0 pre W
theorem late_next {P pre : List (ByteArray × Int)} {x : ByteArray × Int} (hpre : pre <+: P) (hlt : pre.length < P.length) (he : P[pre.length] = x) : pre ++ [x] <+: P := by
  obtain ⟨t, ht⟩ := hpre
  refine ⟨t.tail, ?_⟩
  cases t with
  | nil => simp at ht; rw [ht] at hlt; omega
  | cons y t =>
    have : P[pre.length] = y := by subst ht; simp
    subst ht
    rw [← he, this]
    simp
theorem late_no {P pre : List (ByteArray × Int)} {x : ByteArray × Int} (hlt : pre.length < P.length) (he : P[pre.length] ≠ x) : ¬ pre ++ [x] <+: P := fun hp => he (by
  have := hp.getElem (i := pre.length) (by simp)
  simpa using this.symm)
theorem mets_prefix {P pre : List (ByteArray × Int)} (h : pre <+: P) : mets pre ≤ mets P := by
  obtain ⟨t, rfl⟩ := h
  unfold mets
  rw [List.filter_append, List.length_append]
  omega
/-- the element of a slice in a variable that no round writes -/
theorem late_elem {b m lo n c : Nat} {A : Option Addr} {P : List (ByteArray × Int)} {w0 W : World} (hm : Mod (LateS b m) w0 W) (hD : Dents w0 lo (.slice A P.length c) P) (hlo : b + 4 ≤ lo) (b1 : Blk w0 (m + 1) 3 #[.int .i64 0]) (b2 : Blk w0 (m + 2) 3 #[.int .i64 0]) (hn : n < P.length) :
    ∃ g, A = some ⟨g, 0, none⟩ ∧ W.cell? ⟨g, n * 2, none⟩ = some (.string P[n].1) ∧ W.cell? ⟨g, n * 2 + 1, none⟩ = some (.int .i64 P[n].2) := by
  obtain ⟨_, _, hcv, _, _, hA⟩ := hD
  simp only [Value.slice.injEq, true_and] at hcv
  obtain ⟨rfl, rfl⟩ := hcv
  obtain ⟨g, rfl, hgl, hg, hcc⟩ := hA (by omega)
  have h1 := hcc _ _ (pairCells_fst P 0 (by omega))
  rw [Nat.zero_mul] at h1
  have hne : ¬ LateS b m g := by
    unfold LateS
    rintro (e | e | e)
    · unfold Ix at e; omega
    · subst e; rw [b1.cell 0] at h1; cases h1
    · subst e; rw [b2.cell 0] at h1; cases h1
  exact ⟨g, rfl, (World.cell?_of_block (hm.block g hg hne)).trans (hcc _ _ (pairCells_fst P n hn)), (World.cell?_of_block (hm.block g hg hne)).trans (hcc _ _ (pairCells_snd P n hn))⟩
theorem late_two {b m : Nat} {w0 W : World} {pre : List (ByteArray × Int)} {r : Nat} {R : List Row} {d : Int} {x : ByteArray × Int} (h : LateAt r b m R d w0 pre W) (hx : x.1 ≠ mB) (hlt : m + 2 < w0.heap.size) (hb : b + 4 ≤ m) :
    LateAt r b m R d w0 (pre ++ [x]) (W.setCell ⟨m + 1, 0, none⟩ (.int .i64 (pre.length + 1))) := by
  have hm : Mod (· = m + 1) W (W.setCell ⟨m + 1, 0, none⟩ (.int .i64 (pre.length + 1))) := (Mod.refl (· = m + 1) W).setCell (p := ⟨m + 1, 0, none⟩) (.inr rfl) _
  have e1 : (pre ++ [x]).length = pre.length + 1 := by simp
  have e2 : mets (pre ++ [x]) = mets pre := by rw [mets_snoc, if_neg hx]; rfl
  refine ⟨?_, ?_, ?_, h.mod.trans' hm (fun k _ e => .inr (.inl e))⟩
  · rw [e1]; simpa using h.seen.set_ 0 (.int .i64 (pre.length + 1))
  · rw [e2]; exact h.met.mod hm (by omega)
  · unfold lateRows; rw [e2]; exact h.ix.mod hm (fun k _ h e => by omega)
theorem late_three {b m : Nat} {w0 W : World} {pre : List (ByteArray × Int)} {r : Nat} {R : List Row} {d : Int} {x : ByteArray × Int} (h : LateAt r b m R d w0 pre W) (hx : x.1 = mB) (hlt : m + 2 < w0.heap.size) (hb : b + 4 ≤ m) :
    Blk ((W.setCell ⟨m + 2, 0, none⟩ (.int .i64 (mets pre + 1))).setCell ⟨m + 1, 0, none⟩ (.int .i64 (pre.length + 1))) (m + 1) 3 #[.int .i64 (pre ++ [x]).length] ∧
    Blk ((W.setCell ⟨m + 2, 0, none⟩ (.int .i64 (mets pre + 1))).setCell ⟨m + 1, 0, none⟩ (.int .i64 (pre.length + 1))) (m + 2) 3 #[.int .i64 (mets (pre ++ [x]))] ∧
    IndexAt ((W.setCell ⟨m + 2, 0, none⟩ (.int .i64 (mets pre + 1))).setCell ⟨m + 1, 0, none⟩ (.int .i64 (pre.length + 1))) b (lateRows r R d pre) ∧
    Mod (LateS b m) w0 ((W.setCell ⟨m + 2, 0, none⟩ (.int .i64 (mets pre + 1))).setCell ⟨m + 1, 0, none⟩ (.int .i64 (pre.length + 1))) ∧
    Mod (fun k => k = m + 1 ∨ k = m + 2) W ((W.setCell ⟨m + 2, 0, none⟩ (.int .i64 (mets pre + 1))).setCell ⟨m + 1, 0, none⟩ (.int .i64 (pre.length + 1))) := by
  obtain ⟨W1, hW1⟩ : ∃ W1, W1 = W.setCell ⟨m + 2, 0, none⟩ (.int .i64 (mets pre + 1)) := ⟨_, rfl⟩
  have hm1 : Mod (· = m + 2) W W1 := by rw [hW1]; exact (Mod.refl (· = m + 2) W).setCell (p := ⟨m + 2, 0, none⟩) (.inr rfl) _
  have hm : Mod (· = m + 1) W1 (W1.setCell ⟨m + 1, 0, none⟩ (.int .i64 (pre.length + 1))) := (Mod.refl (· = m + 1) W1).setCell (p := ⟨m + 1, 0, none⟩) (.inr rfl) _
  have e1 : (pre ++ [x]).length = pre.length + 1 := by simp
  have e2 : mets (pre ++ [x]) = mets pre + 1 := by rw [mets_snoc, if_pos hx]
  have hmet : Blk W1 (m + 2) 3 #[.int .i64 (mets pre + 1)] := by rw [hW1]; simpa using h.met.set_ 0 (.int .i64 (mets pre + 1))
  have hM : Mod (fun k => k = m + 1 ∨ k = m + 2) W (W1.setCell ⟨m + 1, 0, none⟩ (.int .i64 (pre.length + 1))) := (hm1.mono (T := fun k => k = m + 1 ∨ k = m + 2) fun k _ e => .inr e).trans' hm fun k _ e => .inl e
  rw [← hW1]
  refine ⟨?_, ?_, h.ix.mod hM (fun k _ h e => by omega), h.mod.trans' hM (fun k _ e => .inr e), hM⟩
  · rw [e1]; simpa using (h.seen.mod hm1 (by omega)).set_ 0 (.int .i64 (pre.length + 1))
  · rw [e2]; exact hmet.mod hm (by omega)
end Go.Proofs.Ytmamdacmpikdbaa
