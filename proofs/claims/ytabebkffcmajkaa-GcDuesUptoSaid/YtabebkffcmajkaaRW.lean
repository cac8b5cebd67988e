import Derived.Test.YtabebkffcmajkaaIN3
import Derived.Maps.AppendAt
/-! Rows of any kind of element: appended to, read as lists. -/
namespace Go.Proofs.Ytabebkffcmajkaa
open Go.RowKit Go.Maps Go.Shelf

def rowOf {α : Type} (enc : α → List Value) (l : List α) : List Value := l.flatMap enc
theorem rowOf_snoc {α : Type} (enc : α → List Value) (l : List α) (x : α) : rowOf enc (l ++ [x]) = rowOf enc l ++ enc x := by simp [rowOf]
theorem rowOf_length {α : Type} {enc : α → List Value} {sz : Nat} (he : ∀ x, (enc x).length = sz) (l : List α) : (rowOf enc l).length = l.length * sz := by
  induction l with
  | nil => simp [rowOf]
  | cons x l ih =>
    have e : rowOf enc (x :: l) = enc x ++ rowOf enc l := by simp [rowOf]
    rw [e, List.length_append, ih, he, List.length_cons, Nat.add_mul]
    omega
theorem rowOf_get {α : Type} {enc : α → List Value} {sz : Nat} (he : ∀ x, (enc x).length = sz) : ∀ (l : List α) (i : Nat) (h : i < l.length) (j : Nat), j < sz → (rowOf enc l)[i * sz + j]? = (enc l[i])[j]?
  | x :: l, 0, _, j, hj => by
    have e : rowOf enc (x :: l) = enc x ++ rowOf enc l := by simp [rowOf]
    rw [e, List.getElem?_append_left (by rw [he]; omega)]; simp
  | x :: l, i + 1, h, j, hj => by
    have e : rowOf enc (x :: l) = enc x ++ rowOf enc l := by simp [rowOf]
    have ih := rowOf_get he l i (by simpa using h) j hj
    rw [e, List.getElem?_append_right (by rw [he, Nat.add_mul]; omega), he]
    have e2 : (i + 1) * sz + j - sz = i * sz + j := by rw [Nat.add_mul]; omega
    rw [e2, ih]; simp
theorem list_of_ownRow {α : Type} {enc : α → List Value} {sz : Nat} (he : ∀ x, (enc x).length = sz) {w : World} {base : Nat} {e : TypeId} {v : Value} {l : List α} (h : w.ownsRow base e sz v l.length (rowOf enc l)) : ListAt enc sz w v l := by
  rcases h.2 with ⟨rfl, h0⟩ | ⟨g, cap, cur, rfl, hb, hg, hn, hc, hs, ht⟩
  · rw [← h0]; exact ⟨none, 0, by rw [h0], by omega, by unfold maxLen; omega, fun h => by omega⟩
  · refine ⟨_, cap, rfl, hn, hc, fun h0 => ⟨g, 0, rfl, (Array.getElem?_eq_some_iff.1 hg).1, fun i hi j u hj => ?_⟩⟩
    have hj2 : j < sz := by have := (List.getElem?_eq_some_iff.1 hj).1; rw [he] at this; exact this
    have x := h.cells (g := g) rfl (i * sz + j) u ((rowOf_get he l i hi j hj2).trans hj)
    simpa [Addr.add_lit] using x

theorem wpListIn_append_row {α : Type} (enc : α → List Value) (t e : TypeId) (z : Value) (sz bytes : Nat) (hu : Try.prog.underlying t = some (.slice e)) (hin : (Try.prog.info? e).map (fun i => (i.zero, i.size, i.bytes)) = some (some z, sz, bytes))
    (hzs : z.cells.size = sz) (hsz0 : 0 < sz) (he : ∀ x, (enc x).length = sz) (hone : ∀ x, ∀ u ∈ enc x, u.oneCell' = true)
    {F : Fence} {n : Nat} {ops : Array Oper} {rest : List Oper} {o : Oper} {a : Act} {w : World} {Q : Exit → Act → World → Prop} (hg : o.guard = none) (s x : Operand)
    (ho : o.op = .call { callee := .builtin .append, args := #[s, x], argTypes := #[t, t] }) (W : World) (base : Nat) (v : Value) (acc : List α) (p : α)
    (hw : w = W.alloc (.cells (enc p).toArray e)) (hs : a.eval s = v) (gx : Nat) (hgx : gx = W.heap.size) (hx : a.eval x = .slice (some ⟨gx, 0, none⟩) 1 1)
    (hown : W.ownsRow base e sz v acc.length (rowOf enc acc)) (hb : base ≤ W.heap.size) (hl : acc.length + 1 ≤ maxLen) (hl2 : (acc.length + 1) * bytes ≤ 140737488355328)
    (h : ∀ v' w', w'.ownsRow base e sz v' (acc ++ [p]).length (rowOf enc (acc ++ [p])) → Mod (fun k => some k = v.ownBlock) W w' → (v'.ownBlock = v.ownBlock ∨ v'.ownBlock = some (W.heap.size + 1)) → wpListIn F n Try.prog ops Q rest (a.put o.dst v') w') :
    wpListIn F n Try.prog ops Q (o :: rest) a w := by
  subst hgx
  obtain ⟨i0, hi, hz, hsz, hby⟩ := info_parts hin
  have hM : Mod None_ W w := by rw [hw]; exact (Mod.refl _ W).alloc _
  have hown1 := own_mod hown hM (fun _ _ f => f)
  have hB : Blk w W.heap.size e (enc p).toArray := by rw [hw]; exact Blk.new _ _ _
  obtain ⟨v', w', hrun, hown', hgr, _, hat⟩ := run_append_own_at (P := Try.prog) w base t o.type e i0 _ sz bytes hu hi hz hsz hby hzs hsz0 v acc.length _ hown1 ⟨W.heap.size, 0, none⟩ 1 1 (enc p) (by rw [he]; omega)
    (by
      intro j u hj
      rw [Addr.add_lit, Nat.zero_add, hB.cell]
      simpa using hj)
    (hone p) hl hl2 (by rw [hw, alloc_size]; omega)
  have hsw : w.heap.size = W.heap.size + 1 := by rw [hw, alloc_size]
  have ell : (acc ++ [p]).length = acc.length + 1 := by simp
  rw [← rowOf_snoc, ← ell] at hown'
  have hk := h v' w' hown' (hM.none.trans' (Mod.of_grown hgr) (fun k _ e => e)) (by rw [hsw] at hat; exact hat)
  refine wpListIn_plain hg fun K hK' => ?_
  unfold Oper.wpIn
  refine ⟨?_, ?_⟩
  · simp [Oper.about, ho, resolve, Target.leads, Sem.run_pure]
  · rw [Oper.semAt_plain F _ _ (by rw [ho]; intro c hc'; cases hc')]
    simp [execOp, ho, resolve, invoke, builtin, hs, hx, hrun, Result.andThen]
    exact hK' _ _ hk
theorem wpList_append_row {α : Type} (enc : α → List Value) (t e : TypeId) (z : Value) (sz bytes : Nat) (hu : Try.prog.underlying t = some (.slice e)) (hin : (Try.prog.info? e).map (fun i => (i.zero, i.size, i.bytes)) = some (some z, sz, bytes))
    (hzs : z.cells.size = sz) (hsz0 : 0 < sz) (he : ∀ x, (enc x).length = sz) (hone : ∀ x, ∀ u ∈ enc x, u.oneCell' = true)
    {ops : Array Oper} {rest : List Oper} {o : Oper} {a : Act} {w : World} {Q : Exit → Act → World → Prop} (hg : o.guard = none) (s x : Operand)
    (ho : o.op = .call { callee := .builtin .append, args := #[s, x], argTypes := #[t, t] }) (W : World) (base : Nat) (v : Value) (acc : List α) (p : α)
    (hw : w = W.alloc (.cells (enc p).toArray e)) (hs : a.eval s = v) (gx : Nat) (hgx : gx = W.heap.size) (hx : a.eval x = .slice (some ⟨gx, 0, none⟩) 1 1)
    (hown : W.ownsRow base e sz v acc.length (rowOf enc acc)) (hb : base ≤ W.heap.size) (hl : acc.length + 1 ≤ maxLen) (hl2 : (acc.length + 1) * bytes ≤ 140737488355328)
    (h : ∀ v' w', w'.ownsRow base e sz v' (acc ++ [p]).length (rowOf enc (acc ++ [p])) → Mod (fun k => some k = v.ownBlock) W w' → (v'.ownBlock = v.ownBlock ∨ v'.ownBlock = some (W.heap.size + 1)) → wpList Try.prog ops Q rest (a.put o.dst v') w') :
    wpList Try.prog ops Q (o :: rest) a w := by
  subst hgx
  obtain ⟨i0, hi, hz, hsz, hby⟩ := info_parts hin
  have hM : Mod None_ W w := by rw [hw]; exact (Mod.refl _ W).alloc _
  have hown1 := own_mod hown hM (fun _ _ f => f)
  have hB : Blk w W.heap.size e (enc p).toArray := by rw [hw]; exact Blk.new _ _ _
  obtain ⟨v', w', hrun, hown', hgr, _, hat⟩ := run_append_own_at (P := Try.prog) w base t o.type e i0 _ sz bytes hu hi hz hsz hby hzs hsz0 v acc.length _ hown1 ⟨W.heap.size, 0, none⟩ 1 1 (enc p) (by rw [he]; omega)
    (by
      intro j u hj
      rw [Addr.add_lit, Nat.zero_add, hB.cell]
      simpa using hj)
    (hone p) hl hl2 (by rw [hw, alloc_size]; omega)
  have hsw : w.heap.size = W.heap.size + 1 := by rw [hw, alloc_size]
  have ell : (acc ++ [p]).length = acc.length + 1 := by simp
  rw [← rowOf_snoc, ← ell] at hown'
  have hk := h v' w' hown' (hM.none.trans' (Mod.of_grown hgr) (fun k _ e => e)) (by rw [hsw] at hat; exact hat)
  refine wpList_plain hg fun K hK' => ?_
  unfold Oper.wp execOp
  simp only [ho, resolve, invoke, builtin, Sem.run_bind, Sem.run_pure, Result.andThen_ok, List.map_toArray, List.map_cons, List.map_nil, hs, hx, hrun]
  exact hK' _ _ hk
theorem mxw_append_row {α : Type} (enc : α → List Value) (t e : TypeId) (z : Value) (sz bytes : Nat) (hu : Try.prog.underlying t = some (.slice e)) (hin : (Try.prog.info? e).map (fun i => (i.zero, i.size, i.bytes)) = some (some z, sz, bytes))
    (hzs : z.cells.size = sz) (hsz0 : 0 < sz) (he : ∀ x, (enc x).length = sz) (hone : ∀ x, ∀ u ∈ enc x, u.oneCell' = true)
    {I : World → Prop} {Q : Act → World → Prop} {k : Nat} {o : Oper} {os : List Oper} {l : List (Bool × Nat)} {a : Act} {w : World} (hok : os[k]? = some o) (hg : o.guard = none) (s x : Operand)
    (ho : o.op = .call { callee := .builtin .append, args := #[s, x], argTypes := #[t, t] }) (W : World) (base : Nat) (v : Value) (acc : List α) (p : α)
    (hw : w = W.alloc (.cells (enc p).toArray e)) (hs : a.eval s = v) (gx : Nat) (hgx : gx = W.heap.size) (hx : a.eval x = .slice (some ⟨gx, 0, none⟩) 1 1)
    (hown : W.ownsRow base e sz v acc.length (rowOf enc acc)) (hb : base ≤ W.heap.size) (hl : acc.length + 1 ≤ maxLen) (hl2 : (acc.length + 1) * bytes ≤ 140737488355328)
    (h : ∀ v' w', w'.ownsRow base e sz v' (acc ++ [p]).length (rowOf enc (acc ++ [p])) → Mod (fun k => some k = v.ownBlock) W w' → (v'.ownBlock = v.ownBlock ∨ v'.ownBlock = some (W.heap.size + 1)) → I w' ∧ MxW Try.prog os.toArray I Q l (a.put o.dst v') w') :
    MxW Try.prog os.toArray I Q ((false, k) :: l) a w := by
  subst hgx
  obtain ⟨i0, hi, hz, hsz, hby⟩ := info_parts hin
  have hM : Mod None_ W w := by rw [hw]; exact (Mod.refl _ W).alloc _
  have hown1 := own_mod hown hM (fun _ _ f => f)
  have hB : Blk w W.heap.size e (enc p).toArray := by rw [hw]; exact Blk.new _ _ _
  obtain ⟨v', w', hrun, hown', hgr, _, hat⟩ := run_append_own_at (P := Try.prog) w base t o.type e i0 _ sz bytes hu hi hz hsz hby hzs hsz0 v acc.length _ hown1 ⟨W.heap.size, 0, none⟩ 1 1 (enc p) (by rw [he]; omega)
    (by
      intro j u hj
      rw [Addr.add_lit, Nat.zero_add, hB.cell]
      simpa using hj)
    (hone p) hl hl2 (by rw [hw, alloc_size]; omega)
  have hsw : w.heap.size = W.heap.size + 1 := by rw [hw, alloc_size]
  have ell : (acc ++ [p]).length = acc.length + 1 := by simp
  rw [← rowOf_snoc, ← ell] at hown'
  have hk := h v' w' hown' (hM.none.trans' (Mod.of_grown hgr) (fun k _ e => e)) (by rw [hsw] at hat; exact hat)
  refine mxw_val hok hg ?_ hk.1 hk.2
  unfold execOp
  simp only [ho, resolve, invoke, builtin, Sem.run_bind, Sem.run_pure, Result.andThen_ok, List.map_toArray, List.map_cons, List.map_nil, hs, hx, hrun]
/-- a list that lies in a variable of its own -/
def RowI {α : Type} (enc : α → List Value) (tS tE sz : Nat) (w0 : World) (bl : Nat) (l : List α) (W : World) : Prop :=
  ∃ v, Blk W bl tS #[v] ∧ W.ownsRow w0.heap.size tE sz v l.length (rowOf enc l) ∧ Mod (· = bl) w0 W
theorem RowI.grown {α : Type} {enc : α → List Value} {tS tE sz : Nat} {w0 : World} {bl : Nat} {l : List α} {A B : World} {row : Option Nat} (h : RowI enc tS tE sz w0 bl l A) (hbl : bl < w0.heap.size)
    (hg : A.grownBy B row) (hr : ∀ r, row = some r → w0.heap.size ≤ r ∧ ∃ o : Obj, A.heap[r]? = some o ∧ o.isCells = false) : RowI enc tS tE sz w0 bl l B := by
  obtain ⟨v, hv, hown, hM⟩ := h
  refine ⟨v, blk_of_grown_own hv hg hr (by omega), own_mod hown (Mod.of_grown hg) (fun g hg' e => ?_), mod_of_grown_own hM hg hr (Nat.le_refl _)⟩
  obtain ⟨_, o, ho, hoc⟩ := hr g e.symm
  obtain ⟨_, cur, hh⟩ := own_blk hown hg'
  rw [hh] at ho; cases ho; simp [Obj.isCells] at hoc
end Go.Proofs.Ytabebkffcmajkaa
