import Derived.Deep.MidRow
import Derived.Deep.CutRange
import Derived.Test.YtabebkffcmajkaaGreatDoorG4
import Derived.Test.YtabebkffcmajkaaGreatDoorGA
import Derived.Test.YtabebkffcmajkaaGreatDoorG6
set_option linter.unusedVariables false
set_option linter.unusedSimpArgs false
/-! A row of slices. -/
namespace Go.Proofs.YtabebkffcmajkaaGreatDoor
open Go.RowKit Go.Maps Go.Shelf

def encSl (x : Option Addr × Nat × Nat) : List Value := [.slice x.1 x.2.1 x.2.2]
theorem oneSl : ∀ (x : Option Addr × Nat × Nat), ∀ u ∈ encSl x, u.oneCell' = true := by
  intro x u hu
  simp only [encSl, List.mem_singleton] at hu
  subst hu; rfl
end Go.Proofs.YtabebkffcmajkaaGreatDoor

/-! Rows of one's own: an element is written, one is appended and the old row still reads. -/
namespace Go.Proofs.YtabebkffcmajkaaGreatDoor
open Go.RowKit Go.Maps Go.Shelf
attribute [local go_sem] quietV loudUpon Oper.semAt_some

def setA : Nat → List Value → Array Value → Array Value
  | _, [], c => c
  | o, v :: vs, c => setA (o + 1) vs (c.setIfInBounds o v)
def setL {α : Type} : Nat → List α → List α → List α
  | _, [], c => c
  | o, v :: vs, c => setL (o + 1) vs (c.set o v)
theorem setA_size : ∀ (vs : List Value) (o : Nat) (c : Array Value), (setA o vs c).size = c.size
  | [], _, _ => rfl
  | v :: vs, o, c => by unfold setA; rw [setA_size vs]; simp
theorem setA_take : ∀ (vs : List Value) (o m : Nat) (c : Array Value), (setA o vs c).toList.take m = setL o vs (c.toList.take m)
  | [], _, _, _ => rfl
  | v :: vs, o, m, c => by unfold setA setL; rw [setA_take vs, Array.toList_setIfInBounds, List.take_set]
theorem setL_mid {α : Type} : ∀ (vs ys a b : List α), ys.length = vs.length → setL a.length vs (a ++ (ys ++ b)) = a ++ (vs ++ b)
  | [], ys, a, b, h => by
    obtain rfl : ys = [] := List.length_eq_zero_iff.1 h
    rfl
  | v :: vs, [], a, b, h => by simp at h
  | v :: vs, y :: ys, a, b, h => by
    have ih := setL_mid vs ys (a ++ [v]) b (by simpa using h)
    unfold setL
    have e : (a ++ ((y :: ys) ++ b)).set a.length v = (a ++ [v]) ++ (ys ++ b) := by
      rw [List.set_append_right _ _ (Nat.le_refl _), Nat.sub_self]; simp
    rw [e]
    simpa using ih
theorem rowOf_app {α : Type} (enc : α → List Value) (a b : List α) : rowOf enc (a ++ b) = rowOf enc a ++ rowOf enc b := by simp [rowOf]
theorem rowOf_set {α : Type} {enc : α → List Value} {sz : Nat} (he : ∀ x, (enc x).length = sz) (l : List α) (k : Nat) (hk : k < l.length) (x : α) : rowOf enc (l.set k x) = setL (k * sz) (enc x) (rowOf enc l) := by
  have e1 : l = l.take k ++ ([l[k]] ++ l.drop (k + 1)) := by
    rw [← List.append_assoc, ← List.take_succ_eq_append_getElem hk, List.take_append_drop]
  have hlt : (l.take k).length = k := by rw [List.length_take]; omega
  have e2 : l.set k x = l.take k ++ ([x] ++ l.drop (k + 1)) := by
    rw [List.set_eq_take_append_cons_drop, if_pos hk]; rfl
  have e3 : rowOf enc l = rowOf enc (l.take k) ++ (enc l[k] ++ rowOf enc (l.drop (k + 1))) := by
    conv => lhs; rw [e1]
    rw [rowOf_app, rowOf_app]
    simp [rowOf]
  have e4 : k * sz = (rowOf enc (l.take k)).length := by rw [rowOf_length he, hlt]
  rw [e2, e3, e4, setL_mid _ _ _ _ (by rw [he, he]), rowOf_app, rowOf_app]
  simp [rowOf]
theorem Blk.setCells_ {w : World} {g : Nat} {e : TypeId} : ∀ (vs : List Value) (o : Nat) (w : World) (cur : Array Value), Blk w g e cur → Blk (w.setCells g o vs) g e (setA o vs cur)
  | [], _, _, _, h => h
  | v :: vs, o, w, cur, h => by
    unfold World.setCells setA
    exact Blk.setCells_ (w := w) vs (o + 1) _ _ (h.set_ o v)
theorem own_set {α : Type} {enc : α → List Value} {sz : Nat} (he : ∀ x, (enc x).length = sz) {w : World} {b g c : Nat} {e : TypeId} {l : List α} (h : w.ownsRow b e sz (.slice (some ⟨g, 0, none⟩) l.length c) l.length (rowOf enc l)) {k : Nat} (hk : k < l.length) (x : α) :
    (w.setCells g (k * sz) (enc x)).ownsRow b e sz (.slice (some ⟨g, 0, none⟩) (l.set k x).length c) (l.set k x).length (rowOf enc (l.set k x)) ∧ Mod (· = g) w (w.setCells g (k * sz) (enc x)) := by
  have el : (l.set k x).length = l.length := by simp
  refine ⟨?_, Mod.setCells _ _ _ (Mod.refl _ _) (.inr rfl)⟩
  rw [el]
  rcases h.2 with ⟨h0, _⟩ | ⟨g', cap, cur, hv, hb, hg, hn, hc, hs, ht⟩
  · cases h0
  · simp only [Value.slice.injEq, Option.some.injEq, Addr.mk.injEq, true_and, and_true] at hv
    obtain ⟨rfl, rfl⟩ := hv
    have hB : Blk w g e cur := hg
    have hB2 := hB.setCells_ (w := w) (enc x) (k * sz)
    refine ⟨by rw [rowOf_length he, el], .inr ⟨g, c, _, rfl, hb, hB2, hn, hc, by rw [setA_size]; exact hs, ?_⟩⟩
    rw [setA_take, ht, rowOf_set he l k hk x]
theorem ListAt.frontB {α : Type} {enc : α → List Value} {sz : Nat} {w : World} {A : Option Addr} {c : Nat} {l m : List α} (h : ListAt enc sz w (.slice A (l ++ m).length c) (l ++ m)) : ListAt enc sz w (.slice A l.length c) l := by
  obtain ⟨A', c', e, h1, h2, h3⟩ := h
  simp only [Value.slice.injEq, true_and] at e
  obtain ⟨rfl, rfl⟩ := e
  have hlen : (l ++ m).length = l.length + m.length := by simp
  refine ⟨A, c, rfl, by omega, h2, fun h0 => ?_⟩
  obtain ⟨g, o, e2, hg, hc⟩ := h3 (by omega)
  refine ⟨g, o, e2, hg, fun i hi => ?_⟩
  have := hc i (by omega)
  rw [List.getElem_append_left hi] at this
  exact this
/-- behind an append the old row still reads -/
theorem append_old {α : Type} {enc : α → List Value} {t ty e : TypeId} {i0 : TypeInfo} {z : Value} {sz bytes : Nat} (he : ∀ x, (enc x).length = sz) (hsz0 : 0 < sz) (hu : Tryz.prog.underlying t = some (.slice e)) (hi : Tryz.prog.info? e = some i0) (hz : i0.zero = some z) (hsz : i0.size = sz) (hby : i0.bytes = bytes)
    {p : α} (hone : ∀ u ∈ enc p, u.oneCell' = true) {w w' : World} {base gx : Nat} {v v' : Value} {acc : List α} (hown : w.ownsRow base e sz v acc.length (rowOf enc acc))
    (hrun : (Builtin.append_ #[t, t] ty #[v, .slice (some ⟨gx, 0, none⟩) 1 1]).run Tryz.prog w = .ok v' w') (hown' : w'.ownsRow base e sz v' (acc ++ [p]).length (rowOf enc (acc ++ [p]))) (hgr : w.grownBy w' v.ownBlock)
    (hnews : ∀ (j : Nat) (u : Value), (enc p)[j]? = some u → w.cell? ((⟨gx, 0, none⟩ : Addr).add j) = some u) (hl : acc.length + 1 ≤ maxLen) (hl2 : (acc.length + 1) * bytes ≤ 140737488355328) : ListAt enc sz w' v acc ∧ ∀ g, v.ownBlock = some g → ∃ cur, w'.heap[g]? = some (.cells cur e (0, 0)) := by
  have hold := list_of_ownRow he hown
  rcases hown.2 with ⟨rfl, h0⟩ | ⟨g, cap, cur, rfl, hb, hg, hn, hc, hs, ht⟩
  · obtain rfl : acc = [] := List.length_eq_zero_iff.1 h0
    exact ⟨⟨none, 0, rfl, Nat.le_refl _, by unfold maxLen; omega, fun h => by simp at h⟩, fun g hg => by cases hg⟩
  · have hgl : g < w.heap.size := (Array.getElem?_eq_some_iff.1 hg).1
    have hlp : (enc p).length = 1 * i0.size := by rw [he, hsz]; omega
    by_cases hroom : acc.length + 1 ≤ cap
    · have hr := run_append_room (P := Tryz.prog) (w := w) t ty e i0 hu hi g acc.length cap cur hg ⟨gx, 0, none⟩ 1 1 (enc p) hlp hnews hone hroom (by rw [hsz, hs, he, ← Nat.succ_mul]; exact Nat.mul_le_mul_right _ hroom)
      obtain ⟨e1, _⟩ := Result.ok.inj (hrun.symm.trans hr)
      subst e1
      have h2 := list_of_ownRow he hown'
      have ell : (acc ++ [p]).length = acc.length + 1 := by simp
      have h3 : ListAt enc sz w' (.slice (some ⟨g, 0, none⟩) (acc ++ [p]).length cap) (acc ++ [p]) := by rw [ell]; exact h2
      exact ⟨h3.frontB, fun g2 hg2 => by cases hg2; obtain ⟨_, cur2, hh⟩ := own_blk hown' (g := g) rfl; exact ⟨cur2, hh⟩⟩
    · have hr := run_append_grow (P := Tryz.prog) (w := w) t ty e i0 z hu hi hz ⟨g, 0, none⟩ acc.length cap (rowOf enc acc) (by rw [hsz]; exact hown.1) (hown.cells (g := g) rfl) ⟨gx, 0, none⟩ 1 1 (enc p) hlp hnews (by omega) (by unfold maxLen at hl; omega) (growslice_fits (by omega) (by rw [hby]; exact hl2))
      obtain ⟨_, e2⟩ := Result.ok.inj (hrun.symm.trans hr)
      refine ⟨?_, fun g2 hg2 => by cases hg2; rw [e2]; exact ⟨cur, (Below.heap_alloc w.drew _ g hgl).trans hg⟩⟩
      obtain ⟨A, c, hv, h2, h3, h4⟩ := hold
      refine ⟨A, c, hv, h2, h3, fun h0 => ?_⟩
      obtain ⟨g2, o, rfl, hg2, hcell⟩ := h4 h0
      refine ⟨g2, o, rfl, Nat.lt_of_lt_of_le hg2 hgr.size, fun i hi j u hj => ?_⟩
      rw [e2]
      exact (World.cell?_of_block (Below.heap_alloc w.drew _ g2 hg2)).trans (hcell i hi j u hj)
theorem wpList_append_keep {α : Type} (enc : α → List Value) (t e : TypeId) (z : Value) (sz bytes : Nat) (hu : Tryz.prog.underlying t = some (.slice e)) (hin : (Tryz.prog.info? e).map (fun i => (i.zero, i.size, i.bytes)) = some (some z, sz, bytes))
    (hzs : z.cells.size = sz) (hsz0 : 0 < sz) (he : ∀ x, (enc x).length = sz) (hone : ∀ x, ∀ u ∈ enc x, u.oneCell' = true)
    {ops : Array Oper} {rest : List Oper} {o : Oper} {a : Act} {w : World} {Q : Exit → Act → World → Prop} (hg : o.guard = none) (s x : Operand)
    (ho : o.op = .call { callee := .builtin .append, args := #[s, x], argTypes := #[t, t] }) (W : World) (base : Nat) (v : Value) (acc : List α) (p : α)
    (hw : w = W.alloc (.cells (enc p).toArray e)) (hs : a.eval s = v) (gx : Nat) (hgx : gx = W.heap.size) (hx : a.eval x = .slice (some ⟨gx, 0, none⟩) 1 1)
    (hown : W.ownsRow base e sz v acc.length (rowOf enc acc)) (hb : base ≤ W.heap.size) (hl : acc.length + 1 ≤ maxLen) (hl2 : (acc.length + 1) * bytes ≤ 140737488355328)
    (h : ∀ v' w', w'.ownsRow base e sz v' (acc ++ [p]).length (rowOf enc (acc ++ [p])) → Mod (fun k => some k = v.ownBlock) W w' → (v'.ownBlock = v.ownBlock ∨ v'.ownBlock = some (W.heap.size + 1)) → ListAt enc sz w' v acc → (∀ g, v.ownBlock = some g → ∃ cur, w'.heap[g]? = some (.cells cur e (0, 0))) → wpList Tryz.prog ops Q rest (a.put o.dst v') w') :
    wpList Tryz.prog ops Q (o :: rest) a w := by
  subst hgx
  obtain ⟨i0, hi, hz, hsz, hby⟩ := info_parts hin
  have hM : Mod None_ W w := by rw [hw]; exact (Mod.refl _ W).alloc _
  have hown1 := own_mod hown hM (fun _ _ f => f)
  have hB : Blk w W.heap.size e (enc p).toArray := by rw [hw]; exact Blk.new _ _ _
  have hnews : ∀ (j : Nat) (u : Value), (enc p)[j]? = some u → w.cell? ((⟨W.heap.size, 0, none⟩ : Addr).add j) = some u := by
    intro j u hj
    rw [Addr.add_lit, Nat.zero_add, hB.cell]
    simpa using hj
  obtain ⟨v', w', hrun, hown', hgr, _, hat⟩ := run_append_own_at (P := Tryz.prog) w base t o.type e i0 _ sz bytes hu hi hz hsz hby hzs hsz0 v acc.length _ hown1 ⟨W.heap.size, 0, none⟩ 1 1 (enc p) (by rw [he]; omega)
    hnews
    (hone p) hl hl2 (by rw [hw, alloc_size]; omega)
  have hsw : w.heap.size = W.heap.size + 1 := by rw [hw, alloc_size]
  have ell : (acc ++ [p]).length = acc.length + 1 := by simp
  rw [← rowOf_snoc, ← ell] at hown'
  have hk := h v' w' hown' (hM.none.trans' (Mod.of_grown hgr) (fun k _ e => e)) (by rw [hsw] at hat; exact hat) (append_old he hsz0 hu hi hz hsz hby (hone p) hown1 hrun hown' hgr hnews hl hl2).1 (append_old he hsz0 hu hi hz hsz hby (hone p) hown1 hrun hown' hgr hnews hl hl2).2
  refine wpList_plain hg fun K hK' => ?_
  unfold Oper.wp execOp
  simp only [ho, resolve, invoke, builtin, Sem.run_bind, Sem.run_pure, Result.andThen_ok, List.map_toArray, List.map_cons, List.map_nil, hs, hx, hrun]
  exact hK' _ _ hk
end Go.Proofs.YtabebkffcmajkaaGreatDoor

/-! Lists that are kept in a book: what the book's rows of lists say. -/
namespace Go.Proofs.YtabebkffcmajkaaGreatDoor
open Go.RowKit Go.Maps Go.Shelf
attribute [local go_sem] quietV loudUpon Oper.semAt_some

def slV (x : Option Addr × Nat × Nat) : Value := .slice x.1 x.2.1 x.2.2
/-- a list's block: of its type, below the bound -/
def AtB (w : World) (e : TypeId) (b : Nat) (v : Value) : Prop := ∀ g, v.ownBlock = some g → g < b ∧ ∃ cur, w.heap[g]? = some (.cells cur e (0, 0))
/-- no block of type t -/
def NotT (w : World) (g : Nat) (t : TypeId) : Prop := ∀ cur, w.heap[g]? ≠ some (.cells cur t (0, 0))
theorem NotT.of {w : World} {g : Nat} {t t2 : TypeId} {cur : Array Value} (h : w.heap[g]? = some (.cells cur t (0, 0))) (hn : t ≠ t2) : NotT w g t2 := fun c e => by
  rw [h] at e; cases e; exact hn rfl
theorem AtB.mod {S : Nat → Prop} {w w' : World} {e : TypeId} {b : Nat} {v : Value} (h : AtB w e b v) (hm : Mod S w w') (hs : ∀ g, S g → b ≤ g ∨ NotT w g e) : AtB w' e b v := fun g hg => by
  obtain ⟨h1, cur, h2⟩ := h g hg
  refine ⟨h1, cur, ?_⟩
  rw [hm.block g (Array.getElem?_eq_some_iff.1 h2).1 (fun hS => by rcases hs g hS with h3 | h3; · omega
                                                                   · exact h3 _ h2)]
  exact h2
theorem AtB.up {w : World} {e : TypeId} {b b' : Nat} {v : Value} (h : AtB w e b v) (hb : b ≤ b') : AtB w e b' v := fun g hg => ⟨Nat.lt_of_lt_of_le (h g hg).1 hb, (h g hg).2⟩
theorem AtB.here {w : World} {e : TypeId} {b : Nat} {v : Value} (h : AtB w e b v) : AtB w e w.heap.size v := fun g hg => by
  obtain ⟨_, cur, h2⟩ := h g hg
  exact ⟨(Array.getElem?_eq_some_iff.1 h2).1, cur, h2⟩
theorem AtB.of_own {w : World} {base sz n : Nat} {e : TypeId} {v : Value} {xs : List Value} (h : w.ownsRow base e sz v n xs) : AtB w e w.heap.size v := fun g hg => by
  obtain ⟨_, cur, h2⟩ := own_blk h hg
  exact ⟨(Array.getElem?_eq_some_iff.1 h2).1, cur, h2⟩

structure Pr {α : Type} (enc : α → List Value) (sz : Nat) (e tS : TypeId) (mk : Int → α) (w : World) (b : Nat) (va vb : Value) (A M : List (Option Addr × Nat × Nat)) : Prop where
  ra : w.ownsRow 0 tS 1 va A.length (rowOf encSl A)
  rb : w.ownsRow 0 tS 1 vb M.length (rowOf encSl M)
  ap : ∀ g, va.ownBlock = some g → vb.ownBlock = some g → False
  ls : ∀ i (h : i < A.length) (h' : i < M.length), ListAt enc sz w (slV A[i]) (List.replicate A[i].2.1 (mk (i + 1))) ∧ ListAt enc sz w (slV M[i]) (List.replicate A[i].2.1 (mk (i + 1)) ++ [mk (-(i + 1))])
  ta : ∀ x ∈ A, AtB w e b (slV x)
  tb : ∀ x ∈ M, AtB w e b (slV x)

variable {α : Type} {enc : α → List Value} {sz : Nat} {e tS : TypeId} {mk : Int → α} {w w' : World} {b : Nat} {va vb : Value} {A M : List (Option Addr × Nat × Nat)}
theorem Pr.lists (h : Pr enc sz e tS mk w b va vb A M) {S : Nat → Prop} (hm : Mod S w w') (hS : ∀ g, S g → b ≤ g ∨ NotT w g e) :
    (∀ i (h : i < A.length) (h' : i < M.length), ListAt enc sz w' (slV A[i]) (List.replicate A[i].2.1 (mk (i + 1))) ∧ ListAt enc sz w' (slV M[i]) (List.replicate A[i].2.1 (mk (i + 1)) ++ [mk (-(i + 1))])) ∧ (∀ x ∈ A, AtB w' e b (slV x)) ∧ (∀ x ∈ M, AtB w' e b (slV x)) := by
  refine ⟨fun i hi hi' => ?_, fun x hx => (h.ta x hx).mod hm hS, fun x hx => (h.tb x hx).mod hm hS⟩
  obtain ⟨l1, l2⟩ := h.ls i hi hi'
  have key : ∀ v, AtB w e b v → ∀ g, v.ownBlock = some g → ¬ S g := fun v hv g hg hSg => by
    obtain ⟨h1, cur, h2⟩ := hv g hg
    rcases hS g hSg with h3 | h3
    · omega
    · exact h3 _ h2
  exact ⟨l1.modX hm fun _ => key _ (h.ta _ (List.getElem_mem hi)), l2.modX hm fun _ => key _ (h.tb _ (List.getElem_mem hi'))⟩
theorem Pr.mod (h : Pr enc sz e tS mk w b va vb A M) {S : Nat → Prop} (hm : Mod S w w') (hS : ∀ g, S g → NotT w g tS ∧ (b ≤ g ∨ NotT w g e)) : Pr enc sz e tS mk w' b va vb A M := by
  obtain ⟨h1, h2, h3⟩ := h.lists hm fun g hg => (hS g hg).2
  exact ⟨own_mod h.ra hm (fun g hg hs => by obtain ⟨_, cur, hh⟩ := own_blk h.ra hg; exact (hS g hs).1 _ hh), own_mod h.rb hm (fun g hg hs => by obtain ⟨_, cur, hh⟩ := own_blk h.rb hg; exact (hS g hs).1 _ hh), h.ap, h1, h2, h3⟩
theorem Pr.kept (h : Pr enc sz e tS mk w b va vb A M) (hm : Mod None_ w w') : Pr enc sz e tS mk w' b va vb A M := h.mod hm fun _ f => f.elim
theorem Pr.up (h : Pr enc sz e tS mk w b va vb A M) {b' : Nat} (hb : b ≤ b') : Pr enc sz e tS mk w b' va vb A M :=
  ⟨h.ra, h.rb, h.ap, h.ls, fun x hx => (h.ta x hx).up hb, fun x hx => (h.tb x hx).up hb⟩
theorem Pr.here (h : Pr enc sz e tS mk w b va vb A M) : Pr enc sz e tS mk w w.heap.size va vb A M :=
  ⟨h.ra, h.rb, h.ap, h.ls, fun x hx => (h.ta x hx).here, fun x hx => (h.tb x hx).here⟩
theorem Pr.grow (h : Pr enc sz e tS mk w b va vb A M) {S : Nat → Prop} (hm : Mod S w w') (hS : ∀ g, S g → b ≤ g ∨ NotT w g e) {va' vb' : Value} {s t : Option Addr × Nat × Nat} (ha : w'.ownsRow 0 tS 1 va' (A ++ [s]).length (rowOf encSl (A ++ [s]))) (hb : w'.ownsRow 0 tS 1 vb' (M ++ [t]).length (rowOf encSl (M ++ [t])))
    (hap : ∀ g, va'.ownBlock = some g → vb'.ownBlock = some g → False) (hs : AtB w' e w'.heap.size (slV s)) (ht : AtB w' e w'.heap.size (slV t)) (hlen : A.length = M.length) {x y : Int} (hx : x = A.length + 1) (hy : y = -x)
    (hl1 : ListAt enc sz w' (slV s) (List.replicate s.2.1 (mk x))) (hl2 : ListAt enc sz w' (slV t) (List.replicate s.2.1 (mk x) ++ [mk y])) : Pr enc sz e tS mk w' w'.heap.size va' vb' (A ++ [s]) (M ++ [t]) := by
  obtain ⟨h1, h2, h3⟩ := h.lists hm hS
  subst hy
  subst hx
  refine ⟨ha, hb, hap, fun i hi hi' => ?_, fun x hx => ?_, fun x hx => ?_⟩
  · have e1 : (A ++ [s]).length = A.length + 1 := by simp
    by_cases hc : i < A.length
    · have := h1 i hc (by omega)
      rw [List.getElem_append_left hc, List.getElem_append_left (by omega)]
      exact this
    · obtain rfl : i = A.length := by omega
      rw [List.getElem_append_right (Nat.le_refl _), List.getElem_append_right (by omega)]
      simp only [List.getElem_singleton]
      exact ⟨hl1, hl2⟩
  · rcases List.mem_append.1 hx with hx | hx
    · exact (h2 x hx).here
    · obtain rfl := List.mem_singleton.1 hx
      exact hs
  · rcases List.mem_append.1 hx with hx | hx
    · exact (h3 x hx).here
    · obtain rfl := List.mem_singleton.1 hx
      exact ht
/-- blocks of two types are two blocks -/
theorem apart_of {g g' : Nat} {W : World} {c1 c2 : Array Value} {t1 t2 : TypeId} (h1 : W.heap[g]? = some (.cells c1 t1 (0, 0))) (h2 : W.heap[g']? = some (.cells c2 t2 (0, 0))) (hn : t1 ≠ t2) : g ≠ g' := fun e => by
  subst e
  rw [h1] at h2; cases h2; exact hn rfl
theorem own_apart {W : World} {b1 z1 n1 b2 z2 n2 : Nat} {t1 t2 : TypeId} {u v : Value} {xs ys : List Value} (h1 : W.ownsRow b1 t1 z1 u n1 xs) (h2 : W.ownsRow b2 t2 z2 v n2 ys) (hn : t1 ≠ t2) : ∀ g, u.ownBlock = some g → ¬ v.ownBlock = some g := fun g hg hg' => by
  obtain ⟨_, _, e1⟩ := own_blk h1 hg
  obtain ⟨_, _, e2⟩ := own_blk h2 hg'
  exact apart_of e1 e2 hn rfl
theorem own_blk_apart {W : World} {b1 z1 n1 q : Nat} {t1 t2 : TypeId} {u : Value} {xs : List Value} {cur : Array Value} (h1 : W.ownsRow b1 t1 z1 u n1 xs) (h2 : Blk W q t2 cur) (hn : t1 ≠ t2) : ¬ u.ownBlock = some q := fun hg => by
  obtain ⟨_, _, e1⟩ := own_blk h1 hg
  exact apart_of e1 h2 hn rfl
/-- the first k written over -/
def over {β : Type} (x : β) (k : Nat) (l : List β) : List β := List.replicate k x ++ l.drop k
theorem over_zero {β : Type} (x : β) (l : List β) : over x 0 l = l := by simp [over]
theorem over_length {β : Type} (x : β) {k : Nat} (l : List β) (hk : k ≤ l.length) : (over x k l).length = l.length := by
  unfold over; rw [List.length_append, List.length_replicate, List.length_drop]; omega
theorem over_all {β : Type} (x : β) (l : List β) : over x l.length l = List.replicate l.length x := by simp [over]
theorem over_succ {β : Type} (x : β) {k : Nat} (l : List β) (hk : k < l.length) : (over x k l).set k x = over x (k + 1) l := by
  unfold over
  rw [List.set_append_right _ _ (by simp), List.length_replicate, Nat.sub_self, List.drop_eq_getElem_cons hk, List.replicate_succ', List.append_assoc]
  rfl
theorem own_at {β : Type} {en : β → List Value} {s : Nat} (he : ∀ x, (en x).length = s) {W : World} {base : Nat} {t : TypeId} {v : Value} {l : List β} (h : W.ownsRow base t s v l.length (rowOf en l)) {k : Nat} (hk : k < l.length) :
    ∃ g c cur, v = .slice (some ⟨g, 0, none⟩) l.length c ∧ base ≤ g ∧ Blk W g t cur ∧ l.length ≤ c ∧ c ≤ maxLen ∧ (∀ i, W.frozen? ⟨g, i, none⟩ = false) ∧ ∀ (j : Nat) (u : Value), (en l[k])[j]? = some u → W.cell? ⟨g, k * s + j, none⟩ = some u := by
  have hA := list_of_ownRow he h
  rcases h.2 with ⟨_, h0⟩ | ⟨g, cap, cur, rfl, hb, hg, hn, hc, hs, ht⟩
  · omega
  · have hB : Blk W g t cur := hg
    refine ⟨g, cap, cur, rfl, hb, hB, hn, hc, fun i => hB.frozen i, fun j u hj => ?_⟩
    obtain ⟨_, _, hv, _, _, h4⟩ := hA
    simp only [Value.slice.injEq, true_and] at hv
    obtain ⟨rfl, rfl⟩ := hv
    obtain ⟨g2, o, e, _, hcell⟩ := h4 (by omega)
    simp only [Option.some.injEq, Addr.mk.injEq, and_true] at e
    obtain ⟨rfl, rfl⟩ := e
    have := hcell k hk j u hj
    simpa using this
end Go.Proofs.YtabebkffcmajkaaGreatDoor

/-! Walk: keepNumbers. -/
namespace Go.Proofs.YtabebkffcmajkaaGreatDoor
open Go.RowKit Go.Maps Go.Shelf
attribute [local go_sem] quietV loudUpon Oper.semAt_some

abbrev PrN (w : World) (b : Nat) (va vb : Value) (A M : List (Option Addr × Nat × Nat)) : Prop := Pr encInt 1 3 32 (fun z => z) w b va vb A M

def KeepNPost (w : World) (Q b : Nat) (v0 v1 v2 v3 v4 v5 v6 v7 lv : Value) (A M : List (Option Addr × Nat × Nat)) : Ending → World → Prop := fun e w' => e = .returned (.tuple #[]) ∧ ∃ u4 u5 A' M', Blk w' Q 29 #[v0, v1, v2, v3, u4, u5, v6, v7] ∧ PrN w' w'.heap.size u4 u5 A' M' ∧ A'.length = A.length + 1 ∧ M'.length = M.length + 1 ∧
      Mod (fun g => g = Q ∨ lv.ownBlock = some g ∨ v4.ownBlock = some g ∨ v5.ownBlock = some g) w w' ∧ (∀ g, u4.ownBlock = some g → v4.ownBlock = some g ∨ w.heap.size ≤ g) ∧ ∀ g, u5.ownBlock = some g → v5.ownBlock = some g ∨ w.heap.size ≤ g
theorem infoSlN : (Tryz.prog.info? 32).map (fun i => (i.zero, i.size, i.bytes)) = some (some (.slice none 0 0), 1, 24) := by kernel_rfl
set_option maxRecDepth 100000 in
set_option maxHeartbeats 2000000 in
theorem keepNumbers_any (w : World) (Q b : Nat) (v0 v1 v2 v3 v4 v5 v6 v7 lv : Value) (A M : List (Option Addr × Nat × Nat)) (L : List Int) (hQ : Blk w Q 29 #[v0, v1, v2, v3, v4, v5, v6, v7]) (hP : PrN w b v4 v5 A M) (hAM : A.length = M.length) (hA : A.length ≤ 100000)
    (hl : w.ownsRow b 3 1 lv L.length (rowOf encInt L)) (hL : L.length ≤ 1000000) (hb : b ≤ w.heap.size) :
    Calls Tryz.prog 22 #[.pointer (some ⟨Q, 0, none⟩), lv] w (KeepNPost w Q b v0 v1 v2 v3 v4 v5 v6 v7 lv A M) := by
  obtain ⟨A4, c4, rfl⟩ := own_slice hP.ra
  obtain ⟨A5, c5, rfl⟩ := own_slice hP.rb
  obtain ⟨Al, cl, rfl⟩ := own_slice hl
  have q4 : w.cell? ⟨Q, 4, none⟩ = some (.slice A4 A.length c4) := hQ.cell 4
  have hll : ∀ w, (Builtin.len_ #[32] 3 #[.slice Al L.length cl]).run Tryz.prog w = .ok (.int .i64 L.length) w := fun w => by simp [Builtin.len_, run_underlying Tryz.underlying32]; rfl
  have HP := hide hP
  have HQ := hide hQ
  have HL := hide hl
  clear hP hQ hl
  go_enter Tryz.func22, Tryz.ntmps22
  have HAM := hide hAM
  clear hAM
  go_wp2_with fail
  go_loopw [5] (fun s5 wr => ∃ (k : Nat), k ≤ L.length ∧ s5 = .int .i64 k ∧ wr.ownsRow b 3 1 (.slice Al L.length cl) (over ((A.length : Int) + 1) k L).length (rowOf encInt (over ((A.length : Int) + 1) k L)) ∧ Mod (fun g => (Value.slice Al L.length cl).ownBlock = some g) w wr) (fun s5 _ => L.length - (intOf s5).toNat)
  case atStart => exact ⟨0, Nat.zero_le _, rfl, by rw [over_zero]; exact HL.out, Mod.refl _ _⟩
  obtain ⟨k, hk, rfl, hown, hM⟩ := hrel
  by_cases hlt : k < L.length
  · have hki : (k : Int) < L.length := by omega
    have hol := over_length ((A.length : Int) + 1) L hk
    obtain ⟨g, c, cur, hv, hbg, hB, hn, hc, hfr, hcell⟩ := own_at (en := encInt) (fun _ => rfl) (by rw [hol] at hown ⊢; exact hown) (k := k) (by omega)
    simp only [Value.slice.injEq, true_and] at hv
    obtain ⟨rfl, -, rfl⟩ := hv
    have x0 := hcell 0 _ rfl
    simp only [Nat.mul_one, Nat.add_zero] at x0
    have f0 := hfr k
    have hset := own_set (enc := encInt) (k := k) (l := over ((A.length : Int) + 1) k L) (fun _ => rfl) (by rw [hol] at hown ⊢; exact hown) (by omega) ((A.length : Int) + 1)
    rw [over_succ _ _ hlt] at hset
    have hol2 := over_length ((A.length : Int) + 1) (k := k + 1) L hlt
    rw [hol2] at hset
    have HS := hide hset
    obtain ⟨y, hy⟩ : ∃ y, y = (over ((A.length : Int) + 1) k L)[k]'(by omega) := ⟨_, rfl⟩
    rw [← hy] at x0
    have HO := hide hol2
    have HM := hide hM
    clear hset hol hol2 hy hM hown hB hn hc hfr hcell hbg
    go_wp2_with fail
    go_roundw
    case rel =>
      refine ⟨k + 1, hlt, by simp, ?_, ?_⟩
      · have := HS.out.1
        simp only [Nat.mul_one] at this
        rw [HO.out]
        exact this
      · have := HS.out.2
        simp only [Nat.mul_one] at this
        exact HM.out.trans (this.mono fun g _ e => by cases e; rfl)
    case measure => simp [intOf]; omega
  · obtain rfl : k = L.length := by omega
    have hkn : ¬ (L.length : Int) < L.length := by omega
    have hol := over_length ((A.length : Int) + 1) L hk
    rw [hol, over_all] at hown
    have hP := HP.out
    have hQ := HQ.out
    have hS1 : ∀ g, (Value.slice Al L.length cl).ownBlock = some g → NotT w g 32 ∧ (b ≤ g ∨ NotT w g 3) := fun g hg => by
      obtain ⟨h1, cur, h2⟩ := own_blk HL.out hg
      exact ⟨NotT.of h2 (by decide), .inl h1⟩
    have hP1 := hP.mod hM hS1
    have hQ1 := hQ.mod hM (own_blk_apart HL.out hQ (by decide))
    have r4 := hQ1.cell 4
    have HM1 := hide hM
    have hl1 := hown
    have hA1 : A.length + 1 ≤ 200000 := by omega
    clear hol hlt hP hQ hS1 hM hown q4 hk
    go_upto_region 6 with (
      (with_reducible refine at_slot 30 ?_)
      refine wpList_append_row encSl 26 32 (.slice none 0 0) 1 24 Tryz.underlying26 infoSlN rfl (by decide) (fun _ => rfl) oneSl rfl (.tmp 27) (.tmp 29) rfl wr 0 (.slice A4 A.length c4) A (Al, L.length, cl) rfl rfl wr.heap.size rfl rfl hP1.ra (Nat.zero_le _) (by unfold maxLen; omega) (by omega) ?_
      intro v8 w8 hown8 hm8 hat8
      obtain ⟨A8, c8, rfl⟩ := own_slice hown8
      have hQ8 := hQ1.mod hm8 (fun e => own_blk_apart hP1.ra hQ1 (by decide) e.symm)
      have r8 := hQ8.cell 4
      have f8 := hQ8.frozen 4
      have H8 := hide (And.intro hown8 (And.intro hm8 (And.intro hat8 hQ8)))
      have HP1 := hide hP1
      have HL1 := hide hl1
      have HQ1 := hide hQ1
      clear hown8 hm8 hat8 hQ8 hP1 hl1 hQ1 r4
      go_frame)
    obtain ⟨w9, hw9⟩ : ∃ w9, w9 = w8.setCell ⟨Q, 4, none⟩ (.slice A8 (A.length + 1) c8) := ⟨_, rfl⟩
    have e8 : (A ++ [(Al, L.length, cl)]).length = A.length + 1 := by simp
    have H8 := H8.out
    rw [e8] at H8
    obtain ⟨hown8, hm8, hat8, hQ8⟩ := H8
    have hP1 := HP1.out
    have hl1 := HL1.out
    have hQ1 := HQ1.out
    have hl8 := own_mod hl1 hm8 (fun g hg e => own_apart hl1 hP1.ra (by decide) g hg e.symm)
    have hb8 := own_mod hP1.rb hm8 (fun g hg e => hP1.ap g e.symm hg)
    have hap8 : ∀ g, (Value.slice A8 (A.length + 1) c8).ownBlock = some g → (Value.slice A5 M.length c5).ownBlock = some g → False := fun g hg hg' => by
      rcases hat8 with e1 | e1
      · exact hP1.ap g (by rw [← e1]; exact hg) hg'
      · rw [hg] at e1
        injection e1 with e1
        obtain ⟨_, cur, hh⟩ := own_blk hP1.rb hg'
        have := (Array.getElem?_eq_some_iff.1 hh).1
        omega
    have hat8' : ∀ g, (Value.slice A8 (A.length + 1) c8).ownBlock = some g → (Value.slice A4 A.length c4).ownBlock = some g ∨ w.heap.size ≤ g := fun g hg => by
      rcases hat8 with e1 | e1
      · exact .inl (by rw [← e1]; exact hg)
      · rw [hg] at e1
        injection e1 with e1
        have := HM1.out.size
        exact .inr (by omega)
    have HAT8 := hide hat8'
    clear hat8'
    have hm9 : Mod (· = Q) w8 w9 := by rw [hw9]; exact (Mod.refl (· = Q) w8).setCell (p := ⟨Q, 4, none⟩) (.inr rfl) _
    have hQ9 : Blk w9 Q 29 #[v0, v1, v2, v3, .slice A8 (A.length + 1) c8, .slice A5 M.length c5, v6, v7] := by rw [hw9]; exact hQ8.set_ 4 _
    have hl9 := own_mod hl8 hm9 (fun g hg e => own_blk_apart hl8 hQ8 (by decide) (by rw [← e]; exact hg))
    have ha9 := own_mod hown8 hm9 (fun g hg e => own_blk_apart hown8 hQ8 (by decide) (by rw [← e]; exact hg))
    have hb9 := own_mod hb8 hm9 (fun g hg e => own_blk_apart hb8 hQ8 (by decide) (by rw [← e]; exact hg))
    have hM9 : Mod (fun g => g = Q ∨ (Value.slice Al L.length cl).ownBlock = some g ∨ (Value.slice A4 A.length c4).ownBlock = some g ∨ (Value.slice A5 M.length c5).ownBlock = some g) w w9 :=
      ((HM1.out.mono fun g _ h => .inr (.inl h)).trans (hm8.mono fun g _ h => .inr (.inr (.inl h.symm)))).trans (hm9.mono fun g _ h => .inl h)
    have hbw : b ≤ w9.heap.size := Nat.le_trans hb hM9.size
    rw [← hw9]
    have HM9 := hide hM9
    have hN9 : Mod (fun g => g = Q ∨ (Value.slice A4 A.length c4).ownBlock = some g) wr w9 := (hm8.mono fun g _ h => .inr h.symm).trans (hm9.mono fun g _ h => .inl h)
    have HN9 := hide hN9
    have HA8 := hide hap8
    have r9 := hQ9.cell 5
    clear hw9 hown8 hm8 hat8 hQ8 hP1 hl1 hQ1 H8 hl8 hb8 hap8 hm9 hM9 hN9 e8 f8
    have hrl : (List.replicate L.length ((A.length : Int) + 1)).length = L.length := by simp
    have hl9' : w9.ownsRow b 3 1 (.slice Al L.length cl) (List.replicate L.length ((A.length : Int) + 1)).length (rowOf encInt (List.replicate L.length ((A.length : Int) + 1))) := by rw [hrl]; exact hl9
    obtain ⟨R, hR⟩ : ∃ R, R = List.replicate L.length ((A.length : Int) + 1) := ⟨_, rfl⟩
    rw [← hR] at hl9' hrl
    have HR := hide hR
    have hRl : R.length ≤ 1000000 := by omega
    have HRL := hide hrl
    have HL9 := hide hl9
    have HA9 := hide ha9
    have HB9 := hide hb9
    have HQ9 := hide hQ9
    clear hR hl9 ha9 hb9 hrl hQ9
    go_upto_region 7 with (
      (with_reducible refine at_slot 37 ?_)
      refine wpList_append_keep encInt 32 3 (.int .i64 0) 1 8 Tryz.underlying32 infoInt rfl (by decide) (fun _ => rfl) oneInt rfl (.tmp 33) (.tmp 36) rfl w9 b (.slice Al L.length cl) R (-((A.length : Int) + 1)) rfl rfl w9.heap.size rfl rfl hl9' hbw (by unfold maxLen; omega) (by omega) ?_
      intro v10 w10 hown10 hm10 hat10 hold10 hty10
      have el : (R ++ [-((A.length : Int) + 1)]).length = R.length + 1 := by simp
      rw [el] at hown10
      obtain ⟨A10, c10, rfl⟩ := own_slice hown10
      have hQ10 := HQ9.out.mod hm10 (fun e => own_blk_apart hl9' HQ9.out (by decide) e.symm)
      have r10 := hQ10.cell 5
      have H10 := hide (And.intro hown10 (And.intro hm10 (And.intro hat10 (And.intro hold10 (And.intro hty10 hQ10)))))
      have HL9' := hide hl9'
      clear hown10 hm10 hat10 hold10 hty10 hQ10 hl9' r9 el
      go_frame)
    have H10 := H10.out
    obtain ⟨hown10, hm10, hat10, hold10, hty10, hQ10⟩ := H10
    have hl9' := HL9'.out
    have ha10 := own_mod HA9.out hm10 (fun g hg e => own_apart HA9.out hl9' (by decide) g hg e.symm)
    have hb10 := own_mod HB9.out hm10 (fun g hg e => own_apart HB9.out hl9' (by decide) g hg e.symm)
    have HX10 := hide (And.intro hown10 (And.intro hm10 (And.intro hold10 (And.intro hty10 (And.intro hQ10 ha10)))))
    have HL92 := hide hl9'
    have hA10 := HAM.out
    have hM10 : M.length + 1 ≤ 200000 := by omega
    clear hown10 hm10 hat10 hold10 hty10 hQ10 ha10 hl9' hA10
    go_upto_region 8 with (
      (with_reducible refine at_slot 45 ?_)
      refine wpList_append_row encSl 26 32 (.slice none 0 0) 1 24 Tryz.underlying26 infoSlN rfl (by decide) (fun _ => rfl) oneSl rfl (.tmp 42) (.tmp 44) rfl w10 0 (.slice A5 M.length c5) M (A10, R.length + 1, c10) rfl rfl w10.heap.size rfl rfl hb10 (Nat.zero_le _) (by unfold maxLen; omega) (by omega) ?_
      intro v11 w11 hown11 hm11 hat11
      have el : (M ++ [(A10, R.length + 1, c10)]).length = M.length + 1 := by simp
      obtain ⟨A11, c11, rfl⟩ := own_slice hown11
      rw [el] at hown11 hat11
      simp only [el]
      have hQ11 := HX10.out.2.2.2.2.1.mod hm11 (fun e => own_blk_apart hb10 HX10.out.2.2.2.2.1 (by decide) e.symm)
      have r11 := hQ11.cell 5
      have f11 := hQ11.frozen 5
      have H11 := hide (And.intro hown11 (And.intro hm11 (And.intro hat11 hQ11)))
      have HB10 := hide hb10
      clear hown11 hm11 hat11 hQ11 hb10 r10 el
      go_frame)
    clear hkn
    obtain ⟨w12, hw12⟩ : ∃ w12, w12 = w11.setCell ⟨Q, 5, none⟩ (.slice A11 (M.length + 1) c11) := ⟨_, rfl⟩
    rw [← hw12]
    have hpost : KeepNPost w Q b v0 v1 v2 v3 (.slice A4 A.length c4) (.slice A5 M.length c5) v6 v7 (.slice Al L.length cl) A M (.returned (.tuple #[])) w12 := by
      obtain ⟨hown11, hm11, hat11, hQ11⟩ := H11.out
      obtain ⟨hown10, hm10, hold10, hty10, hQ10, ha10⟩ := HX10.out
      have hb10 := HB10.out
      have hl9 := HL92.out
      have hP1 := HP1.out
      have hQ1 := HQ1.out
      have hm12 : Mod (· = Q) w11 w12 := by rw [hw12]; exact (Mod.refl (· = Q) w11).setCell (p := ⟨Q, 5, none⟩) (.inr rfl) _
      have hQ12 : Blk w12 Q 29 #[v0, v1, v2, v3, .slice A8 (A.length + 1) c8, .slice A11 (M.length + 1) c11, v6, v7] := by rw [hw12]; exact hQ11.set_ 5 _
      have hbQ : ¬ (Value.slice A5 M.length c5).ownBlock = some Q := own_blk_apart hb10 hQ10 (by decide)
      have hT : Mod (fun g => g = Q ∨ (Value.slice A5 M.length c5).ownBlock = some g) w10 w12 := (hm11.mono fun g _ h => .inr h.symm).trans (hm12.mono fun g _ h => .inl h)
      have hTi : ∀ g, (g = Q ∨ (Value.slice A5 M.length c5).ownBlock = some g) → NotT w10 g 3 := fun g hg => by
        rcases hg with rfl | hg
        · exact NotT.of hQ10 (by decide)
        · obtain ⟨_, _, hh⟩ := own_blk hb10 hg
          exact NotT.of hh (by decide)
      have htyp : ∀ v : Value, (∀ g, v.ownBlock = some g → ∃ cur, w10.heap[g]? = some (.cells cur 3 (0, 0))) → ∀ g, v.ownBlock = some g → ¬ (g = Q ∨ (Value.slice A5 M.length c5).ownBlock = some g) := fun v hv g hg hS => by
        obtain ⟨cur, hh⟩ := hv g hg
        exact hTi g hS _ hh
      have ha12 := own_mod ha10 hT (fun g hg hS => by
        rcases hS with rfl | hS
        · exact own_blk_apart ha10 hQ10 (by decide) hg
        · exact HA8.out g hg hS)
      have hb12 := own_mod hown11 hm12 (fun g hg e => own_blk_apart hown11 hQ11 (by decide) (by rw [← e]; exact hg))
      have hty10' : ∀ g, (Value.slice A10 (R.length + 1) c10).ownBlock = some g → ∃ cur, w10.heap[g]? = some (.cells cur 3 (0, 0)) := fun g hg => (own_blk hown10 hg).2
      have hsl := htyp _ hty10
      have htl := htyp _ hty10'
      have hs10 : AtB w10 3 w10.heap.size (.slice Al L.length cl) := fun g hg => by
        obtain ⟨cur, hh⟩ := hty10 g hg
        exact ⟨(Array.getElem?_eq_some_iff.1 hh).1, cur, hh⟩
      have hN12 : Mod (fun g => g = Q ∨ (Value.slice A4 A.length c4).ownBlock = some g ∨ (Value.slice Al L.length cl).ownBlock = some g ∨ (Value.slice A5 M.length c5).ownBlock = some g) wr w12 :=
        ((HN9.out.mono fun g _ h => h.elim .inl fun h => .inr (.inl h)).trans (hm10.mono fun g _ h => .inr (.inr (.inl h.symm)))).trans (hT.mono fun g _ h => h.elim .inl fun h => .inr (.inr (.inr h)))
      have hl1 := HL1.out
      refine ⟨rfl, _, _, A ++ [(Al, L.length, cl)], M ++ [(A10, R.length + 1, c10)], hQ12, ?_, by simp, by simp, ?_, HAT8.out, fun g hg => ?_⟩
      · refine hP1.grow hN12 (fun g hg => ?_) (by simpa using ha12) (by simpa using hb12) (fun g hg hg' => ?_) ((hs10.mod hT fun g hg => .inr (hTi g hg)).here) (((AtB.of_own hown10).mod hT fun g hg => .inr (hTi g hg)).here) HAM.out rfl rfl ?_ ?_
        · rcases hg with rfl | hg | hg | hg
          · exact .inr (NotT.of hQ1 (by decide))
          · obtain ⟨_, _, hh⟩ := own_blk hP1.ra hg
            exact .inr (NotT.of hh (by decide))
          · exact .inl (own_blk hl1 hg).1
          · obtain ⟨_, _, hh⟩ := own_blk hP1.rb hg
            exact .inr (NotT.of hh (by decide))
        · rcases hat11 with e1 | e1
          · exact HA8.out g hg (by rw [← e1]; exact hg')
          · rw [hg'] at e1
            injection e1 with e1
            obtain ⟨_, cur, hh⟩ := own_blk ha10 hg
            have := (Array.getElem?_eq_some_iff.1 hh).1
            omega
        · have := hold10.modX hT (fun _ => hsl)
          rw [HR.out] at this
          exact this
        · have h2 : ListAt encInt 1 w10 (.slice A10 (R.length + 1) c10) (R ++ [-((A.length : Int) + 1)]) := list_of_ownRow (enc := encInt) (fun _ => rfl) (by simpa using hown10)
          have := h2.modX hT (fun _ => htl)
          rw [HR.out] at this
          have e : (List.replicate L.length ((A.length : Int) + 1)).length = L.length := by simp
          rw [e] at this
          rw [HRL.out]
          exact this
      · exact ((HM9.out).trans (hm10.mono fun g _ h => .inr (.inl h.symm))).trans (hT.mono fun g _ h => h.elim .inl fun h => .inr (.inr (.inr h)))
      · rcases hat11 with e1 | e1
        · exact .inl (by rw [← e1]; exact hg)
        · rw [hg] at e1
          injection e1 with e1
          have := hm10.size
          have := HM9.out.size
          exact .inr (by omega)
    have HF := hide hpost
    clear hpost
    exact ⟨rfl, .tuple #[], by simp [results, Tryz.results22], HF.out⟩
end Go.Proofs.YtabebkffcmajkaaGreatDoor

/-! Walk: keepEntries. -/
namespace Go.Proofs.YtabebkffcmajkaaGreatDoor
open Go.RowKit Go.Maps Go.Shelf
attribute [local go_sem] quietV loudUpon Oper.semAt_some

def mkE (z : Int) : EntD := ⟨z, 0, 0, 0, 0, 0, 0, ⟨#[]⟩⟩
abbrev PrE (w : World) (b : Nat) (va vb : Value) (A M : List (Option Addr × Nat × Nat)) : Prop := Pr encEntry 8 49 37 mkE w b va vb A M

def KeepEPost (w : World) (Q b : Nat) (v0 v1 v2 v3 v4 v5 v6 v7 lv : Value) (A M : List (Option Addr × Nat × Nat)) : Ending → World → Prop := fun e w' => e = .returned (.tuple #[]) ∧ ∃ u4 u5 A' M', Blk w' Q 29 #[v0, v1, v2, v3, v4, v5, u4, u5] ∧ PrE w' w'.heap.size u4 u5 A' M' ∧ A'.length = A.length + 1 ∧ M'.length = M.length + 1 ∧
      Mod (fun g => g = Q ∨ lv.ownBlock = some g ∨ v6.ownBlock = some g ∨ v7.ownBlock = some g) w w' ∧ (∀ g, u4.ownBlock = some g → v6.ownBlock = some g ∨ w.heap.size ≤ g) ∧ ∀ g, u5.ownBlock = some g → v7.ownBlock = some g ∨ w.heap.size ≤ g
theorem infoE8 : (Tryz.prog.info? 49).map (·.size) = some (encEntry (mkE 0)).toArray.size := by show _ = some 8; kernel_rfl
theorem infoSlE : (Tryz.prog.info? 37).map (fun i => (i.zero, i.size, i.bytes)) = some (some (.slice none 0 0), 1, 24) := by kernel_rfl
set_option maxRecDepth 100000 in
set_option maxHeartbeats 2000000 in
theorem keepEntries_any (w : World) (Q b : Nat) (v0 v1 v2 v3 v4 v5 v6 v7 lv : Value) (A M : List (Option Addr × Nat × Nat)) (L : List EntD) (hQ : Blk w Q 29 #[v0, v1, v2, v3, v4, v5, v6, v7]) (hP : PrE w b v6 v7 A M) (hAM : A.length = M.length) (hA : A.length ≤ 100000)
    (hl : w.ownsRow b 49 8 lv L.length (rowOf encEntry L)) (hL : L.length ≤ 1000000) (hb : b ≤ w.heap.size) :
    Calls Tryz.prog 18 #[.pointer (some ⟨Q, 0, none⟩), lv] w (KeepEPost w Q b v0 v1 v2 v3 v4 v5 v6 v7 lv A M) := by
  obtain ⟨A4, c4, rfl⟩ := own_slice hP.ra
  obtain ⟨A5, c5, rfl⟩ := own_slice hP.rb
  obtain ⟨Al, cl, rfl⟩ := own_slice hl
  have q4 : w.cell? ⟨Q, 6, none⟩ = some (.slice A4 A.length c4) := hQ.cell 6
  have hll : ∀ w, (Builtin.len_ #[37] 3 #[.slice Al L.length cl]).run Tryz.prog w = .ok (.int .i64 L.length) w := fun w => by simp [Builtin.len_, run_underlying Tryz.underlying37]; rfl
  have HP := hide hP
  have HQ := hide hQ
  have HL := hide hl
  clear hP hQ hl
  go_enter Tryz.func18, Tryz.ntmps18
  have HAM := hide hAM
  clear hAM
  go_wp2_with fail
  go_loopw [5] (fun s5 wr => ∃ (k : Nat), k ≤ L.length ∧ s5 = .int .i64 k ∧ wr.ownsRow b 49 8 (.slice Al L.length cl) (over (mkE ((A.length : Int) + 1)) k L).length (rowOf encEntry (over (mkE ((A.length : Int) + 1)) k L)) ∧ Mod (fun g => (Value.slice Al L.length cl).ownBlock = some g) w wr) (fun s5 _ => L.length - (intOf s5).toNat)
  case atStart => exact ⟨0, Nat.zero_le _, rfl, by rw [over_zero]; exact HL.out, Mod.refl _ _⟩
  obtain ⟨k, hk, rfl, hown, hM⟩ := hrel
  by_cases hlt : k < L.length
  · have hki : (k : Int) < L.length := by omega
    have hol := over_length (mkE ((A.length : Int) + 1)) L hk
    obtain ⟨g, c, cur, hv, hbg, hB, hn, hc, hfr, hcell⟩ := own_at (en := encEntry) (fun _ => rfl) (by rw [hol] at hown ⊢; exact hown) (k := k) (by omega)
    simp only [Value.slice.injEq, true_and] at hv
    obtain ⟨rfl, -, rfl⟩ := hv
    have hth : wr.there g (k * 8) (encEntry (mkE ((A.length : Int) + 1))).toArray.size := fun j hj => by
      have hj8 : j < 8 := hj
      have hn8 : (encEntry (over (mkE ((A.length : Int) + 1)) k L)[k]).length = 8 := rfl
      exact ⟨by rw [hcell j _ (List.getElem?_eq_getElem (by rw [hn8]; exact hj8))]; rfl, hfr _⟩
    have HTH := hide hth
    have hset := own_set (enc := encEntry) (k := k) (l := over (mkE ((A.length : Int) + 1)) k L) (fun _ => rfl) (by rw [hol] at hown ⊢; exact hown) (by omega) (mkE ((A.length : Int) + 1))
    rw [over_succ _ _ hlt] at hset
    have hol2 := over_length (mkE ((A.length : Int) + 1)) (k := k + 1) L hlt
    rw [hol2] at hset
    have HS := hide hset
    have HO := hide hol2
    have HM := hide hM
    clear hset hol hol2 hM hown hB hn hc hfr hcell hbg hth
    go_wp2_with ((with_reducible refine at_none 49 23 22 ?_); refine wpList_store_mid rfl 49 (.tmp 23) (.tmp 22) rfl g (k * 8) (encEntry (mkE ((A.length : Int) + 1))).toArray rfl rfl HTH.out infoE8 (all_oneCell_toArray (oneEntry _)) ?_; go_frame)
    go_roundw
    case rel =>
      refine ⟨k + 1, hlt, by simp, ?_, ?_⟩
      · have := HS.out.1
        rw [HO.out]
        exact this
      · have := HS.out.2
        exact HM.out.trans (this.mono fun g _ e => by cases e; rfl)
    case measure => simp [intOf]; omega
  · obtain rfl : k = L.length := by omega
    have hkn : ¬ (L.length : Int) < L.length := by omega
    have hol := over_length (mkE ((A.length : Int) + 1)) L hk
    rw [hol, over_all] at hown
    have hP := HP.out
    have hQ := HQ.out
    have hS1 : ∀ g, (Value.slice Al L.length cl).ownBlock = some g → NotT w g 37 ∧ (b ≤ g ∨ NotT w g 49) := fun g hg => by
      obtain ⟨h1, cur, h2⟩ := own_blk HL.out hg
      exact ⟨NotT.of h2 (by decide), .inl h1⟩
    have hP1 := hP.mod hM hS1
    have hQ1 := hQ.mod hM (own_blk_apart HL.out hQ (by decide))
    have r4 := hQ1.cell 6
    have HM1 := hide hM
    have hl1 := hown
    have hA1 : A.length + 1 ≤ 200000 := by omega
    clear hol hlt hP hQ hS1 hM hown q4 hk
    go_upto_region 6 with (
      (with_reducible refine at_slot 31 ?_)
      refine wpList_append_row encSl 27 37 (.slice none 0 0) 1 24 Tryz.underlying27 infoSlE rfl (by decide) (fun _ => rfl) oneSl rfl (.tmp 28) (.tmp 30) rfl wr 0 (.slice A4 A.length c4) A (Al, L.length, cl) rfl rfl wr.heap.size rfl rfl hP1.ra (Nat.zero_le _) (by unfold maxLen; omega) (by omega) ?_
      intro v8 w8 hown8 hm8 hat8
      obtain ⟨A8, c8, rfl⟩ := own_slice hown8
      have hQ8 := hQ1.mod hm8 (fun e => own_blk_apart hP1.ra hQ1 (by decide) e.symm)
      have r8 := hQ8.cell 6
      have f8 := hQ8.frozen 6
      have H8 := hide (And.intro hown8 (And.intro hm8 (And.intro hat8 hQ8)))
      have HP1 := hide hP1
      have HL1 := hide hl1
      have HQ1 := hide hQ1
      clear hown8 hm8 hat8 hQ8 hP1 hl1 hQ1 r4
      go_frame)
    obtain ⟨w9, hw9⟩ : ∃ w9, w9 = w8.setCell ⟨Q, 6, none⟩ (.slice A8 (A.length + 1) c8) := ⟨_, rfl⟩
    have e8 : (A ++ [(Al, L.length, cl)]).length = A.length + 1 := by simp
    have H8 := H8.out
    rw [e8] at H8
    obtain ⟨hown8, hm8, hat8, hQ8⟩ := H8
    have hP1 := HP1.out
    have hl1 := HL1.out
    have hQ1 := HQ1.out
    have hl8 := own_mod hl1 hm8 (fun g hg e => own_apart hl1 hP1.ra (by decide) g hg e.symm)
    have hb8 := own_mod hP1.rb hm8 (fun g hg e => hP1.ap g e.symm hg)
    have hap8 : ∀ g, (Value.slice A8 (A.length + 1) c8).ownBlock = some g → (Value.slice A5 M.length c5).ownBlock = some g → False := fun g hg hg' => by
      rcases hat8 with e1 | e1
      · exact hP1.ap g (by rw [← e1]; exact hg) hg'
      · rw [hg] at e1
        injection e1 with e1
        obtain ⟨_, cur, hh⟩ := own_blk hP1.rb hg'
        have := (Array.getElem?_eq_some_iff.1 hh).1
        omega
    have hat8' : ∀ g, (Value.slice A8 (A.length + 1) c8).ownBlock = some g → (Value.slice A4 A.length c4).ownBlock = some g ∨ w.heap.size ≤ g := fun g hg => by
      rcases hat8 with e1 | e1
      · exact .inl (by rw [← e1]; exact hg)
      · rw [hg] at e1
        injection e1 with e1
        have := HM1.out.size
        exact .inr (by omega)
    have HAT8 := hide hat8'
    clear hat8'
    have hm9 : Mod (· = Q) w8 w9 := by rw [hw9]; exact (Mod.refl (· = Q) w8).setCell (p := ⟨Q, 6, none⟩) (.inr rfl) _
    have hQ9 : Blk w9 Q 29 #[v0, v1, v2, v3, v4, v5, .slice A8 (A.length + 1) c8, .slice A5 M.length c5] := by rw [hw9]; exact hQ8.set_ 6 _
    have hl9 := own_mod hl8 hm9 (fun g hg e => own_blk_apart hl8 hQ8 (by decide) (by rw [← e]; exact hg))
    have ha9 := own_mod hown8 hm9 (fun g hg e => own_blk_apart hown8 hQ8 (by decide) (by rw [← e]; exact hg))
    have hb9 := own_mod hb8 hm9 (fun g hg e => own_blk_apart hb8 hQ8 (by decide) (by rw [← e]; exact hg))
    have hM9 : Mod (fun g => g = Q ∨ (Value.slice Al L.length cl).ownBlock = some g ∨ (Value.slice A4 A.length c4).ownBlock = some g ∨ (Value.slice A5 M.length c5).ownBlock = some g) w w9 :=
      ((HM1.out.mono fun g _ h => .inr (.inl h)).trans (hm8.mono fun g _ h => .inr (.inr (.inl h.symm)))).trans (hm9.mono fun g _ h => .inl h)
    have hbw : b ≤ w9.heap.size := Nat.le_trans hb hM9.size
    rw [← hw9]
    have HM9 := hide hM9
    have hN9 : Mod (fun g => g = Q ∨ (Value.slice A4 A.length c4).ownBlock = some g) wr w9 := (hm8.mono fun g _ h => .inr h.symm).trans (hm9.mono fun g _ h => .inl h)
    have HN9 := hide hN9
    have HA8 := hide hap8
    have r9 := hQ9.cell 7
    clear hw9 hown8 hm8 hat8 hQ8 hP1 hl1 hQ1 H8 hl8 hb8 hap8 hm9 hM9 hN9 e8 f8
    have hrl : (List.replicate L.length (mkE ((A.length : Int) + 1))).length = L.length := by simp
    have hl9' : w9.ownsRow b 49 8 (.slice Al L.length cl) (List.replicate L.length (mkE ((A.length : Int) + 1))).length (rowOf encEntry (List.replicate L.length (mkE ((A.length : Int) + 1)))) := by rw [hrl]; exact hl9
    obtain ⟨R, hR⟩ : ∃ R, R = List.replicate L.length (mkE ((A.length : Int) + 1)) := ⟨_, rfl⟩
    rw [← hR] at hl9' hrl
    have HR := hide hR
    have hRl : R.length ≤ 1000000 := by omega
    have HRL := hide hrl
    have HL9 := hide hl9
    have HA9 := hide ha9
    have HB9 := hide hb9
    have HQ9 := hide hQ9
    clear hR hl9 ha9 hb9 hrl hQ9
    go_upto_region 7 with (
      (with_reducible refine at_slot 39 ?_)
      refine wpList_append_keep encEntry 37 49 (.agg #[.int .i64 0, .int .u64 0, .int .i64 0, .int .i64 0, .int .i64 0, .int .i64 0, .int .i64 0, .string ⟨#[]⟩]) 8 72 Tryz.underlying37 infoEntry rfl (by decide) (fun _ => rfl) oneEntry rfl (.tmp 34) (.tmp 38) rfl w9 b (.slice Al L.length cl) R (mkE (-((A.length : Int) + 1))) rfl rfl w9.heap.size rfl rfl hl9' hbw (by unfold maxLen; omega) (by omega) ?_
      intro v10 w10 hown10 hm10 hat10 hold10 hty10
      have el : (R ++ [mkE (-((A.length : Int) + 1))]).length = R.length + 1 := by simp
      rw [el] at hown10
      obtain ⟨A10, c10, rfl⟩ := own_slice hown10
      have hQ10 := HQ9.out.mod hm10 (fun e => own_blk_apart hl9' HQ9.out (by decide) e.symm)
      have r10 := hQ10.cell 7
      have H10 := hide (And.intro hown10 (And.intro hm10 (And.intro hat10 (And.intro hold10 (And.intro hty10 hQ10)))))
      have HL9' := hide hl9'
      clear hown10 hm10 hat10 hold10 hty10 hQ10 hl9' r9 el
      go_frame)
    have H10 := H10.out
    obtain ⟨hown10, hm10, hat10, hold10, hty10, hQ10⟩ := H10
    have hl9' := HL9'.out
    have ha10 := own_mod HA9.out hm10 (fun g hg e => own_apart HA9.out hl9' (by decide) g hg e.symm)
    have hb10 := own_mod HB9.out hm10 (fun g hg e => own_apart HB9.out hl9' (by decide) g hg e.symm)
    have HX10 := hide (And.intro hown10 (And.intro hm10 (And.intro hold10 (And.intro hty10 (And.intro hQ10 ha10)))))
    have HL92 := hide hl9'
    have hA10 := HAM.out
    have hM10 : M.length + 1 ≤ 200000 := by omega
    clear hown10 hm10 hat10 hold10 hty10 hQ10 ha10 hl9' hA10
    go_upto_region 8 with (
      (with_reducible refine at_slot 47 ?_)
      refine wpList_append_row encSl 27 37 (.slice none 0 0) 1 24 Tryz.underlying27 infoSlE rfl (by decide) (fun _ => rfl) oneSl rfl (.tmp 44) (.tmp 46) rfl w10 0 (.slice A5 M.length c5) M (A10, R.length + 1, c10) rfl rfl w10.heap.size rfl rfl hb10 (Nat.zero_le _) (by unfold maxLen; omega) (by omega) ?_
      intro v11 w11 hown11 hm11 hat11
      have el : (M ++ [(A10, R.length + 1, c10)]).length = M.length + 1 := by simp
      obtain ⟨A11, c11, rfl⟩ := own_slice hown11
      rw [el] at hown11 hat11
      simp only [el]
      have hQ11 := HX10.out.2.2.2.2.1.mod hm11 (fun e => own_blk_apart hb10 HX10.out.2.2.2.2.1 (by decide) e.symm)
      have r11 := hQ11.cell 7
      have f11 := hQ11.frozen 7
      have H11 := hide (And.intro hown11 (And.intro hm11 (And.intro hat11 hQ11)))
      have HB10 := hide hb10
      clear hown11 hm11 hat11 hQ11 hb10 r10 el
      go_frame)
    clear hkn
    obtain ⟨w12, hw12⟩ : ∃ w12, w12 = w11.setCell ⟨Q, 7, none⟩ (.slice A11 (M.length + 1) c11) := ⟨_, rfl⟩
    rw [← hw12]
    have hpost : KeepEPost w Q b v0 v1 v2 v3 v4 v5 (.slice A4 A.length c4) (.slice A5 M.length c5) (.slice Al L.length cl) A M (.returned (.tuple #[])) w12 := by
      obtain ⟨hown11, hm11, hat11, hQ11⟩ := H11.out
      obtain ⟨hown10, hm10, hold10, hty10, hQ10, ha10⟩ := HX10.out
      have hb10 := HB10.out
      have hl9 := HL92.out
      have hP1 := HP1.out
      have hQ1 := HQ1.out
      have hm12 : Mod (· = Q) w11 w12 := by rw [hw12]; exact (Mod.refl (· = Q) w11).setCell (p := ⟨Q, 7, none⟩) (.inr rfl) _
      have hQ12 : Blk w12 Q 29 #[v0, v1, v2, v3, v4, v5, .slice A8 (A.length + 1) c8, .slice A11 (M.length + 1) c11] := by rw [hw12]; exact hQ11.set_ 7 _
      have hbQ : ¬ (Value.slice A5 M.length c5).ownBlock = some Q := own_blk_apart hb10 hQ10 (by decide)
      have hT : Mod (fun g => g = Q ∨ (Value.slice A5 M.length c5).ownBlock = some g) w10 w12 := (hm11.mono fun g _ h => .inr h.symm).trans (hm12.mono fun g _ h => .inl h)
      have hTi : ∀ g, (g = Q ∨ (Value.slice A5 M.length c5).ownBlock = some g) → NotT w10 g 49 := fun g hg => by
        rcases hg with rfl | hg
        · exact NotT.of hQ10 (by decide)
        · obtain ⟨_, _, hh⟩ := own_blk hb10 hg
          exact NotT.of hh (by decide)
      have htyp : ∀ v : Value, (∀ g, v.ownBlock = some g → ∃ cur, w10.heap[g]? = some (.cells cur 49 (0, 0))) → ∀ g, v.ownBlock = some g → ¬ (g = Q ∨ (Value.slice A5 M.length c5).ownBlock = some g) := fun v hv g hg hS => by
        obtain ⟨cur, hh⟩ := hv g hg
        exact hTi g hS _ hh
      have ha12 := own_mod ha10 hT (fun g hg hS => by
        rcases hS with rfl | hS
        · exact own_blk_apart ha10 hQ10 (by decide) hg
        · exact HA8.out g hg hS)
      have hb12 := own_mod hown11 hm12 (fun g hg e => own_blk_apart hown11 hQ11 (by decide) (by rw [← e]; exact hg))
      have hty10' : ∀ g, (Value.slice A10 (R.length + 1) c10).ownBlock = some g → ∃ cur, w10.heap[g]? = some (.cells cur 49 (0, 0)) := fun g hg => (own_blk hown10 hg).2
      have hsl := htyp _ hty10
      have htl := htyp _ hty10'
      have hs10 : AtB w10 49 w10.heap.size (.slice Al L.length cl) := fun g hg => by
        obtain ⟨cur, hh⟩ := hty10 g hg
        exact ⟨(Array.getElem?_eq_some_iff.1 hh).1, cur, hh⟩
      have hN12 : Mod (fun g => g = Q ∨ (Value.slice A4 A.length c4).ownBlock = some g ∨ (Value.slice Al L.length cl).ownBlock = some g ∨ (Value.slice A5 M.length c5).ownBlock = some g) wr w12 :=
        ((HN9.out.mono fun g _ h => h.elim .inl fun h => .inr (.inl h)).trans (hm10.mono fun g _ h => .inr (.inr (.inl h.symm)))).trans (hT.mono fun g _ h => h.elim .inl fun h => .inr (.inr (.inr h)))
      have hl1 := HL1.out
      refine ⟨rfl, _, _, A ++ [(Al, L.length, cl)], M ++ [(A10, R.length + 1, c10)], hQ12, ?_, by simp, by simp, ?_, HAT8.out, fun g hg => ?_⟩
      · refine hP1.grow hN12 (fun g hg => ?_) (by simpa using ha12) (by simpa using hb12) (fun g hg hg' => ?_) ((hs10.mod hT fun g hg => .inr (hTi g hg)).here) (((AtB.of_own hown10).mod hT fun g hg => .inr (hTi g hg)).here) HAM.out rfl rfl ?_ ?_
        · rcases hg with rfl | hg | hg | hg
          · exact .inr (NotT.of hQ1 (by decide))
          · obtain ⟨_, _, hh⟩ := own_blk hP1.ra hg
            exact .inr (NotT.of hh (by decide))
          · exact .inl (own_blk hl1 hg).1
          · obtain ⟨_, _, hh⟩ := own_blk hP1.rb hg
            exact .inr (NotT.of hh (by decide))
        · rcases hat11 with e1 | e1
          · exact HA8.out g hg (by rw [← e1]; exact hg')
          · rw [hg'] at e1
            injection e1 with e1
            obtain ⟨_, cur, hh⟩ := own_blk ha10 hg
            have := (Array.getElem?_eq_some_iff.1 hh).1
            omega
        · have := hold10.modX hT (fun _ => hsl)
          rw [HR.out] at this
          exact this
        · have h2 : ListAt encEntry 8 w10 (.slice A10 (R.length + 1) c10) (R ++ [mkE (-((A.length : Int) + 1))]) := list_of_ownRow (enc := encEntry) (fun _ => rfl) (by simpa using hown10)
          have := h2.modX hT (fun _ => htl)
          rw [HR.out] at this
          have e : (List.replicate L.length (mkE ((A.length : Int) + 1))).length = L.length := by simp
          rw [e] at this
          rw [HRL.out]
          exact this
      · exact ((HM9.out).trans (hm10.mono fun g _ h => .inr (.inl h.symm))).trans (hT.mono fun g _ h => h.elim .inl fun h => .inr (.inr (.inr h)))
      · rcases hat11 with e1 | e1
        · exact .inl (by rw [← e1]; exact hg)
        · rw [hg] at e1
          injection e1 with e1
          have := hm10.size
          have := HM9.out.size
          exact .inr (by omega)
    have HF := hide hpost
    clear hpost
    exact ⟨rfl, .tuple #[], by simp [results, Tryz.results18], HF.out⟩
end Go.Proofs.YtabebkffcmajkaaGreatDoor

/-! A node's list on its way into the book: generic for runs and names. -/
namespace Go.Proofs.YtabebkffcmajkaaGreatDoor
open Go.RowKit Go.Maps Go.Shelf
attribute [local go_sem] quietV loudUpon Oper.semAt_some

variable {α : Type} {enc : α → List Value} {sz : Nat} {e tS : TypeId} {mk : Int → α} {w w' : World} {b : Nat} {va vb v : Value} {A M A' : List (Option Addr × Nat × Nat)} {L : List α}
def LsB (enc : α → List Value) (sz : Nat) (e : TypeId) (mk : Int → α) (w : World) (b : Nat) (A M : List (Option Addr × Nat × Nat)) : Prop :=
  (∀ i (h : i < A.length) (h' : i < M.length), ListAt enc sz w (slV A[i]) (List.replicate A[i].2.1 (mk (i + 1))) ∧ ListAt enc sz w (slV M[i]) (List.replicate A[i].2.1 (mk (i + 1)) ++ [mk (-(i + 1))])) ∧ (∀ x ∈ A, AtB w e b (slV x)) ∧ (∀ x ∈ M, AtB w e b (slV x))
theorem LsB.mod (h : LsB enc sz e mk w b A M) {S : Nat → Prop} (hm : Mod S w w') (hS : ∀ g, S g → b ≤ g ∨ NotT w g e) : LsB enc sz e mk w' b A M := by
  have key : ∀ v, AtB w e b v → ∀ g, v.ownBlock = some g → ¬ S g := fun v hv g hg hSg => by
    obtain ⟨h1, cur, h2⟩ := hv g hg
    rcases hS g hSg with h3 | h3
    · omega
    · exact h3 _ h2
  refine ⟨fun i hi hi' => ?_, fun x hx => (h.2.1 x hx).mod hm hS, fun x hx => (h.2.2 x hx).mod hm hS⟩
  obtain ⟨l1, l2⟩ := h.1 i hi hi'
  exact ⟨l1.modX hm fun _ => key _ (h.2.1 _ (List.getElem_mem hi)), l2.modX hm fun _ => key _ (h.2.2 _ (List.getElem_mem hi'))⟩
/-- the list is not appended to yet -/
structure Hf (enc : α → List Value) (sz : Nat) (e tS : TypeId) (mk : Int → α) (w : World) (b : Nat) (va vb v : Value) (A' A M : List (Option Addr × Nat × Nat)) (L : List α) : Prop where
  ne : tS ≠ e
  ra : w.ownsRow 0 tS 1 va A'.length (rowOf encSl A')
  rb : w.ownsRow 0 tS 1 vb M.length (rowOf encSl M)
  ap : ∀ g, va.ownBlock = some g → vb.ownBlock = some g → False
  ls : LsB enc sz e mk w b A M
  ow : w.ownsRow b e sz v L.length (rowOf enc L)
theorem Pr.hf (h : Pr enc sz e tS mk w b va vb A M) (hne : tS ≠ e) (ho : w.ownsRow b e sz v L.length (rowOf enc L)) : Hf enc sz e tS mk w b va vb v A A M L := ⟨hne, h.ra, h.rb, h.ap, ⟨h.ls, h.ta, h.tb⟩, ho⟩
theorem own_modT {base z n : Nat} {t : TypeId} {u : Value} {xs : List Value} (h : w.ownsRow base t z u n xs) {S : Nat → Prop} (hm : Mod S w w') (hS : ∀ g, S g → NotT w g t) : w'.ownsRow base t z u n xs :=
  own_mod h hm fun g hg hs => by obtain ⟨_, cur, hh⟩ := own_blk h hg; exact hS g hs _ hh
theorem Hf.mod (h : Hf enc sz e tS mk w b va vb v A' A M L) {S : Nat → Prop} (hm : Mod S w w') (hS : ∀ g, S g → NotT w g tS ∧ NotT w g e) : Hf enc sz e tS mk w' b va vb v A' A M L :=
  ⟨h.ne, own_modT h.ra hm fun g hg => (hS g hg).1, own_modT h.rb hm fun g hg => (hS g hg).1, h.ap, h.ls.mod hm fun g hg => .inr (hS g hg).2, own_modT h.ow hm fun g hg => (hS g hg).2⟩
/-- written into -/
theorem Hf.put (h : Hf enc sz e tS mk w b va vb v A' A M L) {L' : List α} (ho : w'.ownsRow b e sz v L'.length (rowOf enc L')) (hm : Mod (fun g => v.ownBlock = some g) w w') : Hf enc sz e tS mk w' b va vb v A' A M L' := by
  have hS : ∀ g, v.ownBlock = some g → NotT w g tS ∧ b ≤ g := fun g hg => by
    obtain ⟨h1, cur, hh⟩ := own_blk h.ow hg
    exact ⟨NotT.of hh h.ne.symm, h1⟩
  exact ⟨h.ne, own_modT h.ra hm fun g hg => (hS g hg).1, own_modT h.rb hm fun g hg => (hS g hg).1, h.ap, h.ls.mod hm fun g hg => .inl (hS g hg).2, ho⟩
/-- the list goes into the first row -/
theorem Hf.pushA (h : Hf enc sz e tS mk w b va vb v A A M L) {va' : Value} {s : Option Addr × Nat × Nat} (hown : w'.ownsRow 0 tS 1 va' (A ++ [s]).length (rowOf encSl (A ++ [s]))) (hm : Mod (fun k => some k = va.ownBlock) w w') (hat : va'.ownBlock = va.ownBlock ∨ va'.ownBlock = some (w.heap.size + 1)) :
    Hf enc sz e tS mk w' b va' vb v (A ++ [s]) A M L := by
  have hS : ∀ g, some g = va.ownBlock → NotT w g e := fun g hg => by
    obtain ⟨_, cur, hh⟩ := own_blk h.ra hg.symm
    exact NotT.of hh h.ne
  refine ⟨h.ne, hown, own_mod h.rb hm (fun g hg hs => h.ap g hs.symm hg), fun g hg hg' => ?_, h.ls.mod hm fun g hg => .inr (hS g hg), own_modT h.ow hm hS⟩
  rcases hat with e1 | e1
  · exact h.ap g (by rw [← e1]; exact hg) hg'
  · rw [hg] at e1
    injection e1 with e1
    obtain ⟨_, cur, hh⟩ := own_blk h.rb hg'
    have := (Array.getElem?_eq_some_iff.1 hh).1
    omega
/-- the list is appended to -/
structure Hg (enc : α → List Value) (sz : Nat) (e tS : TypeId) (mk : Int → α) (w : World) (b : Nat) (va vb v r : Value) (A' A M : List (Option Addr × Nat × Nat)) (L : List α) (y : α) : Prop where
  ne : tS ≠ e
  ra : w.ownsRow 0 tS 1 va A'.length (rowOf encSl A')
  rb : w.ownsRow 0 tS 1 vb M.length (rowOf encSl M)
  ap : ∀ g, va.ownBlock = some g → vb.ownBlock = some g → False
  ls : LsB enc sz e mk w b A M
  old : ListAt enc sz w v L
  oty : ∀ g, v.ownBlock = some g → ∃ cur, w.heap[g]? = some (.cells cur e (0, 0))
  ow : w.ownsRow b e sz r (L ++ [y]).length (rowOf enc (L ++ [y]))
theorem Hf.app (h : Hf enc sz e tS mk w b va vb v A' A M L) {r : Value} {y : α} (hown : w'.ownsRow b e sz r (L ++ [y]).length (rowOf enc (L ++ [y]))) (hm : Mod (fun k => some k = v.ownBlock) w w') (hold : ListAt enc sz w' v L) (hty : ∀ g, v.ownBlock = some g → ∃ cur, w'.heap[g]? = some (.cells cur e (0, 0))) :
    Hg enc sz e tS mk w' b va vb v r A' A M L y := by
  have hS : ∀ g, some g = v.ownBlock → NotT w g tS ∧ b ≤ g := fun g hg => by
    obtain ⟨h1, cur, hh⟩ := own_blk h.ow hg.symm
    exact ⟨NotT.of hh h.ne.symm, h1⟩
  exact ⟨h.ne, own_modT h.ra hm fun g hg => (hS g hg).1, own_modT h.rb hm fun g hg => (hS g hg).1, h.ap, h.ls.mod hm fun g hg => .inl (hS g hg).2, hold, hty, hown⟩
theorem Hg.mod {r : Value} {y : α} (h : Hg enc sz e tS mk w b va vb v r A' A M L y) {S : Nat → Prop} (hm : Mod S w w') (hS : ∀ g, S g → NotT w g tS ∧ NotT w g e) : Hg enc sz e tS mk w' b va vb v r A' A M L y := by
  have key : ∀ g, v.ownBlock = some g → ¬ S g := fun g hg hs => by
    obtain ⟨cur, hh⟩ := h.oty g hg
    exact (hS g hs).2 _ hh
  refine ⟨h.ne, own_modT h.ra hm fun g hg => (hS g hg).1, own_modT h.rb hm fun g hg => (hS g hg).1, h.ap, h.ls.mod hm fun g hg => .inr (hS g hg).2, h.old.modX hm fun _ => key, fun g hg => ?_, own_modT h.ow hm fun g hg => (hS g hg).2⟩
  obtain ⟨cur, hh⟩ := h.oty g hg
  refine ⟨cur, ?_⟩
  rw [hm.block g (Array.getElem?_eq_some_iff.1 hh).1 (key g hg)]
  exact hh
/-- the list with one more goes into the second row -/
theorem Hg.pushB {Al Ar : Option Addr} {nl cl nr cr : Nat} {x y : Int} (h : Hg enc sz e tS mk w b va vb (.slice Al nl cl) (.slice Ar nr cr) (A ++ [(Al, nl, cl)]) A M (List.replicate nl (mk x)) (mk y)) (he : ∀ x, (enc x).length = sz) {vb' : Value} (hlen : A.length = M.length) (hx : x = A.length + 1) (hy : y = -x)
    (hown : w'.ownsRow 0 tS 1 vb' (M ++ [(Ar, nr, cr)]).length (rowOf encSl (M ++ [(Ar, nr, cr)]))) (hm : Mod (fun k => some k = vb.ownBlock) w w') (hat : vb'.ownBlock = vb.ownBlock ∨ vb'.ownBlock = some (w.heap.size + 1)) :
    Pr enc sz e tS mk w' w'.heap.size va vb' (A ++ [(Al, nl, cl)]) (M ++ [(Ar, nr, cr)]) := by
  have hS : ∀ g, some g = vb.ownBlock → NotT w g e := fun g hg => by
    obtain ⟨_, cur, hh⟩ := own_blk h.rb hg.symm
    exact NotT.of hh h.ne
  have hls := h.ls.mod hm fun g hg => .inr (hS g hg)
  have hty : ∀ u : Value, (∀ g, u.ownBlock = some g → ∃ cur, w.heap[g]? = some (.cells cur e (0, 0))) → AtB w e w.heap.size u := fun u hu g hg => by
    obtain ⟨cur, hh⟩ := hu g hg
    exact ⟨(Array.getElem?_eq_some_iff.1 hh).1, cur, hh⟩
  have hs := hty _ h.oty
  have ht := AtB.of_own h.ow
  have key : ∀ u, AtB w e w.heap.size u → ∀ g, u.ownBlock = some g → ¬ some g = vb.ownBlock := fun u hu g hg hS' => by
    obtain ⟨_, cur, hh⟩ := hu g hg
    exact hS g hS' _ hh
  have hs' := (hs.mod hm fun g hg => .inr (hS g hg)).here
  have ht' := (ht.mod hm fun g hg => .inr (hS g hg)).here
  have hl1 := h.old.modX hm fun _ => key _ hs
  have hl2 := (list_of_ownRow he h.ow).modX hm fun _ => key _ ht
  subst hy
  subst hx
  refine ⟨own_mod h.ra hm (fun g hg hs => h.ap g hg hs.symm), hown, fun g hg hg' => ?_, fun i hi hi' => ?_, fun x hx => ?_, fun x hx => ?_⟩
  · rcases hat with e1 | e1
    · exact h.ap g hg (by rw [← e1]; exact hg')
    · rw [hg'] at e1
      injection e1 with e1
      obtain ⟨_, cur, hh⟩ := own_blk h.ra hg
      have := (Array.getElem?_eq_some_iff.1 hh).1
      omega
  · have e1 : (A ++ [(Al, nl, cl)]).length = A.length + 1 := by simp
    by_cases hc : i < A.length
    · have := hls.1 i hc (by omega)
      rw [List.getElem_append_left hc, List.getElem_append_left (by omega)]
      exact this
    · obtain rfl : i = A.length := by omega
      rw [List.getElem_append_right (Nat.le_refl _), List.getElem_append_right (by omega)]
      simp only [List.getElem_singleton]
      exact ⟨hl1, hl2⟩
  · rcases List.mem_append.1 hx with hx | hx
    · exact (hls.2.1 x hx).here
    · obtain rfl := List.mem_singleton.1 hx
      exact hs'
  · rcases List.mem_append.1 hx with hx | hx
    · exact (hls.2.2 x hx).here
    · obtain rfl := List.mem_singleton.1 hx
      exact ht'
end Go.Proofs.YtabebkffcmajkaaGreatDoor

/-! Walk: keepNode. (Printed by mk_BK5.py.) -/
namespace Go.Proofs.YtabebkffcmajkaaGreatDoor
open Go.RowKit Go.Maps Go.Shelf
attribute [local go_sem] quietV loudUpon Oper.semAt_some

theorem jxw_append_row {α : Type} (enc : α → List Value) (t e : TypeId) (z : Value) (sz bytes : Nat) (hu : Tryz.prog.underlying t = some (.slice e)) (hin : (Tryz.prog.info? e).map (fun i => (i.zero, i.size, i.bytes)) = some (some z, sz, bytes))
    (hzs : z.cells.size = sz) (hsz0 : 0 < sz) (he : ∀ x, (enc x).length = sz) (hone : ∀ x, ∀ u ∈ enc x, u.oneCell' = true)
    {D : List Nat} {I : World → Prop} {R : Nat → World → Prop} {Q : Act → World → Prop} {k : Nat} {o : Oper} {os : List Oper} {l : List (Bool × Nat)} {done : List Nat} {a : Act} {w : World} (hok : os[k]? = some o) (hg : o.guard = none) (s x : Operand)
    (ho : o.op = .call { callee := .builtin .append, args := #[s, x], argTypes := #[t, t] }) (W : World) (base : Nat) (v : Value) (acc : List α) (p : α)
    (hw : w = W.alloc (.cells (enc p).toArray e)) (hs : a.eval s = v) (gx : Nat) (hgx : gx = W.heap.size) (hx : a.eval x = .slice (some ⟨gx, 0, none⟩) 1 1)
    (hown : W.ownsRow base e sz v acc.length (rowOf enc acc)) (hb : base ≤ W.heap.size) (hl : acc.length + 1 ≤ maxLen) (hl2 : (acc.length + 1) * bytes ≤ 140737488355328)
    (h : ∀ v' w', w'.ownsRow base e sz v' (acc ++ [p]).length (rowOf enc (acc ++ [p])) → Mod (fun k => some k = v.ownBlock) W w' → (v'.ownBlock = v.ownBlock ∨ v'.ownBlock = some (W.heap.size + 1)) → JD D I R (k :: done) w' ∧ JxW Tryz.prog os.toArray D I R Q l (k :: done) (a.put o.dst v') w') :
    JxW Tryz.prog os.toArray D I R Q ((false, k) :: l) done a w := by
  subst hgx
  obtain ⟨i0, hi, hz, hsz, hby⟩ := info_parts hin
  have hM : Mod None_ W w := by rw [hw]; exact (Mod.refl _ W).alloc _
  have hown1 := own_mod hown hM (fun _ _ f => f)
  have hB : Blk w W.heap.size e (enc p).toArray := by rw [hw]; exact Blk.new _ _ _
  obtain ⟨v', w', hrun, hown', hgr, _, hat⟩ := run_append_own_at (P := Tryz.prog) w base t o.type e i0 _ sz bytes hu hi hz hsz hby hzs hsz0 v acc.length _ hown1 ⟨W.heap.size, 0, none⟩ 1 1 (enc p) (by rw [he]; omega)
    (by
      intro j u hj
      rw [Addr.add_lit, Nat.zero_add, hB.cell]
      simpa using hj)
    (hone p) hl hl2 (by rw [hw, alloc_size]; omega)
  have hsw : w.heap.size = W.heap.size + 1 := by rw [hw, alloc_size]
  have ell : (acc ++ [p]).length = acc.length + 1 := by simp
  rw [← rowOf_snoc, ← ell] at hown'
  have hk := h v' w' hown' (hM.none.trans' (Mod.of_grown hgr) (fun k _ e => e)) (by rw [hsw] at hat; exact hat)
  refine jxw_loud hok fun K hK => ?_
  have hrun2 : (execOp a.eval o).run Tryz.prog w = .ok (.value v') w' := by
    unfold execOp
    simp only [ho, resolve, invoke, builtin, Sem.run_bind, Sem.run_pure, Result.andThen_ok, List.map_toArray, List.map_cons, List.map_nil, hs, hx, hrun]
  rw [if_pos (by simp [Region.wanted, hg]), hrun2]
  exact ⟨hk.1, hK _ _ hk.2⟩
def mkR (z : Int) : RunD := ⟨z, 0, 0⟩
def mkD (z : Int) : ByteArray × Int := (⟨#[]⟩, z)
abbrev PrR (w : World) (b : Nat) (va vb : Value) (A M : List (Option Addr × Nat × Nat)) : Prop := Pr encRun 3 73 30 mkR w b va vb A M
abbrev PrD (w : World) (b : Nat) (va vb : Value) (A M : List (Option Addr × Nat × Nat)) : Prop := Pr encDent 2 75 31 mkD w b va vb A M
theorem infoSlR : (Tryz.prog.info? 30).map (fun i => (i.zero, i.size, i.bytes)) = some (some (.slice none 0 0), 1, 24) := by kernel_rfl
theorem infoSlD : (Tryz.prog.info? 31).map (fun i => (i.zero, i.size, i.bytes)) = some (some (.slice none 0 0), 1, 24) := by kernel_rfl
theorem infoR3 : (Tryz.prog.info? 73).map (·.size) = some (encRun (mkR 0)).toArray.size := by show _ = some 3; kernel_rfl
theorem infoD2 : (Tryz.prog.info? 75).map (·.size) = some (encDent (mkD 0)).toArray.size := by show _ = some 2; kernel_rfl
theorem infoDentB : (Tryz.prog.info? 75).map (fun i => (i.zero, i.size, i.bytes)) = some (some (.agg #[.string ⟨#[]⟩, .int .i64 0]), 2, 24) := by kernel_rfl
theorem notT_own {W : World} {base z n : Nat} {t t2 : TypeId} {u : Value} {xs : List Value} (h : W.ownsRow base t z u n xs) (hn : t ≠ t2) {g : Nat} (hg : u.ownBlock = some g) : NotT W g t2 := by
  obtain ⟨_, _, hh⟩ := own_blk h hg
  exact NotT.of hh hn
theorem there_own {β : Type} {en : β → List Value} {s : Nat} (he : ∀ x, (en x).length = s) {W : World} {base : Nat} {t : TypeId} {g c : Nat} {l : List β} (h : W.ownsRow base t s (.slice (some ⟨g, 0, none⟩) l.length c) l.length (rowOf en l)) {k : Nat} (hk : k < l.length) : W.there g (k * s) s := by
  obtain ⟨g2, c2, cur, hv, hbg, hB, hn, hc, hfr, hcell⟩ := own_at he h hk
  simp only [Value.slice.injEq, Option.some.injEq, Addr.mk.injEq, true_and, and_true] at hv
  obtain ⟨rfl, rfl⟩ := hv
  intro j hj
  exact ⟨by rw [hcell j _ (List.getElem?_eq_getElem (by rw [he]; exact hj))]; rfl, hfr _⟩
theorem S_trans {x y z : World} {u : Value} (h1 : Mod None_ x y) (h2 : Mod (fun k => some k = u.ownBlock) y z) : Mod (fun g => u.ownBlock = some g) x z := (h1.mono fun _ _ f => f.elim).trans (h2.mono fun _ _ e => e.symm)
def BookAt (w : World) (Q b : Nat) (v0 v1 v2 v3 v4 v5 v6 v7 : Value) (kR kN kE : Nat) : Prop :=
  Blk w Q 29 #[v0, v1, v2, v3, v4, v5, v6, v7] ∧ (∃ A M, PrR w b v0 v1 A M ∧ A.length = kR ∧ M.length = kR) ∧ (∃ A M, PrD w b v2 v3 A M ∧ A.length = kR ∧ M.length = kR) ∧ (∃ A M, PrN w b v4 v5 A M ∧ A.length = kN ∧ M.length = kN) ∧ ∃ A M, PrE w b v6 v7 A M ∧ A.length = kE ∧ M.length = kE
/-- blocks of the book -/
def BkO (Q : Nat) (v0 v1 v2 v3 v4 v5 v6 v7 : Value) (g : Nat) : Prop := g = Q ∨ v0.ownBlock = some g ∨ v1.ownBlock = some g ∨ v2.ownBlock = some g ∨ v3.ownBlock = some g ∨ v4.ownBlock = some g ∨ v5.ownBlock = some g ∨ v6.ownBlock = some g ∨ v7.ownBlock = some g
def KeepPost (w : World) (Q : Nat) (LS : Nat → Prop) (v0 v1 v2 v3 v4 v5 v6 v7 : Value) (kR kN kE : Nat) : Ending → World → Prop := fun e w' => e = .returned (.tuple #[]) ∧ ∃ u0 u1 u2 u3 u4 u5 u6 u7, BookAt w' Q w'.heap.size u0 u1 u2 u3 u4 u5 u6 u7 kR kN kE ∧
  Mod (fun g => LS g ∨ BkO Q v0 v1 v2 v3 v4 v5 v6 v7 g) w w' ∧ ∀ g, BkO Q u0 u1 u2 u3 u4 u5 u6 u7 g → BkO Q v0 v1 v2 v3 v4 v5 v6 v7 g ∨ w.heap.size ≤ g
def NodeLS (vm vn vl : Value) (g : Nat) : Prop := vm.ownBlock = some g ∨ vn.ownBlock = some g ∨ vl.ownBlock = some g
def SR (Q : Nat) (vm vn v0 v1 v2 v3 : Value) (g : Nat) : Prop := g = Q ∨ vm.ownBlock = some g ∨ vn.ownBlock = some g ∨ v0.ownBlock = some g ∨ v1.ownBlock = some g ∨ v2.ownBlock = some g ∨ v3.ownBlock = some g

set_option maxRecDepth 100000 in
set_option maxHeartbeats 4000000 in
theorem keepNode_any (w : World) (Q b : Nat) (v0 v1 v2 v3 v4 v5 v6 v7 vm vn vl : Value) (n : NodeD) (kR kN kE : Nat) (hB : BookAt w Q b v0 v1 v2 v3 v4 v5 v6 v7 kR kN kE) (hn : NodeOwn b w n vm vn vl) (hkR : kR ≤ 100000) (hkN : kN ≤ 100000) (hb : b ≤ w.heap.size)
    (hlm : n.map.length ≤ 1000000) (hln : n.names.length ≤ 1000000) (hll : n.log.length ≤ 1000000) :
    Calls Tryz.prog 11 #[.pointer (some ⟨Q, 0, none⟩), .agg (nodeC n vm vn vl)] w (KeepPost w Q (NodeLS vm vn vl) v0 v1 v2 v3 v4 v5 v6 v7 (kR + 1) (kN + 1) kE) := by
  obtain ⟨hQ, ⟨AR, MR, hR, hA1, hA2⟩, ⟨AD, MD, hD, hA3, hA4⟩, ⟨AN, MN, hPN, hA5, hA6⟩, ⟨AE, ME, hPE, hA7, hA8⟩⟩ := hB
  subst hA1
  obtain ⟨A0, c0, rfl⟩ := own_slice hR.ra
  obtain ⟨A1, c1, rfl⟩ := own_slice hR.rb
  obtain ⟨A2, c2, rfl⟩ := own_slice hD.ra
  obtain ⟨A3, c3, rfl⟩ := own_slice hD.rb
  obtain ⟨Am, cm, rfl⟩ := own_slice hn.map
  obtain ⟨An, cn, rfl⟩ := own_slice hn.names
  obtain ⟨Al, cl, rfl⟩ := own_slice hn.log
  have hR := hR.hf (by decide) hn.map
  have hD := hD.hf (by decide) hn.names
  obtain ⟨m, hm⟩ : ∃ m, m = w.heap.size := ⟨_, rfl⟩
  obtain ⟨x0, hx0⟩ : ∃ x0, x0 = w.alloc (.cells (nodeC n (.slice Am n.map.length cm) (.slice An n.names.length cn) (.slice Al n.log.length cl)) 34) := ⟨_, rfl⟩
  have hM0 : Mod None_ w x0 := by rw [hx0]; exact (Mod.refl _ w).alloc _
  have B0 : Blk x0 m 34 (nodeC n (.slice Am n.map.length cm) (.slice An n.names.length cn) (.slice Al n.log.length cl)) := by rw [hx0, hm]; exact Blk.new w _ _
  have R0 := hR.mod hM0 (fun _ f => f.elim)
  have D0 := hD.mod hM0 (fun _ f => f.elim)
  have Q0 := hQ.mod hM0 id
  have HPN := hide (hPN.kept hM0)
  have HPE := hide (hPE.kept hM0)
  have HLO := hide (own_mod hn.log hM0 (fun _ _ f => f))
  have HM0 := hide hM0
  have HA2 := hide hA2
  have HA3 := hide hA3
  have HA4 := hide hA4
  have HA5 := hide hA5
  have HA6 := hide hA6
  have HA7 := hide hA7
  have HA8 := hide hA8
  have hbx0 : b ≤ x0.heap.size := Nat.le_trans hb hM0.size
  have hwx0 : w.heap.size ≤ x0.heap.size := hM0.size
  have HMM := hide hm
  unfold nodeC at hx0
  have HX0 := hide hx0
  clear hR hD hQ hPN hPE hn hM0 hA2 hA3 hA4 hA5 hA6 hA7 hA8 hm hx0
  have q0 : x0.cell? ⟨Q, 0, none⟩ = some (.slice A0 AR.length c0) := Q0.cell 0
  have b4 : x0.cell? ⟨m, 4, none⟩ = some (.slice Am n.map.length cm) := B0.cell 4
  have hl4 : ∀ w, (Builtin.len_ #[30] 3 #[.slice Am n.map.length cm]).run Tryz.prog w = .ok (.int .i64 n.map.length) w := fun w => by simp [Builtin.len_, run_underlying Tryz.underlying30]; rfl
  have hl5 : ∀ w, (Builtin.len_ #[31] 3 #[.slice An n.names.length cn]).run Tryz.prog w = .ok (.int .i64 n.names.length) w := fun w => by simp [Builtin.len_, run_underlying Tryz.underlying31]; rfl
  have hl0 : ∀ w, (Builtin.len_ #[24] 3 #[.slice A0 AR.length c0]).run Tryz.prog w = .ok (.int .i64 AR.length) w := fun w => by simp [Builtin.len_, run_underlying Tryz.underlying24]; rfl
  have HQ0 := hide Q0
  have HB0 := hide B0
  have HR0 := hide R0
  have HD0 := hide D0
  clear Q0 B0 R0 D0
  unfold nodeC
  go_enter Tryz.func11, Tryz.ntmps11
  go_upto_region 1 with fail
  rw [← HMM.out, ← HX0.out]
  go_wp2_with fail
  go_loopw [5] (fun s5 wr => ∃ (k : Nat), k ≤ n.map.length ∧ s5 = .int .i64 k ∧ wr.ownsRow b 73 3 (.slice Am n.map.length cm) (over (mkR ((AR.length : Int) + 1)) k n.map).length (rowOf encRun (over (mkR ((AR.length : Int) + 1)) k n.map)) ∧ Mod (fun g => (Value.slice Am n.map.length cm).ownBlock = some g) x0 wr) (fun s5 _ => n.map.length - (intOf s5).toNat)
  case atStart => exact ⟨0, Nat.zero_le _, rfl, by rw [over_zero]; exact HR0.out.ow, Mod.refl _ _⟩
  obtain ⟨k, hk, rfl, hown, hM⟩ := hrel
  have bb := HB0.out.mod hM (own_blk_apart HR0.out.ow HB0.out (by decide))
  have b4' : wr.cell? ⟨m, 4, none⟩ = some (.slice Am n.map.length cm) := bb.cell 4
  by_cases hlt : k < n.map.length
  · have hki : (k : Int) < n.map.length := by omega
    have hol := over_length (mkR ((AR.length : Int) + 1)) n.map hk
    obtain ⟨g, c, cur, hv, hbg, hB, hn, hc, hfr, hcell⟩ := own_at (en := encRun) (fun _ => rfl) (by rw [hol] at hown ⊢; exact hown) (k := k) (by omega)
    simp only [Value.slice.injEq, true_and] at hv
    obtain ⟨rfl, -, rfl⟩ := hv
    have hth := there_own (en := encRun) (l := over (mkR ((AR.length : Int) + 1)) k n.map) (k := k) (fun _ => rfl) (by rw [hol] at hown ⊢; exact hown) (by omega)
    have HTH := hide hth
    have hset := own_set (enc := encRun) (k := k) (l := over (mkR ((AR.length : Int) + 1)) k n.map) (fun _ => rfl) (by rw [hol] at hown ⊢; exact hown) (by omega) (mkR ((AR.length : Int) + 1))
    rw [over_succ _ _ hlt] at hset
    have hol2 := over_length (mkR ((AR.length : Int) + 1)) (k := k + 1) n.map hlt
    rw [hol2] at hset
    have HS := hide hset
    have HO := hide hol2
    have HM := hide hM
    have hcc : n.map.length ≤ cm := by omega
    clear hset hol hol2 hM hown hB hn hc hfr hcell hbg hth bb
    go_wp2_with ((with_reducible refine at_none 73 27 26 ?_); refine wpList_store_mid rfl 73 (.tmp 27) (.tmp 26) rfl g (k * 3) (encRun (mkR ((AR.length : Int) + 1))).toArray rfl rfl HTH.out infoR3 (all_oneCell_toArray (oneRun _)) ?_; go_frame)
    go_roundw
    case rel =>
      refine ⟨k + 1, hlt, by simp, ?_, ?_⟩
      · rw [HO.out]
        exact HS.out.1
      · exact HM.out.trans (HS.out.2.mono fun g _ e => by cases e; rfl)
    case measure => simp [intOf]; omega
  obtain rfl : k = n.map.length := by omega
  have hkn : ¬ (n.map.length : Int) < n.map.length := by omega
  have hol := over_length (mkR ((AR.length : Int) + 1)) n.map hk
  rw [over_all] at hown
  obtain ⟨x1, hxx⟩ : ∃ x, x = wr := ⟨_, rfl⟩
  rw [← hxx] at hown hM bb b4' ⊢
  have HR1 := hide (HR0.out.put hown hM)
  have HD1 := hide (HD0.out.mod hM fun g hg => ⟨notT_own HR0.out.ow (by decide) hg, notT_own HR0.out.ow (by decide) hg⟩)
  have HQ1 := hide (HQ0.out.mod hM (own_blk_apart HR0.out.ow HQ0.out (by decide)))
  have HB1 := hide bb
  have HZ1 := hide hM
  have hbx1 := Nat.le_trans hbx0 hM.size
  have hwx1 := Nat.le_trans hwx0 hM.size
  clear hown hM bb hol hlt hk hxx
  have b5 : x1.cell? ⟨m, 5, none⟩ = some (.slice An n.names.length cn) := HB1.out.cell 5
  clear b4 q0
  go_wp2_with fail
  clear b4'
  go_loopw [6] (fun s6 wr => ∃ (k : Nat), k ≤ n.names.length ∧ s6 = .int .i64 k ∧ wr.ownsRow b 75 2 (.slice An n.names.length cn) (over (mkD ((AR.length : Int) + 1)) k n.names).length (rowOf encDent (over (mkD ((AR.length : Int) + 1)) k n.names)) ∧ Mod (fun g => (Value.slice An n.names.length cn).ownBlock = some g) x1 wr) (fun s6 _ => n.names.length - (intOf s6).toNat)
  case atStart => exact ⟨0, Nat.zero_le _, rfl, by rw [over_zero]; exact HD1.out.ow, Mod.refl _ _⟩
  obtain ⟨k, hk, rfl, hown, hM⟩ := hrel
  have bb := HB1.out.mod hM (own_blk_apart HD1.out.ow HB1.out (by decide))
  have b5' : wr.cell? ⟨m, 5, none⟩ = some (.slice An n.names.length cn) := bb.cell 5
  by_cases hlt : k < n.names.length
  · have hki : (k : Int) < n.names.length := by omega
    have hol := over_length (mkD ((AR.length : Int) + 1)) n.names hk
    obtain ⟨g, c, cur, hv, hbg, hB, hn, hc, hfr, hcell⟩ := own_at (en := encDent) (fun _ => rfl) (by rw [hol] at hown ⊢; exact hown) (k := k) (by omega)
    simp only [Value.slice.injEq, true_and] at hv
    obtain ⟨rfl, -, rfl⟩ := hv
    have hth := there_own (en := encDent) (l := over (mkD ((AR.length : Int) + 1)) k n.names) (k := k) (fun _ => rfl) (by rw [hol] at hown ⊢; exact hown) (by omega)
    have HTH := hide hth
    have hset := own_set (enc := encDent) (k := k) (l := over (mkD ((AR.length : Int) + 1)) k n.names) (fun _ => rfl) (by rw [hol] at hown ⊢; exact hown) (by omega) (mkD ((AR.length : Int) + 1))
    rw [over_succ _ _ hlt] at hset
    have hol2 := over_length (mkD ((AR.length : Int) + 1)) (k := k + 1) n.names hlt
    rw [hol2] at hset
    have HS := hide hset
    have HO := hide hol2
    have HM := hide hM
    have hcc : n.names.length ≤ cn := by omega
    clear hset hol hol2 hM hown hB hn hc hfr hcell hbg hth bb
    go_wp2_with ((with_reducible refine at_none 75 40 39 ?_); refine wpList_store_mid rfl 75 (.tmp 40) (.tmp 39) rfl g (k * 2) (encDent (mkD ((AR.length : Int) + 1))).toArray rfl rfl HTH.out infoD2 (all_oneCell_toArray (oneDent _)) ?_; go_frame)
    go_roundw
    case rel =>
      refine ⟨k + 1, hlt, by simp, ?_, ?_⟩
      · rw [HO.out]
        exact HS.out.1
      · exact HM.out.trans (HS.out.2.mono fun g _ e => by cases e; rfl)
    case measure => simp [intOf]; omega
  obtain rfl : k = n.names.length := by omega
  have hkn : ¬ (n.names.length : Int) < n.names.length := by omega
  have hol := over_length (mkD ((AR.length : Int) + 1)) n.names hk
  rw [over_all] at hown
  obtain ⟨x2, hxx⟩ : ∃ x, x = wr := ⟨_, rfl⟩
  rw [← hxx] at hown hM bb b5' ⊢
  have HR2 := hide (HR1.out.mod hM fun g hg => ⟨notT_own HD1.out.ow (by decide) hg, notT_own HD1.out.ow (by decide) hg⟩)
  have HD2 := hide (HD1.out.put hown hM)
  have HQ2 := hide (HQ1.out.mod hM (own_blk_apart HD1.out.ow HQ1.out (by decide)))
  have HB2 := hide bb
  have HZ2 := hide hM
  have hbx2 := Nat.le_trans hbx1 hM.size
  have hwx2 := Nat.le_trans hwx1 hM.size
  clear hown hM bb hol hlt hk hxx
  go_upto_region 10 with fail
  clear b5'
  refine region_jxw [(true, 0), (true, 1), (true, 2), (true, 3), (true, 4), (true, 5), (true, 6), (false, 7), (false, 8), (true, 9), (true, 10), (false, 11)] [11] (fun w' => w'.cell? ⟨m, 4, none⟩ = some (.slice Am n.map.length cm)) (fun _ w' => w'.cell? ⟨Q, 0, none⟩ = some (.slice A0 AR.length c0)) (by kernel_rfl) (by kernel_rfl) ?_
  rintro y hy
  have hmy : Mod None_ x2 y := by rw [hy]; exact (Mod.refl _ x2).drew
  have Qy := HQ2.out.mod hmy id
  have By := HB2.out.mod hmy id
  have Xy := HR2.out.mod hmy (fun _ f => f.elim)
  have hsy := hmy.size
  have hby := Nat.le_trans hbx2 hsy
  have hwy := Nat.le_trans hwx2 hsy
  have HMY := hide hmy
  clear hmy hy
  refine ⟨By.cell 4, fun _ _ => Qy.cell 0, ?_⟩
  iterate 4 (refine jxw_quiet rfl rfl [] (by kernel_rfl) (fun w' i1 i2 K hK => by go_simp; exact hK) ?_; go_frame)
  refine jxw_quiet rfl rfl [11] (by kernel_rfl) (fun w' i1 i2 K hK => by have i3 := i2 11 (by simp); go_simp; exact hK) ?_
  go_frame
  iterate 2 (refine jxw_quiet rfl rfl [] (by kernel_rfl) (fun w' i1 i2 K hK => by go_simp; exact hK) ?_; go_frame)
  have hmI : Mod None_ y (y.alloc (.cells (encSl (Am, n.map.length, cm)).toArray 30)) := (Mod.refl _ y).alloc _
  have hI1 := (By.mod hmI id).cell 4
  have hI2 := (Qy.mod hmI id).cell 0
  clear hmI
  have XY := hide Xy
  have BY := hide By
  have QY := hide Qy
  clear Xy By Qy
  refine jxw_loud rfl (fun K hK => ?_)
  go_simp
  refine ⟨⟨hI1, fun _ _ _ => hI2⟩, hK _ _ ?_⟩
  clear hK K hI1 hI2
  try go_frame
  have hra := XY.out.ra
  refine jxw_append_row encSl 24 30 (.slice none 0 0) 1 24 Tryz.underlying24 infoSlR rfl (by decide) (fun _ => rfl) oneSl rfl rfl (.tmp 45) (.tmp 48) rfl y 0 (.slice A0 AR.length c0) AR (Am, n.map.length, cm) rfl rfl y.heap.size rfl rfl hra (Nat.zero_le _) (by unfold maxLen; have := HA3.out; omega) (by have := HA3.out; omega) ?_
  intro v8 x3 hown8 hm8 hat8
  have el : (AR ++ [(Am, n.map.length, cm)]).length = AR.length + 1 := by simp
  obtain ⟨A8, c8, rfl⟩ := own_slice hown8
  have b8 := QY.out.mod hm8 (fun e => own_blk_apart hra QY.out (by decide) e.symm)
  have bB8 := BY.out.mod hm8 (fun e => own_blk_apart hra BY.out (by decide) e.symm)
  have HR3 := hide (XY.out.pushA hown8 hm8 hat8)
  have HD3 := hide ((HD2.out.mod HMY.out fun _ f => f.elim).mod hm8 fun g hg => ⟨notT_own hra (by decide) hg.symm, notT_own hra (by decide) hg.symm⟩)
  have HZ3 := hide (S_trans HMY.out hm8)
  have hbx3 := Nat.le_trans hbx2 HZ3.out.size
  have hwx3 := Nat.le_trans hwx2 HZ3.out.size
  have HAT3 : Hid (∀ g, (Value.slice A8 (AR ++ [(Am, n.map.length, cm)]).length c8).ownBlock = some g → ((.slice A0 AR.length c0) : Value).ownBlock = some g ∨ w.heap.size ≤ g) := hide fun g hg => by
    rcases hat8 with e1 | e1
    · exact .inl (by rw [← e1]; exact hg)
    · rw [hg] at e1; injection e1 with e1; exact .inr (by omega)
  have f8 := b8.frozen 0
  have g8 := b8.cell 0
  have hB8 := bB8.cell 4
  have HQ3 := hide b8
  have HB3 := hide bB8
  clear hown8 hm8 hat8 b8 bB8 hra
  refine ⟨⟨hB8, fun _ _ _ => g8⟩, ?_⟩
  try go_frame
  iterate 2 (refine jxw_quiet rfl rfl [] (by kernel_rfl) (fun w' i1 i2 K hK => by go_simp; exact hK) ?_; go_frame)
  refine jxw_loud rfl (fun K hK => ?_)
  go_simp
  rw [← el]
  obtain ⟨x4, hx4⟩ : ∃ x, x = x3.setCell ⟨Q, 0, none⟩ (.slice A8 (AR ++ [(Am, n.map.length, cm)]).length c8) := ⟨_, rfl⟩
  rw [← hx4]
  have hs5 : Mod (· = Q) x3 x4 := by rw [hx4]; exact (Mod.refl (· = Q) x3).setCell (p := ⟨Q, 0, none⟩) (.inr rfl) _
  have Qn := HQ3.out.set_ 0 (.slice A8 (AR ++ [(Am, n.map.length, cm)]).length c8)
  rw [← hx4] at Qn
  have bB9 := HB3.out.mod hs5 (fun e => apart_of HB3.out HQ3.out (by decide) e)
  have HR4 := hide (HR3.out.mod hs5 fun g hg => by cases hg; exact ⟨NotT.of HQ3.out (by decide), NotT.of HQ3.out (by decide)⟩)
  have HD4 := hide (HD3.out.mod hs5 fun g hg => by cases hg; exact ⟨NotT.of HQ3.out (by decide), NotT.of HQ3.out (by decide)⟩)
  have HQ4 := hide Qn
  have HZ4 := hide hs5
  have hbx4 := Nat.le_trans hbx3 hs5.size
  have hwx4 := Nat.le_trans hwx3 hs5.size
  have hB9 := bB9.cell 4
  have HB4 := hide bB9
  clear hx4 hs5 Qn bB9
  refine ⟨⟨hB9, fun d hd hn => absurd (by simp at hd; simp [hd]) hn⟩, hK _ _ ?_⟩
  clear hK K f8 g8 hB8 hB9 el
  try go_frame
  refine jxw_nil ?_
  obtain ⟨U0, d0, hu⟩ : ∃ A c, A = A8 ∧ c = c8 := ⟨_, _, rfl, rfl⟩
  obtain ⟨rfl, rfl⟩ := hu
  go_upto_region 11 with fail
  refine region_jxw [(true, 0), (true, 1), (true, 2), (true, 3), (true, 4), (true, 5), (true, 6), (false, 7), (false, 8), (true, 9), (true, 10), (false, 11)] [11] (fun w' => w'.cell? ⟨m, 5, none⟩ = some (.slice An n.names.length cn)) (fun _ w' => w'.cell? ⟨Q, 2, none⟩ = some (.slice A2 AD.length c2)) (by kernel_rfl) (by kernel_rfl) ?_
  rintro y hy
  have hmy : Mod None_ x4 y := by rw [hy]; exact (Mod.refl _ x4).drew
  have Qy := HQ4.out.mod hmy id
  have By := HB4.out.mod hmy id
  have Xy := HD4.out.mod hmy (fun _ f => f.elim)
  have hsy := hmy.size
  have hby := Nat.le_trans hbx4 hsy
  have hwy := Nat.le_trans hwx4 hsy
  have HMY := hide hmy
  clear hmy hy
  refine ⟨By.cell 5, fun _ _ => Qy.cell 2, ?_⟩
  iterate 4 (refine jxw_quiet rfl rfl [] (by kernel_rfl) (fun w' i1 i2 K hK => by go_simp; exact hK) ?_; go_frame)
  refine jxw_quiet rfl rfl [11] (by kernel_rfl) (fun w' i1 i2 K hK => by have i3 := i2 11 (by simp); go_simp; exact hK) ?_
  go_frame
  iterate 2 (refine jxw_quiet rfl rfl [] (by kernel_rfl) (fun w' i1 i2 K hK => by go_simp; exact hK) ?_; go_frame)
  have hmI : Mod None_ y (y.alloc (.cells (encSl (An, n.names.length, cn)).toArray 31)) := (Mod.refl _ y).alloc _
  have hI1 := (By.mod hmI id).cell 5
  have hI2 := (Qy.mod hmI id).cell 2
  clear hmI
  have XY := hide Xy
  have BY := hide By
  have QY := hide Qy
  clear Xy By Qy
  refine jxw_loud rfl (fun K hK => ?_)
  go_simp
  refine ⟨⟨hI1, fun _ _ _ => hI2⟩, hK _ _ ?_⟩
  clear hK K hI1 hI2
  try go_frame
  have hra := XY.out.ra
  refine jxw_append_row encSl 25 31 (.slice none 0 0) 1 24 Tryz.underlying25 infoSlD rfl (by decide) (fun _ => rfl) oneSl rfl rfl (.tmp 56) (.tmp 59) rfl y 0 (.slice A2 AD.length c2) AD (An, n.names.length, cn) rfl rfl y.heap.size rfl rfl hra (Nat.zero_le _) (by unfold maxLen; have := HA3.out; omega) (by have := HA3.out; omega) ?_
  intro v8 x5 hown8 hm8 hat8
  have el : (AD ++ [(An, n.names.length, cn)]).length = AD.length + 1 := by simp
  obtain ⟨A8, c8, rfl⟩ := own_slice hown8
  have b8 := QY.out.mod hm8 (fun e => own_blk_apart hra QY.out (by decide) e.symm)
  have bB8 := BY.out.mod hm8 (fun e => own_blk_apart hra BY.out (by decide) e.symm)
  have HD5 := hide (XY.out.pushA hown8 hm8 hat8)
  have HR5 := hide ((HR4.out.mod HMY.out fun _ f => f.elim).mod hm8 fun g hg => ⟨notT_own hra (by decide) hg.symm, notT_own hra (by decide) hg.symm⟩)
  have HZ5 := hide (S_trans HMY.out hm8)
  have hbx5 := Nat.le_trans hbx4 HZ5.out.size
  have hwx5 := Nat.le_trans hwx4 HZ5.out.size
  have HAT5 : Hid (∀ g, (Value.slice A8 (AD ++ [(An, n.names.length, cn)]).length c8).ownBlock = some g → ((.slice A2 AD.length c2) : Value).ownBlock = some g ∨ w.heap.size ≤ g) := hide fun g hg => by
    rcases hat8 with e1 | e1
    · exact .inl (by rw [← e1]; exact hg)
    · rw [hg] at e1; injection e1 with e1; exact .inr (by omega)
  have f8 := b8.frozen 2
  have g8 := b8.cell 2
  have hB8 := bB8.cell 5
  have HQ5 := hide b8
  have HB5 := hide bB8
  clear hown8 hm8 hat8 b8 bB8 hra
  refine ⟨⟨hB8, fun _ _ _ => g8⟩, ?_⟩
  try go_frame
  iterate 2 (refine jxw_quiet rfl rfl [] (by kernel_rfl) (fun w' i1 i2 K hK => by go_simp; exact hK) ?_; go_frame)
  refine jxw_loud rfl (fun K hK => ?_)
  go_simp
  rw [← el]
  obtain ⟨x6, hx6⟩ : ∃ x, x = x5.setCell ⟨Q, 2, none⟩ (.slice A8 (AD ++ [(An, n.names.length, cn)]).length c8) := ⟨_, rfl⟩
  rw [← hx6]
  have hs5 : Mod (· = Q) x5 x6 := by rw [hx6]; exact (Mod.refl (· = Q) x5).setCell (p := ⟨Q, 2, none⟩) (.inr rfl) _
  have Qn := HQ5.out.set_ 2 (.slice A8 (AD ++ [(An, n.names.length, cn)]).length c8)
  rw [← hx6] at Qn
  have bB9 := HB5.out.mod hs5 (fun e => apart_of HB5.out HQ5.out (by decide) e)
  have HR6 := hide (HR5.out.mod hs5 fun g hg => by cases hg; exact ⟨NotT.of HQ5.out (by decide), NotT.of HQ5.out (by decide)⟩)
  have HD6 := hide (HD5.out.mod hs5 fun g hg => by cases hg; exact ⟨NotT.of HQ5.out (by decide), NotT.of HQ5.out (by decide)⟩)
  have HQ6 := hide Qn
  have HZ6 := hide hs5
  have hbx6 := Nat.le_trans hbx5 hs5.size
  have hwx6 := Nat.le_trans hwx5 hs5.size
  have hB9 := bB9.cell 5
  have HB6 := hide bB9
  clear hx6 hs5 Qn bB9
  refine ⟨⟨hB9, fun d hd hn => absurd (by simp at hd; simp [hd]) hn⟩, hK _ _ ?_⟩
  clear hK K f8 g8 hB8 hB9 el
  try go_frame
  refine jxw_nil ?_
  obtain ⟨U2, d2, hu⟩ : ∃ A c, A = A8 ∧ c = c8 := ⟨_, _, rfl, rfl⟩
  obtain ⟨rfl, rfl⟩ := hu
  go_upto_region 12 with fail
  have b4 : x6.cell? ⟨m, 4, none⟩ = some (.slice Am n.map.length cm) := HB6.out.cell 4
  have how := HR6.out.ow
  have hrl : (List.replicate n.map.length (mkR ((AR.length : Int) + 1))).length = n.map.length := by simp
  go_upto_region 13 with (
    (with_reducible refine at_slot 69 ?_)
    refine wpList_append_keep encRun 30 73 (.agg #[.int .i64 0, .int .i64 0, .int .i64 0]) 3 24 Tryz.underlying30 infoRun rfl (by decide) (fun _ => rfl) oneRun rfl (.tmp 64) (.tmp 68) rfl x6 b (.slice Am n.map.length cm) (List.replicate n.map.length (mkR ((AR.length : Int) + 1))) (mkR (-((AR.length : Int) + 1))) rfl rfl x6.heap.size rfl rfl how hbx6 (by unfold maxLen; omega) (by omega) ?_
    intro v8 x7 hown8 hm8 hat8 hold8 hty8
    have el : (List.replicate n.map.length (mkR ((AR.length : Int) + 1)) ++ [mkR (-((AR.length : Int) + 1))]).length = n.map.length + 1 := by simp
    have HR7 := HR6.out.app hown8 hm8 hold8 hty8
    rw [el] at hown8
    obtain ⟨Ar, cr, rfl⟩ := own_slice hown8
    have HR7 := hide HR7
    have HD7 := hide (HD6.out.mod hm8 fun g hg => ⟨notT_own how (by decide) hg.symm, notT_own how (by decide) hg.symm⟩)
    have HQ7 := hide (HQ6.out.mod hm8 (fun e => own_blk_apart how HQ6.out (by decide) e.symm))
    have HB7 := hide (HB6.out.mod hm8 (fun e => own_blk_apart how HB6.out (by decide) e.symm))
    have HZ7 := hide (hm8.mono (fun g _ e => Eq.symm e) : Mod (fun g => (Value.slice Am n.map.length cm).ownBlock = some g) x6 x7)
    have hbx7 := Nat.le_trans hbx6 HZ7.out.size
    have hwx7 := Nat.le_trans hwx6 HZ7.out.size
    clear hown8 hm8 hat8 hold8 hty8 el how hrl b4
    go_frame)
  have b5 : x7.cell? ⟨m, 5, none⟩ = some (.slice An n.names.length cn) := HB7.out.cell 5
  have how := HD7.out.ow
  have hrl : (List.replicate n.names.length (mkD ((AR.length : Int) + 1))).length = n.names.length := by simp
  go_upto_region 14 with (
    (with_reducible refine at_slot 76 ?_)
    refine wpList_append_keep encDent 31 75 (.agg #[.string ⟨#[]⟩, .int .i64 0]) 2 24 Tryz.underlying31 infoDentB rfl (by decide) (fun _ => rfl) oneDent rfl (.tmp 71) (.tmp 75) rfl x7 b (.slice An n.names.length cn) (List.replicate n.names.length (mkD ((AR.length : Int) + 1))) (mkD (-((AR.length : Int) + 1))) rfl rfl x7.heap.size rfl rfl how hbx7 (by unfold maxLen; omega) (by omega) ?_
    intro v8 x8 hown8 hm8 hat8 hold8 hty8
    have el : (List.replicate n.names.length (mkD ((AR.length : Int) + 1)) ++ [mkD (-((AR.length : Int) + 1))]).length = n.names.length + 1 := by simp
    have HD8 := HD7.out.app hown8 hm8 hold8 hty8
    rw [el] at hown8
    obtain ⟨Ad, cd, rfl⟩ := own_slice hown8
    have HD8 := hide HD8
    have HR8 := hide (HR7.out.mod hm8 fun g hg => ⟨notT_own how (by decide) hg.symm, notT_own how (by decide) hg.symm⟩)
    have HQ8 := hide (HQ7.out.mod hm8 (fun e => own_blk_apart how HQ7.out (by decide) e.symm))
    have HB8 := hide (HB7.out.mod hm8 (fun e => own_blk_apart how HB7.out (by decide) e.symm))
    have HZ8 := hide (hm8.mono (fun g _ e => Eq.symm e) : Mod (fun g => (Value.slice An n.names.length cn).ownBlock = some g) x7 x8)
    have hbx8 := Nat.le_trans hbx7 HZ8.out.size
    have hwx8 := Nat.le_trans hwx7 HZ8.out.size
    clear hown8 hm8 hat8 hold8 hty8 el how hrl b5
    go_frame)
  have q1 : x8.cell? ⟨Q, 1, none⟩ = some (.slice A1 MR.length c1) := HQ8.out.cell 1
  have hrb := HR8.out.rb
  have hMl : MR.length ≤ 100000 := by have h1 := HA2.out; have h2 := HA3.out; have h3 := HA4.out; omega
  go_upto_region 15 with (
    (with_reducible refine at_slot 84 ?_)
    refine wpList_append_row encSl 24 30 (.slice none 0 0) 1 24 Tryz.underlying24 infoSlR rfl (by decide) (fun _ => rfl) oneSl rfl (.tmp 81) (.tmp 83) rfl x8 0 (.slice A1 MR.length c1) MR (Ar, n.map.length + 1, cr) rfl rfl x8.heap.size rfl rfl hrb (Nat.zero_le _) (by unfold maxLen; omega) (by omega) ?_
    intro v8 x9 hown8 hm8 hat8
    have el : (MR ++ [(Ar, n.map.length + 1, cr)]).length = MR.length + 1 := by simp
    have HR9 := HR8.out
    have hlen : AR.length = MR.length := by have h1 := HA2.out; have h2 := HA3.out; have h3 := HA4.out; omega
    have hax : ((AR.length : Int) + 1) = AR.length + 1 := by have h2 := HA3.out; omega
    rw [el] at hown8
    have HPR := HR9.pushB (vb' := v8) (fun _ => rfl) hlen hax rfl (by rw [el]; exact hown8) hm8 hat8
    obtain ⟨U1, d1, rfl⟩ := own_slice hown8
    have HR9 := hide HPR
    clear HPR
    have HD9 := hide (HD8.out.mod hm8 fun g hg => ⟨notT_own hrb (by decide) hg.symm, notT_own hrb (by decide) hg.symm⟩)
    have HB9 := hide (HB8.out.mod hm8 (fun e => own_blk_apart hrb HB8.out (by decide) e.symm))
    have HZ9 := hide (hm8.mono (fun g _ e => Eq.symm e) : Mod (fun g => ((.slice A1 MR.length c1) : Value).ownBlock = some g) x8 x9)
    have hbx9 := Nat.le_trans hbx8 HZ9.out.size
    have hwx9 := Nat.le_trans hwx8 HZ9.out.size
    have HAT9 : Hid (∀ g, (Value.slice U1 (MR.length + 1) d1).ownBlock = some g → ((.slice A1 MR.length c1) : Value).ownBlock = some g ∨ w.heap.size ≤ g) := hide fun g hg => by
      rcases hat8 with e1 | e1
      · exact .inl (by rw [← e1]; exact hg)
      · rw [hg] at e1; injection e1 with e1; exact .inr (by omega)
    have b8 := HQ8.out.mod hm8 (fun e => own_blk_apart hrb HQ8.out (by decide) e.symm)
    have f8 := b8.frozen 1
    have r8 := b8.cell 1
    have HQ9 := hide b8
    clear hown8 hm8 hat8 el hrb q1 b8 hlen hax hMl
    go_frame)
  obtain ⟨x10, hx10⟩ : ∃ x, x = x9.setCell ⟨Q, 1, none⟩ (.slice U1 (MR.length + 1) d1) := ⟨_, rfl⟩
  rw [← hx10]
  have hs5 : Mod (· = Q) x9 x10 := by rw [hx10]; exact (Mod.refl (· = Q) x9).setCell (p := ⟨Q, 1, none⟩) (.inr rfl) _
  have Qn := HQ9.out.set_ 1 (.slice U1 (MR.length + 1) d1)
  rw [← hx10] at Qn
  have HQ10 := hide Qn
  have HB10 := hide (HB9.out.mod hs5 (fun e => apart_of HB9.out HQ9.out (by decide) e))
  have HR10 := hide (HR9.out.mod hs5 fun g hg => by cases hg; exact ⟨NotT.of HQ9.out (by decide), .inr (NotT.of HQ9.out (by decide))⟩)
  have HD10 := hide (HD9.out.mod hs5 fun g hg => by cases hg; exact ⟨NotT.of HQ9.out (by decide), NotT.of HQ9.out (by decide)⟩)
  have HZ10 := hide hs5
  have hbx10 := Nat.le_trans hbx9 hs5.size
  have hwx10 := Nat.le_trans hwx9 hs5.size
  clear hx10 hs5 Qn f8 r8
  have q3 : x10.cell? ⟨Q, 3, none⟩ = some (.slice A3 MD.length c3) := HQ10.out.cell 3
  have hrb := HD10.out.rb
  have hMl : MD.length ≤ 100000 := by have h1 := HA2.out; have h2 := HA3.out; have h3 := HA4.out; omega
  go_upto_region 16 with (
    (with_reducible refine at_slot 94 ?_)
    refine wpList_append_row encSl 25 31 (.slice none 0 0) 1 24 Tryz.underlying25 infoSlD rfl (by decide) (fun _ => rfl) oneSl rfl (.tmp 91) (.tmp 93) rfl x10 0 (.slice A3 MD.length c3) MD (Ad, n.names.length + 1, cd) rfl rfl x10.heap.size rfl rfl hrb (Nat.zero_le _) (by unfold maxLen; omega) (by omega) ?_
    intro v8 x11 hown8 hm8 hat8
    have el : (MD ++ [(Ad, n.names.length + 1, cd)]).length = MD.length + 1 := by simp
    have HD11 := HD10.out
    have hlen : AD.length = MD.length := by have h1 := HA2.out; have h2 := HA3.out; have h3 := HA4.out; omega
    have hax : ((AR.length : Int) + 1) = AD.length + 1 := by have h2 := HA3.out; omega
    rw [el] at hown8
    have HPD := HD11.pushB (vb' := v8) (fun _ => rfl) hlen hax rfl (by rw [el]; exact hown8) hm8 hat8
    obtain ⟨U3, d3, rfl⟩ := own_slice hown8
    have HD11 := hide HPD
    clear HPD
    have HR11 := hide (HR10.out.mod hm8 fun g hg => ⟨notT_own hrb (by decide) hg.symm, .inr (notT_own hrb (by decide) hg.symm)⟩)
    have HB11 := hide (HB10.out.mod hm8 (fun e => own_blk_apart hrb HB10.out (by decide) e.symm))
    have HZ11 := hide (hm8.mono (fun g _ e => Eq.symm e) : Mod (fun g => ((.slice A3 MD.length c3) : Value).ownBlock = some g) x10 x11)
    have hbx11 := Nat.le_trans hbx10 HZ11.out.size
    have hwx11 := Nat.le_trans hwx10 HZ11.out.size
    have HAT11 : Hid (∀ g, (Value.slice U3 (MD.length + 1) d3).ownBlock = some g → ((.slice A3 MD.length c3) : Value).ownBlock = some g ∨ w.heap.size ≤ g) := hide fun g hg => by
      rcases hat8 with e1 | e1
      · exact .inl (by rw [← e1]; exact hg)
      · rw [hg] at e1; injection e1 with e1; exact .inr (by omega)
    have b8 := HQ10.out.mod hm8 (fun e => own_blk_apart hrb HQ10.out (by decide) e.symm)
    have f8 := b8.frozen 3
    have r8 := b8.cell 3
    have HQ11 := hide b8
    clear hown8 hm8 hat8 el hrb q3 b8 hlen hax hMl
    go_frame)
  obtain ⟨x12, hx12⟩ : ∃ x, x = x11.setCell ⟨Q, 3, none⟩ (.slice U3 (MD.length + 1) d3) := ⟨_, rfl⟩
  rw [← hx12]
  have hs5 : Mod (· = Q) x11 x12 := by rw [hx12]; exact (Mod.refl (· = Q) x11).setCell (p := ⟨Q, 3, none⟩) (.inr rfl) _
  have Qn := HQ11.out.set_ 3 (.slice U3 (MD.length + 1) d3)
  rw [← hx12] at Qn
  have HQ12 := hide Qn
  have HB12 := hide (HB11.out.mod hs5 (fun e => apart_of HB11.out HQ11.out (by decide) e))
  have HD12 := hide (HD11.out.mod hs5 fun g hg => by cases hg; exact ⟨NotT.of HQ11.out (by decide), .inr (NotT.of HQ11.out (by decide))⟩)
  have HR12 := hide (HR11.out.mod hs5 fun g hg => by cases hg; exact ⟨NotT.of HQ11.out (by decide), .inr (NotT.of HQ11.out (by decide))⟩)
  have HZ12 := hide hs5
  have hbx12 := Nat.le_trans hbx11 hs5.size
  have hwx12 := Nat.le_trans hwx11 hs5.size
  clear hx12 hs5 Qn f8 r8
  have b8 : x12.cell? ⟨m, 8, none⟩ = some (.slice Al n.log.length cl) := HB12.out.cell 8
  obtain ⟨V0, hV0⟩ : ∃ v, v = (Value.slice A0 AR.length c0) := ⟨_, rfl⟩
  have hM12 : Mod (SR Q (.slice Am n.map.length cm) (.slice An n.names.length cn) (.slice A0 AR.length c0) (.slice A1 MR.length c1) (.slice A2 AD.length c2) (.slice A3 MD.length c3)) x0 x12 := by
    have t1 := HZ1.out.mono (T := SR Q (.slice Am n.map.length cm) (.slice An n.names.length cn) (.slice A0 AR.length c0) (.slice A1 MR.length c1) (.slice A2 AD.length c2) (.slice A3 MD.length c3)) (fun g _ h => .inr (.inl h))
    have t2 := t1.trans (HZ2.out.mono fun g _ h => .inr (.inr (.inl h)))
    have t3 := t2.trans (HZ3.out.mono fun g _ h => .inr (.inr (.inr (.inl h))))
    have t4 := t3.trans (HZ4.out.mono fun g _ h => .inl h)
    have t5 := t4.trans (HZ5.out.mono fun g _ h => .inr (.inr (.inr (.inr (.inr (.inl h))))))
    have t6 := t5.trans (HZ6.out.mono fun g _ h => .inl h)
    have t7 := t6.trans (HZ7.out.mono fun g _ h => .inr (.inl h))
    have t8 := t7.trans (HZ8.out.mono fun g _ h => .inr (.inr (.inl h)))
    have t9 := t8.trans (HZ9.out.mono fun g _ h => .inr (.inr (.inr (.inr (.inl h)))))
    have t10 := t9.trans (HZ10.out.mono fun g _ h => .inl h)
    have t11 := t10.trans (HZ11.out.mono fun g _ h => .inr (.inr (.inr (.inr (.inr (.inr h))))))
    exact t11.trans (HZ12.out.mono fun g _ h => .inl h)
  clear hV0 V0
  have hT : ∀ (t : TypeId), t ≠ 29 → t ≠ 73 → t ≠ 75 → t ≠ 30 → t ≠ 31 → ∀ g, SR Q (.slice Am n.map.length cm) (.slice An n.names.length cn) (.slice A0 AR.length c0) (.slice A1 MR.length c1) (.slice A2 AD.length c2) (.slice A3 MD.length c3) g → NotT x0 g t := by
    intro t h1 h2 h3 h4 h5 g hg
    rcases hg with rfl | hg | hg | hg | hg | hg | hg
    · exact NotT.of HQ0.out (Ne.symm h1)
    · exact notT_own HR0.out.ow (Ne.symm h2) hg
    · exact notT_own HD0.out.ow (Ne.symm h3) hg
    · exact notT_own HR0.out.ra (Ne.symm h4) hg
    · exact notT_own HR0.out.rb (Ne.symm h4) hg
    · exact notT_own HD0.out.ra (Ne.symm h5) hg
    · exact notT_own HD0.out.rb (Ne.symm h5) hg
  have hN12 := HPN.out.mod hM12 fun g hg => ⟨hT _ (by decide) (by decide) (by decide) (by decide) (by decide) g hg, .inr (hT _ (by decide) (by decide) (by decide) (by decide) (by decide) g hg)⟩
  have hE12 := HPE.out.mod hM12 fun g hg => ⟨hT _ (by decide) (by decide) (by decide) (by decide) (by decide) g hg, .inr (hT _ (by decide) (by decide) (by decide) (by decide) (by decide) g hg)⟩
  have hL12 := own_modT HLO.out hM12 (hT _ (by decide) (by decide) (by decide) (by decide) (by decide))
  have HK := hide (keepNumbers_any x12 Q b _ _ _ _ _ _ _ _ (.slice Al n.log.length cl) AN MN n.log HQ12.out hN12 (HA5.out.trans HA6.out.symm) (by rw [HA5.out]; exact hkN) hL12 hll hbx12)
  have HN12 := hide hN12
  have HE12 := hide hE12
  have HL12 := hide hL12
  have HM12 := hide hM12
  clear hN12 hE12 hL12 hM12 hT
  go_wp2_with fail
  refine Calls.mono HK.out ?_
  rintro ee x13 ⟨rfl, u4, u5, AN', MN', hQ13, hN13, hAN, hMN, hM13, hu4, hu5⟩
  have hpost : KeepPost w Q (NodeLS (.slice Am n.map.length cm) (.slice An n.names.length cn) (.slice Al n.log.length cl)) (.slice A0 AR.length c0) (.slice A1 MR.length c1) (.slice A2 AD.length c2) (.slice A3 MD.length c3) v4 v5 v6 v7 (AR.length + 1) (kN + 1) kE (.returned (.tuple #[])) x13 := by
    have hTy : ∀ (t : TypeId), t ≠ 29 → t ≠ 3 → t ≠ 32 → ∀ g, (g = Q ∨ (Value.slice Al n.log.length cl).ownBlock = some g ∨ v4.ownBlock = some g ∨ v5.ownBlock = some g) → NotT x12 g t := by
      intro t h1 h2 h3 g hg
      rcases hg with rfl | hg | hg | hg
      · exact NotT.of HQ12.out (Ne.symm h1)
      · exact notT_own HL12.out (Ne.symm h2) hg
      · exact notT_own HN12.out.ra (Ne.symm h3) hg
      · exact notT_own HN12.out.rb (Ne.symm h3) hg
    have hR13 := HR12.out.mod hM13 fun g hg => ⟨hTy _ (by decide) (by decide) (by decide) g hg, .inr (hTy _ (by decide) (by decide) (by decide) g hg)⟩
    have hD13 := HD12.out.mod hM13 fun g hg => ⟨hTy _ (by decide) (by decide) (by decide) g hg, .inr (hTy _ (by decide) (by decide) (by decide) g hg)⟩
    have hE13 := HE12.out.mod hM13 fun g hg => ⟨hTy _ (by decide) (by decide) (by decide) g hg, .inr (hTy _ (by decide) (by decide) (by decide) g hg)⟩
    have hb13 : b ≤ x13.heap.size := Nat.le_trans hbx12 hM13.size
    have h3 := HA3.out
    have h2 := HA2.out
    have h4 := HA4.out
    have h5 := HA5.out
    have h6 := HA6.out
    have hbm : ∀ g, (Value.slice Am n.map.length cm).ownBlock = some g → b ≤ g := fun g hg => (own_blk HR0.out.ow hg).1
    have hbn : ∀ g, (Value.slice An n.names.length cn).ownBlock = some g → b ≤ g := fun g hg => (own_blk HD0.out.ow hg).1
    have hbl : ∀ g, (Value.slice Al n.log.length cl).ownBlock = some g → b ≤ g := fun g hg => (own_blk HLO.out hg).1
    refine ⟨rfl, _, _, _, _, u4, u5, v6, v7, ⟨hQ13, ⟨_, _, hR13.here, by simp, by simp; omega⟩, ⟨_, _, hD13.here, by simp; omega, by simp; omega⟩, ⟨_, _, hN13, by omega, by omega⟩, ⟨_, _, hE13.here, HA7.out, HA8.out⟩⟩, ?_, ?_⟩
    · refine ((HM0.out.mono fun _ _ f => f.elim).trans (HM12.out.mono fun g _ hg => ?_)).trans (hM13.mono fun g _ hg => ?_)
      · rcases hg with h | h | h | h | h | h | h
        · exact .inr (.inl h)
        · exact .inl (.inl h)
        · exact .inl (.inr (.inl h))
        · exact .inr (.inr (.inl h))
        · exact .inr (.inr (.inr (.inl h)))
        · exact .inr (.inr (.inr (.inr (.inl h))))
        · exact .inr (.inr (.inr (.inr (.inr (.inl h)))))
      · rcases hg with h | h | h | h
        · exact .inr (.inl h)
        · exact .inl (.inr (.inr h))
        · exact .inr (.inr (.inr (.inr (.inr (.inr (.inl h))))))
        · exact .inr (.inr (.inr (.inr (.inr (.inr (.inr (.inl h)))))))
    · intro g hg
      have hw13 : w.heap.size ≤ x12.heap.size := hwx12
      rcases hg with h | h | h | h | h | h | h | h | h
      · exact .inl (.inl h)
      · rcases HAT3.out g h with h | h
        · exact .inl (.inr (.inl h))
        · exact .inr h
      · rcases HAT9.out g h with h | h
        · exact .inl (.inr (.inr (.inl h)))
        · exact .inr h
      · rcases HAT5.out g h with h | h
        · exact .inl (.inr (.inr (.inr (.inl h))))
        · exact .inr h
      · rcases HAT11.out g h with h | h
        · exact .inl (.inr (.inr (.inr (.inr (.inl h)))))
        · exact .inr h
      · rcases hu4 g h with h | h
        · exact .inl (.inr (.inr (.inr (.inr (.inr (.inl h))))))
        · exact .inr (by omega)
      · rcases hu5 g h with h | h
        · exact .inl (.inr (.inr (.inr (.inr (.inr (.inr (.inl h)))))))
        · exact .inr (by omega)
      · exact .inl (.inr (.inr (.inr (.inr (.inr (.inr (.inr (.inl h))))))))
      · exact .inl (.inr (.inr (.inr (.inr (.inr (.inr (.inr (.inr (h)))))))))
  have HF := hide hpost
  clear hpost hQ13 hN13 hM13 hu4 hu5 hAN hMN
  go_wp2_with fail
  exact ⟨rfl, .tuple #[], by simp [results, Tryz.results11], HF.out⟩
end Go.Proofs.YtabebkffcmajkaaGreatDoor

/-! keepNumbers and keepEntries over the whole book. (Printed by mk_BK6.py.) -/
namespace Go.Proofs.YtabebkffcmajkaaGreatDoor
open Go.RowKit Go.Maps Go.Shelf
attribute [local go_sem] quietV loudUpon Oper.semAt_some

theorem keepNumbersB (w : World) (Q b : Nat) (v0 v1 v2 v3 v4 v5 v6 v7 lv : Value) (L : List Int) (kR kN kE : Nat) (hB : BookAt w Q b v0 v1 v2 v3 v4 v5 v6 v7 kR kN kE) (hl : w.ownsRow b 3 1 lv L.length (rowOf encInt L)) (hL : L.length ≤ 1000000) (hk : kN ≤ 100000) (hb : b ≤ w.heap.size) :
    Calls Tryz.prog 22 #[.pointer (some ⟨Q, 0, none⟩), lv] w (KeepPost w Q (fun g => lv.ownBlock = some g) v0 v1 v2 v3 v4 v5 v6 v7 kR (kN + 1) kE) := by
  obtain ⟨hQ, ⟨AR, MR, hR, hA1, hA2⟩, ⟨AD, MD, hD, hA3, hA4⟩, ⟨AN, MN, hN, hA5, hA6⟩, ⟨AE, ME, hE, hA7, hA8⟩⟩ := hB
  refine (keepNumbers_any w Q b v0 v1 v2 v3 v4 v5 v6 v7 lv AN MN L hQ hN (by omega) (by omega) hl hL hb).mono ?_
  rintro ee x ⟨rfl, u4, u5, A', M', hQ', hP', e1, e2, hm, hu4, hu5⟩
  have hTy : ∀ (t : TypeId), t ≠ 29 → t ≠ 3 → t ≠ 32 → ∀ g, (g = Q ∨ lv.ownBlock = some g ∨ v4.ownBlock = some g ∨ v5.ownBlock = some g) → NotT w g t := by
    intro t h1 h2 h3 g hg
    rcases hg with rfl | hg | hg | hg
    · exact NotT.of hQ (Ne.symm h1)
    · exact notT_own hl (Ne.symm h2) hg
    · exact notT_own hN.ra (Ne.symm h3) hg
    · exact notT_own hN.rb (Ne.symm h3) hg
  have hR' := hR.mod hm fun g hg => ⟨hTy _ (by decide) (by decide) (by decide) g hg, .inr (hTy _ (by decide) (by decide) (by decide) g hg)⟩
  have hD' := hD.mod hm fun g hg => ⟨hTy _ (by decide) (by decide) (by decide) g hg, .inr (hTy _ (by decide) (by decide) (by decide) g hg)⟩
  have hO' := hE.mod hm fun g hg => ⟨hTy _ (by decide) (by decide) (by decide) g hg, .inr (hTy _ (by decide) (by decide) (by decide) g hg)⟩
  have hbx : b ≤ x.heap.size := Nat.le_trans hb hm.size
  have hbl : ∀ g, lv.ownBlock = some g → b ≤ g := fun g hg => (own_blk hl hg).1
  refine ⟨rfl, v0, v1, v2, v3, u4, u5, v6, v7, ⟨hQ', ⟨_, _, hR'.here, hA1, hA2⟩, ⟨_, _, hD'.here, hA3, hA4⟩, ⟨_, _, hP', by omega, by omega⟩, ⟨_, _, hO'.here, hA7, hA8⟩⟩, hm.mono fun g _ hg => ?_, fun g hg => ?_⟩
  · rcases hg with h | h | h | h
    · exact .inr (.inl h)
    · exact .inl h
    · exact .inr (.inr (.inr (.inr (.inr (.inr (.inl h))))))
    · exact .inr (.inr (.inr (.inr (.inr (.inr (.inr (.inl h)))))))
  · rcases hg with h | h | h | h | h | h | h | h | h
    · exact .inl (.inl h)
    · exact .inl (.inr (.inl h))
    · exact .inl (.inr (.inr (.inl h)))
    · exact .inl (.inr (.inr (.inr (.inl h))))
    · exact .inl (.inr (.inr (.inr (.inr (.inl h)))))
    · rcases hu4 g h with h | h
      · exact .inl (.inr (.inr (.inr (.inr (.inr (.inl h))))))
      · exact .inr h
    · rcases hu5 g h with h | h
      · exact .inl (.inr (.inr (.inr (.inr (.inr (.inr (.inl h)))))))
      · exact .inr h
    · exact .inl (.inr (.inr (.inr (.inr (.inr (.inr (.inr (.inl h))))))))
    · exact .inl (.inr (.inr (.inr (.inr (.inr (.inr (.inr (.inr (h)))))))))
theorem keepEntriesB (w : World) (Q b : Nat) (v0 v1 v2 v3 v4 v5 v6 v7 lv : Value) (L : List EntD) (kR kN kE : Nat) (hB : BookAt w Q b v0 v1 v2 v3 v4 v5 v6 v7 kR kN kE) (hl : w.ownsRow b 49 8 lv L.length (rowOf encEntry L)) (hL : L.length ≤ 1000000) (hk : kE ≤ 100000) (hb : b ≤ w.heap.size) :
    Calls Tryz.prog 18 #[.pointer (some ⟨Q, 0, none⟩), lv] w (KeepPost w Q (fun g => lv.ownBlock = some g) v0 v1 v2 v3 v4 v5 v6 v7 kR kN (kE + 1)) := by
  obtain ⟨hQ, ⟨AR, MR, hR, hA1, hA2⟩, ⟨AD, MD, hD, hA3, hA4⟩, ⟨AN, MN, hN, hA5, hA6⟩, ⟨AE, ME, hE, hA7, hA8⟩⟩ := hB
  refine (keepEntries_any w Q b v0 v1 v2 v3 v4 v5 v6 v7 lv AE ME L hQ hE (by omega) (by omega) hl hL hb).mono ?_
  rintro ee x ⟨rfl, u4, u5, A', M', hQ', hP', e1, e2, hm, hu4, hu5⟩
  have hTy : ∀ (t : TypeId), t ≠ 29 → t ≠ 49 → t ≠ 37 → ∀ g, (g = Q ∨ lv.ownBlock = some g ∨ v6.ownBlock = some g ∨ v7.ownBlock = some g) → NotT w g t := by
    intro t h1 h2 h3 g hg
    rcases hg with rfl | hg | hg | hg
    · exact NotT.of hQ (Ne.symm h1)
    · exact notT_own hl (Ne.symm h2) hg
    · exact notT_own hE.ra (Ne.symm h3) hg
    · exact notT_own hE.rb (Ne.symm h3) hg
  have hR' := hR.mod hm fun g hg => ⟨hTy _ (by decide) (by decide) (by decide) g hg, .inr (hTy _ (by decide) (by decide) (by decide) g hg)⟩
  have hD' := hD.mod hm fun g hg => ⟨hTy _ (by decide) (by decide) (by decide) g hg, .inr (hTy _ (by decide) (by decide) (by decide) g hg)⟩
  have hO' := hN.mod hm fun g hg => ⟨hTy _ (by decide) (by decide) (by decide) g hg, .inr (hTy _ (by decide) (by decide) (by decide) g hg)⟩
  have hbx : b ≤ x.heap.size := Nat.le_trans hb hm.size
  have hbl : ∀ g, lv.ownBlock = some g → b ≤ g := fun g hg => (own_blk hl hg).1
  refine ⟨rfl, v0, v1, v2, v3, v4, v5, u4, u5, ⟨hQ', ⟨_, _, hR'.here, hA1, hA2⟩, ⟨_, _, hD'.here, hA3, hA4⟩, ⟨_, _, hO'.here, hA5, hA6⟩, ⟨_, _, hP', by omega, by omega⟩⟩, hm.mono fun g _ hg => ?_, fun g hg => ?_⟩
  · rcases hg with h | h | h | h
    · exact .inr (.inl h)
    · exact .inl h
    · exact .inr (.inr (.inr (.inr (.inr (.inr (.inr (.inr (.inl h))))))))
    · exact .inr (.inr (.inr (.inr (.inr (.inr (.inr (.inr (.inr (h)))))))))
  · rcases hg with h | h | h | h | h | h | h | h | h
    · exact .inl (.inl h)
    · exact .inl (.inr (.inl h))
    · exact .inl (.inr (.inr (.inl h)))
    · exact .inl (.inr (.inr (.inr (.inl h))))
    · exact .inl (.inr (.inr (.inr (.inr (.inl h)))))
    · exact .inl (.inr (.inr (.inr (.inr (.inr (.inl h))))))
    · exact .inl (.inr (.inr (.inr (.inr (.inr (.inr (.inl h)))))))
    · rcases hu4 g h with h | h
      · exact .inl (.inr (.inr (.inr (.inr (.inr (.inr (.inr (.inl h))))))))
      · exact .inr h
    · rcases hu5 g h with h | h
      · exact .inl (.inr (.inr (.inr (.inr (.inr (.inr (.inr (.inr (h)))))))))
      · exact .inr h
end Go.Proofs.YtabebkffcmajkaaGreatDoor

/-! What a reader of the book sees. -/
namespace Go.Proofs.YtabebkffcmajkaaGreatDoor
open Go.RowKit Go.Maps Go.Shelf
attribute [local go_sem] quietV loudUpon Oper.semAt_some

variable {α : Type} {enc : α → List Value} {sz : Nat} {e tS : TypeId} {mk : Int → α} {w : World} {b : Nat} {va vb : Value} {A M : List (Option Addr × Nat × Nat)}
/-- the i-th list and the i-th with one more -/
structure SeeAt (enc : α → List Value) (sz : Nat) (mk : Int → α) (w : World) (gA gM i : Nat) (Ai : Option Addr) (ni ci : Nat) (Mi : Option Addr) (cm : Nat) : Prop where
  rowA : w.cell? ⟨gA, i, none⟩ = some (.slice Ai ni ci)
  rowM : w.cell? ⟨gM, i, none⟩ = some (.slice Mi (ni + 1) cm)
  nc : ni ≤ ci
  mx : ci ≤ maxLen
  ncm : ni + 1 ≤ cm
  mxm : cm ≤ maxLen
  one : 0 < ni → ∃ g o, Ai = some ⟨g, o, none⟩ ∧ ∀ j, j < ni → ∀ (k : Nat) (u : Value), (enc (mk (i + 1)))[k]? = some u → w.cell? ⟨g, o + j * sz + k, none⟩ = some u
  more : ∃ g o, Mi = some ⟨g, o, none⟩ ∧ (∀ j, j < ni → ∀ (k : Nat) (u : Value), (enc (mk (i + 1)))[k]? = some u → w.cell? ⟨g, o + j * sz + k, none⟩ = some u) ∧ ∀ (k : Nat) (u : Value), (enc (mk (-(i + 1))))[k]? = some u → w.cell? ⟨g, o + ni * sz + k, none⟩ = some u
theorem Pr.see (h : Pr enc sz e tS mk w b va vb A M) (hlen : A.length = M.length) {i : Nat} (hi : i < A.length) : ∃ gA cA gM cM Ai ni ci Mi cm, va = .slice (some ⟨gA, 0, none⟩) A.length cA ∧ vb = .slice (some ⟨gM, 0, none⟩) A.length cM ∧ A.length ≤ cA ∧ A.length ≤ cM ∧ SeeAt enc sz mk w gA gM i Ai ni ci Mi cm := by
  obtain ⟨gA, cA, _, e1, _, _, hA1, hA2, _, hAc⟩ := own_at (en := encSl) (fun _ => rfl) h.ra hi
  obtain ⟨gM, cM, _, e2, _, _, hM1, hM2, _, hMc⟩ := own_at (en := encSl) (fun _ => rfl) h.rb (k := i) (by omega)
  obtain ⟨l1, l2⟩ := h.ls i hi (by omega)
  have r1 := hAc 0 _ rfl
  have r2 := hMc 0 _ rfl
  simp only [Nat.mul_one, Nat.add_zero] at r1 r2
  obtain ⟨⟨Ai, ni, ci⟩, hx⟩ : ∃ x, x = A[i] := ⟨_, rfl⟩
  obtain ⟨⟨Mi, nm, cm⟩, hy⟩ : ∃ x, x = M[i]'(by omega) := ⟨_, rfl⟩
  rw [← hx] at l1 l2 r1
  rw [← hy] at l2 r2
  obtain ⟨A1, c1, f1, f2, f3, f4⟩ := l1
  obtain ⟨A2, c2, g1, g2, g3, g4⟩ := l2
  simp only [slV, Value.slice.injEq, List.length_replicate, List.length_append, List.length_singleton] at f1 f2 f4 g1 g2 g4
  obtain ⟨rfl, -, rfl⟩ := f1
  obtain ⟨rfl, rfl, rfl⟩ := g1
  refine ⟨gA, cA, gM, cM, Ai, ni, ci, Mi, cm, e1, by rw [hlen]; exact e2, hA1, by omega, r1, r2, f2, f3, g2, g3, fun h0 => ?_, ?_⟩
  · obtain ⟨g, o, rfl, _, hc⟩ := f4 h0
    refine ⟨g, o, rfl, fun j hj k u hu => ?_⟩
    have := hc j hj k u
    rw [List.getElem_replicate] at this
    exact this hu
  · obtain ⟨g, o, rfl, _, hc⟩ := g4 (by omega)
    refine ⟨g, o, rfl, fun j hj k u hu => ?_, fun k u hu => ?_⟩
    · have := hc j (by omega) k u
      rw [List.getElem_append_left (by simpa using hj), List.getElem_replicate] at this
      exact this hu
    · have := hc ni (by omega) k u
      rw [List.getElem_append_right (by simp)] at this
      simp only [List.length_replicate, Nat.sub_self, List.getElem_singleton] at this
      exact this hu
end Go.Proofs.YtabebkffcmajkaaGreatDoor

/-! Walk: holds. -/
namespace Go.Proofs.YtabebkffcmajkaaGreatDoor
open Go.RowKit Go.Maps Go.Shelf
attribute [local go_sem] quietV loudUpon Oper.semAt_some

set_option maxRecDepth 100000 in
set_option maxHeartbeats 2000000 in
theorem holds_any (w : World) (Q b : Nat) (v0 v1 v2 v3 v4 v5 v6 v7 : Value) (kR kN kE : Nat) (hB : BookAt w Q b v0 v1 v2 v3 v4 v5 v6 v7 kR kN kE) (hkN : kN ≤ 100000) (hkE : kE ≤ 100000)
    (hH : Calls Tryz.prog 23 #[.pointer (some ⟨Q, 0, none⟩)] w fun e w' => e = .returned (.bool true) ∧ w = w') :
    Calls Tryz.prog 5 #[.pointer (some ⟨Q, 0, none⟩)] w fun e w' => e = .returned (.bool true) ∧ w = w' := by
  obtain ⟨hQ, -, -, ⟨AN, MN, hN, hA5, hA6⟩, ⟨AE, ME, hE, hA7, hA8⟩⟩ := hB
  subst hA5
  subst hA7
  have HN := hide (fun (i : Nat) (hi : i < AN.length) => hN.see hA6.symm hi)
  have HE := hide (fun (i : Nat) (hi : i < AE.length) => hE.see hA8.symm hi)
  obtain ⟨A4, c4, rfl⟩ := own_slice hN.ra
  obtain ⟨A6, c6, rfl⟩ := own_slice hE.ra
  have q4 : w.cell? ⟨Q, 4, none⟩ = some (.slice A4 AN.length c4) := hQ.cell 4
  have q5 : w.cell? ⟨Q, 5, none⟩ = some v5 := hQ.cell 5
  have q6 : w.cell? ⟨Q, 6, none⟩ = some (.slice A6 AE.length c6) := hQ.cell 6
  have q7 : w.cell? ⟨Q, 7, none⟩ = some v7 := hQ.cell 7
  have hl4 : ∀ w, (Builtin.len_ #[26] 3 #[.slice A4 AN.length c4]).run Tryz.prog w = .ok (.int .i64 AN.length) w := fun w => by simp [Builtin.len_, run_underlying Tryz.underlying26]; rfl
  have hl6 : ∀ w, (Builtin.len_ #[27] 3 #[.slice A6 AE.length c6]).run Tryz.prog w = .ok (.int .i64 AE.length) w := fun w => by simp [Builtin.len_, run_underlying Tryz.underlying27]; rfl
  clear hQ hN hE hA6 hA8
  go_enter Tryz.func5, Tryz.ntmps5
  go_wp2_with fail
  go_loopw [3] (fun s3 wr => ∃ (i : Nat), i ≤ AN.length ∧ s3 = .int .i64 i ∧ wr = w) (fun s3 _ => AN.length - (intOf s3).toNat)
  case atStart => exact ⟨0, Nat.zero_le _, rfl, rfl⟩
  obtain ⟨i, hi, rfl, hwr⟩ := hrel
  have hwr := hwr.symm
  subst hwr
  by_cases hlt : i < AN.length
  · have hii : (i : Int) < AN.length := by omega
    obtain ⟨gA, cA, gM, cM, Ai, ni, ci, Mi, cm, e1, e2, hA1, hA2, hs⟩ := HN.out i hlt
    simp only [Value.slice.injEq, true_and] at e1
    obtain ⟨rfl, rfl⟩ := e1
    subst e2
    obtain ⟨rA, rM, n1, n2, n3, n4, ho, g, o, rfl, hm1, hm2⟩ := hs
    have z0 : w.cell? ⟨g, o + ni, none⟩ = some (.int .i64 (-(i : Int) - 1)) := by
      have := hm2 0 _ rfl
      simp only [Nat.mul_one, Nat.add_zero] at this
      rw [this]
      congr 2
      omega
    have hm3 : ∀ j, j < ni → w.cell? ⟨g, o + j, none⟩ = some (.int .i64 ((i : Int) + 1)) := fun j hj => by
      have := hm1 j hj 0 _ rfl
      simpa using this
    have HM3 := hide hm3
    have HO := hide ho
    clear hm1 hm2 hm3 ho
    have hni : (ni : Int) + 1 ≤ cm := by omega
    unfold maxLen at n2 n4
    have hnm : (ni : Int) < cm := by omega
    have hnp : (0 : Int) ≤ ni := by omega
    obtain ⟨t, ht⟩ : ∃ t : Int, t = -(i : Int) - 1 := ⟨_, rfl⟩
    have hw1 : IntKind.i64.wrap (-(i : Int)) = -(i : Int) := IntWalk.i64_in _ (by omega)
    have hw2 : IntKind.i64.wrap (-(i : Int) - 1) = -(i : Int) - 1 := IntWalk.i64_in _ (by omega)
    have hw3 : IntKind.i64.wrap ((ni : Int) + 1) = (ni : Int) + 1 := IntWalk.i64_in _ (by omega)
    clear ht t
    go_upto_region 7 with fail
    clear z0 hw1 hw2 hw3 hni n3 n4
    go_wp2_with fail
    go_loopw [5] (fun s5 wr => ∃ (j : Nat), j ≤ ni ∧ s5 = .int .i64 j ∧ wr = w) (fun s5 _ => ni - (intOf s5).toNat)
    case atStart => exact ⟨0, Nat.zero_le _, rfl, rfl⟩
    obtain ⟨j, hj, rfl, hwr⟩ := hrel
    have hwr := hwr.symm
    subst hwr
    by_cases hjt : j < ni
    · have hji : (j : Int) < ni := by omega
      have hjm : (j : Int) < (ni : Int) + 1 := by omega
      obtain ⟨g1, o1, rfl, hc1⟩ := HO.out (by omega)
      have y0 : w.cell? ⟨g1, o1 + j, none⟩ = some (.int .i64 ((i : Int) + 1)) := by
        have := hc1 j hjt 0 _ rfl
        simpa using this
      have y1 := HM3.out j hjt
      have HC1 := hide hc1
      clear hc1
      go_wp2_with fail
      go_roundw
      case rel => exact ⟨j + 1, hjt, by simp, trivial⟩
      case measure => simp [intOf]; omega
    · obtain rfl : j = ni := by omega
      have hjn : ¬ (j : Int) < j := by omega
      go_wp2_with fail
      go_roundw
      case rel => exact ⟨i + 1, hlt, by simp, trivial⟩
      case measure => simp [intOf]; omega
  · obtain rfl : i = AN.length := by omega
    have hin : ¬ (AN.length : Int) < AN.length := by omega
    go_wp2_with fail
    clear hin hlt hi q4 q5
    go_loopw [6] (fun s6 wr => ∃ (i : Nat), i ≤ AE.length ∧ s6 = .int .i64 i ∧ wr = w) (fun s6 _ => AE.length - (intOf s6).toNat)
    case atStart => exact ⟨0, Nat.zero_le _, rfl, rfl⟩
    obtain ⟨i, hi, rfl, hwr⟩ := hrel
    have hwr := hwr.symm
    subst hwr
    by_cases hlt : i < AE.length
    · have hii : (i : Int) < AE.length := by omega
      obtain ⟨gA, cA, gM, cM, Ai, ni, ci, Mi, cm, e1, e2, hA1, hA2, hs⟩ := HE.out i hlt
      simp only [Value.slice.injEq, true_and] at e1
      obtain ⟨rfl, rfl⟩ := e1
      subst e2
      obtain ⟨rA, rM, n1, n2, n3, n4, ho, g, o, rfl, hm1, hm2⟩ := hs
      have z0 : w.cell? ⟨g, o + ni * 8, none⟩ = some (.int .i64 (-(i : Int) - 1)) := by
        have := hm2 0 _ rfl
        simp only [Nat.add_zero] at this
        rw [this]
        show some (Value.int .i64 (-((i : Int) + 1))) = _
        congr 2
        omega
      have hm3 : ∀ j, j < ni → w.cell? ⟨g, o + j * 8, none⟩ = some (.int .i64 ((i : Int) + 1)) := fun j hj => by
        have := hm1 j hj 0 _ rfl
        simp only [Nat.add_zero] at this
        exact this
      have HM3 := hide hm3
      have HO := hide ho
      clear hm1 hm2 hm3 ho
      have hni : (ni : Int) + 1 ≤ cm := by omega
      unfold maxLen at n2 n4
      have hnm : (ni : Int) < cm := by omega
      have hnp : (0 : Int) ≤ ni := by omega
      have hw1 : IntKind.i64.wrap (-(i : Int)) = -(i : Int) := IntWalk.i64_in _ (by omega)
      have hw2 : IntKind.i64.wrap (-(i : Int) - 1) = -(i : Int) - 1 := IntWalk.i64_in _ (by omega)
      have hw3 : IntKind.i64.wrap ((ni : Int) + 1) = (ni : Int) + 1 := IntWalk.i64_in _ (by omega)
      go_upto_region 18 with fail
      clear z0 hw1 hw2 hw3 hni n3 n4
      go_wp2_with fail
      go_loopw [8] (fun s8 wr => ∃ (j : Nat), j ≤ ni ∧ s8 = .int .i64 j ∧ wr = w) (fun s8 _ => ni - (intOf s8).toNat)
      case atStart => exact ⟨0, Nat.zero_le _, rfl, rfl⟩
      obtain ⟨j, hj, rfl, hwr⟩ := hrel
      have hwr := hwr.symm
      subst hwr
      by_cases hjt : j < ni
      · have hji : (j : Int) < ni := by omega
        have hjm : (j : Int) < (ni : Int) + 1 := by omega
        obtain ⟨g1, o1, rfl, hc1⟩ := HO.out (by omega)
        have y0 : w.rangeAt g1 (o1 + j * 8) (encEntry (mkE ((i : Int) + 1))) := fun k u hu => hc1 j hjt k u hu
        have y1 := HM3.out j hjt
        have HY := hide y0
        have hie : (Tryz.prog.info? 49).map (·.size) = some (encEntry (mkE ((i : Int) + 1))).length := infoE8
        have HIE := hide hie
        clear hc1 y0 hie
        go_wp2_with (first
          | ((with_reducible refine at_slot 145 ?_); refine wpList_load_mid rfl 49 (.tmp 144) rfl g1 (o1 + j * 8) rfl (encEntry (mkE ((i : Int) + 1))) _ HY.out Tryz.underlying49 rfl HIE.out ?_; go_frame)
          | ((with_reducible refine at_slot 149 ?_); refine wpList_val rfl (ex_neqAgg rfl guardEntry rfl rfl (run_sameEntry (mkE ((i : Int) + 1)) _)) ?_; go_frame))
        go_roundw
        case rel => exact ⟨j + 1, hjt, by simp, trivial⟩
        case measure => simp [intOf]; omega
      · obtain rfl : j = ni := by omega
        have hjn : ¬ (j : Int) < j := by omega
        go_wp2_with fail
        go_roundw
        case rel => exact ⟨i + 1, hlt, by simp, trivial⟩
        case measure => simp [intOf]; omega
    · obtain rfl : i = AE.length := by omega
      have hin : ¬ (AE.length : Int) < AE.length := by omega
      go_wp2_with fail
      refine hH.mono ?_
      rintro ee wz ⟨rfl, rfl⟩
      go_wp2
      go_ret
      exact ⟨rfl, rfl⟩
end Go.Proofs.YtabebkffcmajkaaGreatDoor

/-! Walk: nodesHold. (Printed by mk_BK9.py.) -/
namespace Go.Proofs.YtabebkffcmajkaaGreatDoor
open Go.RowKit Go.Maps Go.Shelf
attribute [local go_sem] quietV loudUpon Oper.semAt_some

set_option maxRecDepth 100000 in
set_option maxHeartbeats 2000000 in
theorem nodesHold_any (w : World) (Q b : Nat) (v0 v1 v2 v3 v4 v5 v6 v7 : Value) (kR kN kE : Nat) (hB : BookAt w Q b v0 v1 v2 v3 v4 v5 v6 v7 kR kN kE) (hkR : kR ≤ 100000) :
    Calls Tryz.prog 23 #[.pointer (some ⟨Q, 0, none⟩)] w fun e w' => e = .returned (.bool true) ∧ w = w' := by
  obtain ⟨hQ, ⟨AR, MR, hR, hA1, hA2⟩, ⟨AD, MD, hD, hA3, hA4⟩, -, -⟩ := hB
  subst hA1
  have HR := hide (fun (i : Nat) (hi : i < AR.length) => hR.see hA2.symm hi)
  have HD := hide (fun (i : Nat) (hi : i < AR.length) => hD.see (hA3.trans hA4.symm) (i := i) (by omega))
  obtain ⟨A0, c0, rfl⟩ := own_slice hR.ra
  have q0 : w.cell? ⟨Q, 0, none⟩ = some (.slice A0 AR.length c0) := hQ.cell 0
  have q1 : w.cell? ⟨Q, 1, none⟩ = some v1 := hQ.cell 1
  have q2 : w.cell? ⟨Q, 2, none⟩ = some v2 := hQ.cell 2
  have q3 : w.cell? ⟨Q, 3, none⟩ = some v3 := hQ.cell 3
  have hl0 : ∀ w, (Builtin.len_ #[24] 3 #[.slice A0 AR.length c0]).run Tryz.prog w = .ok (.int .i64 AR.length) w := fun w => by simp [Builtin.len_, run_underlying Tryz.underlying24]; rfl
  have HA3 := hide hA3
  clear hQ hR hD hA2 hA3 hA4
  go_enter Tryz.func23, Tryz.ntmps23
  go_wp2_with fail
  go_loopw [3] (fun s3 wr => ∃ (i : Nat), i ≤ AR.length ∧ s3 = .int .i64 i ∧ wr = w) (fun s3 _ => AR.length - (intOf s3).toNat)
  case atStart => exact ⟨0, Nat.zero_le _, rfl, rfl⟩
  obtain ⟨i, hi, rfl, hwr⟩ := hrel
  have hwr := hwr.symm
  subst hwr
  by_cases hlt : i < AR.length
  · have hii : (i : Int) < AR.length := by omega
    obtain ⟨gAR, cAR, gMR, cMR, AiR, niR, ciR, MiR, cmR, e1R, e2R, hA1R, hA2R, hsR⟩ := HR.out i hlt
    simp only [Value.slice.injEq, true_and] at e1R
    obtain ⟨rfl, rfl⟩ := e1R
    subst e2R
    obtain ⟨rAR, rMR, n1R, n2R, n3R, n4R, hoR, gR, oR, rfl, hm1R, hm2R⟩ := hsR
    obtain ⟨gAD, cAD, gMD, cMD, AiD, niD, ciD, MiD, cmD, e1D, e2D, hA1D, hA2D, hsD⟩ := HD.out i hlt
    subst e1D
    subst e2D
    obtain ⟨rAD, rMD, n1D, n2D, n3D, n4D, hoD, gD, oD, rfl, hm1D, hm2D⟩ := hsD
    have hid : (i : Int) < AD.length := by have := HA3.out; omega
    have hidn : i < AD.length := by omega
    have zR : w.cell? ⟨gR, oR + niR * 3, none⟩ = some (.int .i64 (-(i : Int) - 1)) := by
      have := hm2R 0 _ rfl
      simp only [Nat.add_zero] at this
      rw [this]
      show some (Value.int .i64 (-((i : Int) + 1))) = _
      congr 2
      omega
    have hm3R : ∀ j, j < niR → w.cell? ⟨gR, oR + j * 3, none⟩ = some (.int .i64 ((i : Int) + 1)) := fun j hj => by
      have := hm1R j hj 0 _ rfl
      simp only [Nat.add_zero] at this
      exact this
    have HM3R := hide hm3R
    have HOR := hide hoR
    clear hm1R hm2R hm3R hoR
    have hniR : (niR : Int) + 1 ≤ cmR := by omega
    unfold maxLen at n2R n4R
    have hnmR : (niR : Int) < cmR := by omega
    have hnpR : (0 : Int) ≤ niR := by omega
    have hw3R : IntKind.i64.wrap ((niR : Int) + 1) = (niR : Int) + 1 := IntWalk.i64_in _ (by omega)
    have zD : w.cell? ⟨gD, oD + niD * 2 + 1, none⟩ = some (.int .i64 (-(i : Int) - 1)) := by
      have := hm2D 1 _ rfl
      skip
      rw [this]
      show some (Value.int .i64 (-((i : Int) + 1))) = _
      congr 2
      omega
    have hm3D : ∀ j, j < niD → w.cell? ⟨gD, oD + j * 2 + 1, none⟩ = some (.int .i64 ((i : Int) + 1)) := fun j hj => by
      have := hm1D j hj 1 _ rfl
      skip
      exact this
    have HM3D := hide hm3D
    have HOD := hide hoD
    clear hm1D hm2D hm3D hoD
    have hniD : (niD : Int) + 1 ≤ cmD := by omega
    unfold maxLen at n2D n4D
    have hnmD : (niD : Int) < cmD := by omega
    have hnpD : (0 : Int) ≤ niD := by omega
    have hw3D : IntKind.i64.wrap ((niD : Int) + 1) = (niD : Int) + 1 := IntWalk.i64_in _ (by omega)
    have hw1 : IntKind.i64.wrap (-(i : Int)) = -(i : Int) := IntWalk.i64_in _ (by omega)
    have hw2 : IntKind.i64.wrap (-(i : Int) - 1) = -(i : Int) - 1 := IntWalk.i64_in _ (by omega)
    go_upto_region 8 with fail
    clear zR zD hw1 hw2 hw3R hw3D hniR hniD n3R n3D n4R n4D
    go_wp2_with fail
    go_loopw [6] (fun s6 wr => ∃ (j : Nat), j ≤ niR ∧ s6 = .int .i64 j ∧ wr = w) (fun s6 _ => niR - (intOf s6).toNat)
    case atStart => exact ⟨0, Nat.zero_le _, rfl, rfl⟩
    obtain ⟨j, hj, rfl, hwr⟩ := hrel
    have hwr := hwr.symm
    subst hwr
    by_cases hjt : j < niR
    · have hji : (j : Int) < niR := by omega
      have hjm : (j : Int) < (niR : Int) + 1 := by omega
      obtain ⟨g1, o1, rfl, hc1⟩ := HOR.out (by omega)
      have y0 : w.rangeAt g1 (o1 + j * 3) (encRun (mkR ((i : Int) + 1))) := fun k u hu => hc1 j hjt k u hu
      have y1 := HM3R.out j hjt
      have HY := hide y0
      have hie : (Tryz.prog.info? 73).map (·.size) = some (encRun (mkR ((i : Int) + 1))).length := infoR3
      have HIE := hide hie
      clear hc1 y0 hie
      go_wp2_with (first
        | ((with_reducible refine at_slot 105 ?_); refine wpList_load_mid rfl 73 (.tmp 104) rfl g1 (o1 + j * 3) rfl (encRun (mkR ((i : Int) + 1))) _ HY.out Tryz.underlying73 rfl HIE.out ?_; go_frame)
        | ((with_reducible refine at_slot 109 ?_); refine wpList_val rfl (ex_neqAgg rfl guardRun rfl rfl (run_sameRun (mkR ((i : Int) + 1)) _)) ?_; go_frame))
      go_roundw
      case rel => exact ⟨j + 1, hjt, by simp, trivial⟩
      case measure => simp [intOf]; omega
    obtain rfl : j = niR := by omega
    have hjn : ¬ (j : Int) < j := by omega
    go_wp2_with fail
    go_loopw [7] (fun s7 wr => ∃ (j : Nat), j ≤ niD ∧ s7 = .int .i64 j ∧ wr = w) (fun s7 _ => niD - (intOf s7).toNat)
    case atStart => exact ⟨0, Nat.zero_le _, rfl, rfl⟩
    obtain ⟨j, hj, rfl, hwr⟩ := hrel
    have hwr := hwr.symm
    subst hwr
    by_cases hjt : j < niD
    · have hji : (j : Int) < niD := by omega
      have hjm : (j : Int) < (niD : Int) + 1 := by omega
      obtain ⟨g1, o1, rfl, hc1⟩ := HOD.out (by omega)
      have y0 : w.rangeAt g1 (o1 + j * 2) (encDent (mkD ((i : Int) + 1))) := fun k u hu => hc1 j hjt k u hu
      have y1 := HM3D.out j hjt
      have HY := hide y0
      have hie : (Tryz.prog.info? 75).map (·.size) = some (encDent (mkD ((i : Int) + 1))).length := infoD2
      have HIE := hide hie
      clear hc1 y0 hie
      go_wp2_with (first
        | ((with_reducible refine at_slot 140 ?_); refine wpList_load_mid rfl 75 (.tmp 139) rfl g1 (o1 + j * 2) rfl (encDent (mkD ((i : Int) + 1))) _ HY.out Tryz.underlying75 rfl HIE.out ?_; go_frame)
        | ((with_reducible refine at_slot 144 ?_); refine wpList_val rfl (ex_neqAgg rfl guardDent rfl rfl (run_sameDent (mkD ((i : Int) + 1)) _)) ?_; go_frame))
      go_roundw
      case rel => exact ⟨j + 1, hjt, by simp, trivial⟩
      case measure => simp [intOf]; omega
    obtain rfl : j = niD := by omega
    have hjn : ¬ (j : Int) < j := by omega
    go_wp2_with fail
    go_roundw
    case rel => exact ⟨i + 1, hlt, by simp, trivial⟩
    case measure => simp [intOf]; omega
  · obtain rfl : i = AR.length := by omega
    have hin : ¬ (AR.length : Int) < AR.length := by omega
    go_wp2
    go_ret
    exact ⟨rfl, rfl⟩
end Go.Proofs.YtabebkffcmajkaaGreatDoor
