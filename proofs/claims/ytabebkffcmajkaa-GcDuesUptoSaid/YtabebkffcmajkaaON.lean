import Derived.Test.YtabebkffcmajkaaLW
import Derived.Test.YtabebkffcmajkaaRows
import Derived.Deep.Slices
import Derived.Deep.Fields
import Derived.ChangeSame
import Derived.ProofKit
import Derived.OpenShut
import Derived.SizedLaws
/-! An argument that is a node, opened. -/
namespace Go.Proofs.Ytabebkffcmajkaa
open Go.RowKit Go.Maps Go.ChangeShapes Go.WideShapes Go.Deep

theorem list_of {α : Type} {P : Nat → α → Prop} : ∀ n, (∀ i, i < n → ∃ x, P i x) → ∃ l : List α, l.length = n ∧ ∀ i (h : i < l.length), P i l[i]
  | 0, _ => ⟨[], rfl, by simp⟩
  | n + 1, h => by
    obtain ⟨l, hl, hp⟩ := list_of n (fun i hi => h i (by omega))
    obtain ⟨x, hx⟩ := h n (by omega)
    refine ⟨l ++ [x], by simp [hl], fun i hi => ?_⟩
    by_cases e : i < l.length
    · rw [List.getElem_append_left e]; exact hp i e
    · have : i = n := by simp at hi; omega
      subst this
      rw [List.getElem_append_right (by omega)]
      simp [hl]; exact hx
theorem i64_of {x : Int} (h : (Lit.int .i64 x).wf = true) : I64 x := by
  simp [Lit.wf, IntKind.min, IntKind.max, IntKind.signed, IntKind.bits] at h
  exact h
theorem spot_of {w : World} {a : Addr} {v : Value} (h : w.cell? a = some v) : a.spot = none := by
  unfold World.cell? at h
  split at h
  · split at h
    · cases h
    · rename_i h3; simpa using h3
  · cases h

theorem bulk_one_le {H : Type} (d : DataW H) : 1 ≤ Rows.uptoBulk d := by
  cases d with
  | lit l => cases l <;> simp [Rows.uptoBulk]
  | nil => simp [Rows.uptoBulk]
  | ptr d => simp [Rows.uptoBulk]
  | slice elems spare => simp [Rows.uptoBulk]
  | agg parts => simp [Rows.uptoBulk]
  | iface t d => simp [Rows.uptoBulk]
  | map entries => simp [Rows.uptoBulk]
  | held h => simp [Rows.uptoBulk]
theorem bulk_part_le {H : Type} {d : DataW H} {l : List (DataW H)} (h : d ∈ l) : Rows.uptoBulk d ≤ Rows.uptoBulkAll l := by
  induction l with
  | nil => cases h
  | cons x r ih =>
    simp only [Rows.uptoBulkAll]
    cases List.mem_cons.1 h with
    | inl e => subst e; omega
    | inr e => have := ih e; omega
theorem bulk_length_le {H : Type} (l : List (DataW H)) : l.length ≤ Rows.uptoBulkAll l := by
  induction l with
  | nil => simp [Rows.uptoBulkAll]
  | cons x r ih => have := bulk_one_le x; simp only [Rows.uptoBulkAll, List.length_cons]; omega
theorem bulk_slice_le {H : Type} (elems spare : List (DataW H)) : elems.length ≤ Rows.uptoBulk (.slice elems spare) := by
  have h1 := bulk_length_le elems
  simp only [Rows.uptoBulk]
  omega
theorem bulk_bound {H : Type} {l : List (DataW H)} (hk : Rows.uptoSmall H l = true) : Rows.uptoBulkAll l ≤ 1048576 := of_decide_eq_true hk
section
variable {H : Type} {ec : TypeId × Value → H} {W : World} {base : Nat} {spare : Nat → Bool} {held : Bool}
theorem open_list {α : Type} (enc : α → List Value) (Q : α → Prop) (sz : Nat) (hs : 0 < sz) {tS tE : TypeId} (ht : Try.prog.underlying tS = some (.slice tE)) (hC : Try.prog.cellsOf tE = sz) (he : ∀ y, (enc y).length = sz)
    (hdec : ∀ n cs x, DataW.trod ec Try.prog W base spare held n tE cs = some x → ∃ y : α, cs = enc y ∧ Q y)
    {fuel : Nat} {cv : Value} {x : DataW H × List MemPlace} (h : DataW.trod ec Try.prog W base spare held fuel tS [cv] = some x) : ∃ l : List α, ListAt enc sz W cv l ∧ (∀ y ∈ l, Q y) ∧ l.length ≤ Rows.uptoBulk x.1 := by
  rcases open_slice ht h with ⟨h0, _⟩ | ⟨a, len, cap, m, n, D, Pl, hcs, hb, hl, hm, hmm, hx, hi⟩
  · simp only [List.cons.injEq, and_true] at h0
    subst h0
    exact ⟨[], ⟨none, 0, rfl, Nat.le_refl _, by unfold maxLen; omega, fun h => by simp at h⟩, by simp, Nat.zero_le _⟩
  · simp only [List.cons.injEq, and_true] at hcs
    subst hcs
    have hlm : len ≤ m := by rw [hmm]; split <;> omega
    obtain ⟨l, hll, hp⟩ := list_of (P := fun i (y : α) => Q y ∧ ∀ j u, (enc y)[j]? = some u → W.cell? (a.add (i * sz + j)) = some u) len (fun i hi' => by
      obtain ⟨cs', hc, ht'⟩ := hi i (Nat.lt_of_lt_of_le hi' hlm)
      rw [hC] at hc
      obtain ⟨y, rfl, hq⟩ := hdec _ _ _ ht'
      obtain ⟨_, hcl, hat⟩ := World.cells?_some hc
      refine ⟨y, hq, fun j u hj => ?_⟩
      have hjl : j < sz := by have := (List.getElem?_eq_some_iff.1 hj).1; rwa [he] at this
      have hcell := hat j hjl
      rw [← Go.Deep.add_add, hcell, hj])
    subst hll
    refine ⟨l, ⟨some a, cap, rfl, hl, hm, fun h0 => ?_⟩, fun y hy => ?_, ?_⟩
    · obtain ⟨q0, c0⟩ := hp 0 h0
      have hz : 0 < (enc l[0]).length := by rw [he]; exact hs
      have c00 := c0 0 _ (List.getElem?_eq_getElem hz)
      have h2 : a.add (0 * sz + 0) = a := by rw [Nat.zero_mul]; rfl
      rw [h2] at c00
      have hsp := spot_of c00
      have hg := block_lt_of_cell c00
      obtain ⟨g, o, sp⟩ := a
      simp only at hsp
      subst hsp
      have hadd : ∀ n, (⟨g, o, none⟩ : Addr).add n = ⟨g, o + n, none⟩ := fun n => by unfold Addr.add; split <;> simp_all
      refine ⟨g, o, rfl, hg, fun i hi' j u hj => ?_⟩
      have := (hp i hi').2 j u hj
      rw [hadd, ← Nat.add_assoc] at this
      exact this
    · obtain ⟨i, hi', rfl⟩ := List.getElem_of_mem hy
      exact (hp i hi').1
    · rw [hx]
      refine Nat.le_trans (Nat.le_of_eq ?_) (bulk_slice_le _ _)
      simp
theorem cellsRun : Try.prog.cellsOf 51 = 3 := by kernel_rfl
theorem cellsDent : Try.prog.cellsOf 49 = 2 := by kernel_rfl
theorem cellsInt : Try.prog.cellsOf 3 = 1 := by kernel_rfl
theorem cellsStr : Try.prog.cellsOf 9 = 1 := by kernel_rfl
theorem cellsNode : Try.prog.cellsOf 26 = 10 := by kernel_rfl
theorem cellsLR : Try.prog.cellsOf 22 = 1 := by kernel_rfl
theorem cellsLD : Try.prog.cellsOf 23 = 1 := by kernel_rfl
theorem cellsLI : Try.prog.cellsOf 24 = 1 := by kernel_rfl
theorem dec_int {n : Nat} {cs : List Value} {x : DataW H × List MemPlace} (h : DataW.trod ec Try.prog W base spare held n 3 cs = some x) : ∃ y : Int, cs = encInt y ∧ I64 y := by
  obtain ⟨y, rfl, _, w0⟩ := DataW.trod_int Try.underlying3 h
  exact ⟨y, rfl, i64_of w0⟩
set_option maxRecDepth 100000 in
theorem dec_run {n : Nat} {cs : List Value} {x : DataW H × List MemPlace} (h : DataW.trod ec Try.prog W base spare held n 51 cs = some x) : ∃ y : RunD, cs = encRun y ∧ y.Ok := by
  obtain ⟨ys, n', hn', hy, hlen, hyl, hf⟩ := DataW.trod_struct Try.underlying51 h
  rw [cellsRun] at hlen
  match cs, hlen with
  | [a, b, c], _ =>
    have t0 := hf 0 _ rfl
    have t1 := hf 1 _ rfl
    have t2 := hf 2 _ rfl
    simp only [List.getElem_toArray, List.getElem_cons_zero, List.getElem_cons_succ, cellsInt, List.drop_zero, List.take_succ_cons, List.take_zero, List.drop_succ_cons] at t0 t1 t2
    match ys, hyl with
    | [y0, y1, y2], _ =>
      obtain ⟨x0, q0, w0⟩ := dec_int (t0.trans rfl)
      obtain ⟨x1, q1, w1⟩ := dec_int (t1.trans rfl)
      obtain ⟨x2, q2, w2⟩ := dec_int (t2.trans rfl)
      simp only [encInt, List.cons.injEq, and_true] at q0 q1 q2
      subst q0 q1 q2
      exact ⟨⟨x0, x1, x2⟩, rfl, w0, w1, w2⟩
set_option maxRecDepth 100000 in
theorem dec_dent {n : Nat} {cs : List Value} {x : DataW H × List MemPlace} (h : DataW.trod ec Try.prog W base spare held n 49 cs = some x) : ∃ y : ByteArray × Int, cs = encDent y ∧ I64 y.2 := by
  obtain ⟨ys, n', hn', hy, hlen, hyl, hf⟩ := DataW.trod_struct Try.underlying49 h
  rw [cellsDent] at hlen
  match cs, hlen with
  | [a, b], _ =>
    have t0 := hf 0 _ rfl
    have t1 := hf 1 _ rfl
    simp only [List.getElem_toArray, List.getElem_cons_zero, List.getElem_cons_succ, cellsInt, cellsStr, List.drop_zero, List.take_succ_cons, List.take_zero, List.drop_succ_cons] at t0 t1
    match ys, hyl with
    | [y0, y1], _ =>
      obtain ⟨x0, q0, _, _⟩ := DataW.trod_string Try.underlying9 (t0.trans rfl)
      obtain ⟨x1, q1, w1⟩ := dec_int (t1.trans rfl)
      simp only [encInt, List.cons.injEq, and_true] at q0 q1
      subst q0 q1
      exact ⟨(x0, x1), rfl, w1⟩
structure NodeD.Ints (n : NodeD) : Prop where
  ino : I64 n.ino
  kind : I64 n.kind
  links : I64 n.links
  size : I64 n.size
  head : I64 n.head
  tail : I64 n.tail
  entries : I64 n.entries
  inos : ∀ y ∈ n.names, I64 y.2
  log : ∀ y ∈ n.log, I64 y
def Bulky (n : NodeD) (k : Nat) : Prop := n.map.length ≤ k ∧ n.names.length ≤ k ∧ n.log.length ≤ k
set_option maxRecDepth 100000 in
/-- a node in cells -/
theorem dec_node {n : Nat} {cs : List Value} {x : DataW H × List MemPlace} (h : DataW.trod ec Try.prog W base spare held n 26 cs = some x) :
    ∃ (y : NodeD) (vm vn vl : Value), cs = (nodeC y vm vn vl).toList ∧ NodeIn W y vm vn vl ∧ y.Ints ∧ Bulky y (Rows.uptoBulk x.1) := by
  obtain ⟨ys, n', hn', hy, hlen, hyl, hf⟩ := DataW.trod_struct Try.underlying26 h
  rw [cellsNode] at hlen
  match cs, hlen with
  | [a0, a1, a2, a3, a4, a5, a6, a7, a8, a9], _ =>
    have t0 := hf 0 _ rfl
    have t1 := hf 1 _ rfl
    have t2 := hf 2 _ rfl
    have t3 := hf 3 _ rfl
    have t4 := hf 4 _ rfl
    have t5 := hf 5 _ rfl
    have t6 := hf 6 _ rfl
    have t7 := hf 7 _ rfl
    have t8 := hf 8 _ rfl
    have t9 := hf 9 _ rfl
    simp only [List.getElem_toArray, List.getElem_cons_zero, List.getElem_cons_succ, cellsInt, cellsLR, cellsLD, cellsLI, List.drop_zero, List.take_succ_cons, List.take_zero, List.drop_succ_cons] at t0 t1 t2 t3 t4 t5 t6 t7 t8 t9
    match ys, hyl with
    | [y0, y1, y2, y3, y4, y5, y6, y7, y8, y9], _ =>
      obtain ⟨x0, q0, w0⟩ := dec_int (t0.trans rfl)
      obtain ⟨x1, q1, w1⟩ := dec_int (t1.trans rfl)
      obtain ⟨x2, q2, w2⟩ := dec_int (t2.trans rfl)
      obtain ⟨x3, q3, w3⟩ := dec_int (t3.trans rfl)
      obtain ⟨x6, q6, w6⟩ := dec_int (t6.trans rfl)
      obtain ⟨x7, q7, w7⟩ := dec_int (t7.trans rfl)
      obtain ⟨x9, q9, w9⟩ := dec_int (t9.trans rfl)
      obtain ⟨l4, L4, k4, z4⟩ := open_list encRun RunD.Ok 3 (by decide) Try.underlying22 cellsRun (fun _ => rfl) (fun _ _ _ h => dec_run h) (t4.trans rfl)
      obtain ⟨l5, L5, k5, z5⟩ := open_list encDent (fun y => I64 y.2) 2 (by decide) Try.underlying23 cellsDent (fun _ => rfl) (fun _ _ _ h => dec_dent h) (t5.trans rfl)
      obtain ⟨l8, L8, k8, z8⟩ := open_list encInt I64 1 (by decide) Try.underlying24 cellsInt (fun _ => rfl) (fun _ _ _ h => dec_int h) (t8.trans rfl)
      simp only [encInt, List.cons.injEq, and_true] at q0 q1 q2 q3 q6 q7 q9
      subst q0 q1 q2 q3 q6 q7 q9
      refine ⟨⟨x0, x1, x2, x3, l4, l5, x6, x7, l8, x9⟩, a4, a5, a8, rfl, ⟨L4, L5, L8, k4, w1, w3⟩, ⟨w0, w1, w2, w3, w6, w7, w9, k5, k8⟩, ?_⟩
      rw [hy]
      have hpart : ∀ y ∈ [y0, y1, y2, y3, y4, y5, y6, y7, y8, y9], Rows.uptoBulk y.1 ≤ Rows.uptoBulk (.agg ([y0, y1, y2, y3, y4, y5, y6, y7, y8, y9].map (·.1))) := fun y hy => by
        have := bulk_part_le (List.mem_map_of_mem (f := (·.1)) hy)
        have e : Rows.uptoBulk (.agg ([y0, y1, y2, y3, y4, y5, y6, y7, y8, y9].map (·.1))) = Rows.uptoBulkAll ([y0, y1, y2, y3, y4, y5, y6, y7, y8, y9].map (·.1)) + 1 := by simp only [Rows.uptoBulk]
        omega
      exact ⟨Nat.le_trans z4 (hpart y4 (by simp)), Nat.le_trans z5 (hpart y5 (by simp)), Nat.le_trans z8 (hpart y8 (by simp))⟩
end
theorem open_node {H : Type} {ec : TypeId × Value → H} {W : World} {v : Value} {d : DataW H} {p : List MemPlace} (hv : ∃ cs, v = .agg cs ∧ cs.size = Try.prog.cellsOf 26) (h : DataW.Trod ec Try.prog W 0 (fun _ => true) true 26 v d p) :
    ∃ (y : NodeD) (vm vn vl : Value), v = .agg (nodeC y vm vn vl) ∧ NodeIn W y vm vn vl ∧ y.Ints ∧ Bulky y (Rows.uptoBulk d) := by
  obtain ⟨cs, rfl, _⟩ := hv
  obtain ⟨fuel, hf⟩ := h
  obtain ⟨y, vm, vn, vl, e, hn⟩ := dec_node hf
  refine ⟨y, vm, vn, vl, ?_, hn⟩
  have : cs.toList = (nodeC y vm vn vl).toList := e
  rw [Array.toList_inj.1 this]
end Go.Proofs.Ytabebkffcmajkaa
