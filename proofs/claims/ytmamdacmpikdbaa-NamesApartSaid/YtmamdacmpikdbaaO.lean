import Derived.Test.YtmamdacmpikdbaaE
import Derived.Test.YtmamdacmpikdbaaRows
import Derived.Deep.Slices
import Derived.Deep.Fields
import Derived.ChangeSame
import Derived.ProofKit
import Derived.OpenShut
import Derived.SizedLaws
/-! A law's first argument, a slice of steps, opened. (open_slice_fields: the guide's own lemma to copy.) -/
namespace Go.Proofs.Ytmamdacmpikdbaa
open Go.RowKit Go.Maps Go.ChangeShapes Go.WideShapes Go.Deep

section
variable {H : Type} {enc : TypeId × Value → H} {P : Program} {w : World} {base : Nat} {spare : Nat → Bool} {held : Bool}
theorem open_slice_fields {t e : TypeId} {fs : Array Field} {fuel : Nat} {cs : List Value} {x : DataW H × List MemPlace} (ht : P.underlying t = some (.slice e)) (he : P.underlying e = some (.struct fs))
    (hone : oneCellFields P fs = true) (hC : P.cellsOf e = fs.size) (h : DataW.trod enc P w base spare held fuel t cs = some x) :
    (cs = [.slice none 0 0] ∧ x = (.nil, [])) ∨
    ∃ (a : Addr) (len cap m : Nat) (D : Nat → DataW H) (Pl : Nat → List MemPlace), cs = [.slice (some a) len cap] ∧ base ≤ a.block ∧ len ≤ cap ∧ cap ≤ maxLen ∧ m = (if spare a.block then cap else len) ∧
      x = (.slice ((List.range len).map D) ((List.range (m - len)).map fun j => D (len + j)), MemPlace.row a (m * fs.size) ++ (List.range m).flatMap Pl) ∧
      ∀ i, i < m → ∃ (ys : List (DataW H × List MemPlace)) (n : Nat), D i = .agg (ys.map (·.1)) ∧ Pl i = ys.flatMap (·.2) ∧ ys.length = fs.size ∧
        ∀ (j : Nat) (f : Field), fs[j]? = some f → ∃ (v : Value) (y : DataW H × List MemPlace), w.cell? (a.add (i * fs.size + j)) = some v ∧ ys[j]? = some y ∧ DataW.trod enc P w base spare held n f.type [v] = some y := by
  rcases open_slice ht h with h0 | ⟨a, len, cap, m, n, D, Pl, hcs, hb, hl, hm, hmm, hx, hi⟩
  · exact .inl h0
  · refine .inr ⟨a, len, cap, m, D, Pl, hcs, hb, hl, hm, hmm, by rw [hC] at hx; exact hx, fun i him => ?_⟩
    obtain ⟨cs', hc, ht'⟩ := hi i him
    rw [hC] at hc
    obtain ⟨ys, n', hn', hy, hlen, hyl, hf⟩ := DataW.trod_struct he ht'
    obtain ⟨_, hcl, hat⟩ := World.cells?_some hc
    simp only [Prod.mk.injEq] at hy
    refine ⟨ys, n', hy.1, hy.2, hyl, fun j f hj => ?_⟩
    obtain ⟨ho, hk⟩ := hone_of hone j f hj
    have hjl : j < fs.size := (Array.getElem?_eq_some_iff.1 hj).1
    have hcell := hat j hjl
    have hv : cs'[j]? = some (cs'[j]'(by omega)) := List.getElem?_eq_getElem (by omega)
    have h1 := hf j f hj
    rw [ho, hk] at h1
    have hone' : (cs'.drop j).take 1 = [cs'[j]'(by omega)] := by
      rw [List.drop_eq_getElem_cons (by omega)]
      rfl
    rw [hone'] at h1
    have hys : ys[j]? = some (ys[j]'(by omega)) := List.getElem?_eq_getElem (by omega)
    refine ⟨_, _, ?_, hys, h1.trans hys⟩
    rw [← Go.Deep.add_add, hcell, hv]
end

theorem cells41 : Try.prog.cellsOf 41 = 6 := by kernel_rfl
theorem bytes41 : Try.prog.bytesOf 41 = 56 := by kernel_rfl
theorem list_of {α : Type} {P : Nat → α → Prop} : ∀ n, (∀ i, i < n → ∃ x, P i x) → ∃ l : List α, l.length = n ∧ ∀ i (h : i < l.length), P i l[i]
  | 0, _ => ⟨[], rfl, by simp⟩
  | n + 1, h => by
    obtain ⟨l, hl, hp⟩ := list_of n (fun i hi => h i (by omega))
    obtain ⟨x, hx⟩ := h n (by omega)
    refine ⟨l ++ [x], by simp [hl], fun i hi => ?_⟩
    by_cases e : i < l.length
    · rw [List.getElem_append_left e]; exact hp i e
    · have : i = n := by simp at hi; omega
      subst this
      rw [List.getElem_append_right (by omega)]
      simp [hl]; exact hx

theorem i64_of {x : Int} (h : (Lit.int .i64 x).wf = true) : I64 x := by
  simp [Lit.wf, IntKind.min, IntKind.max, IntKind.signed, IntKind.bits] at h
  exact h

theorem open_ops {H : Type} {enc : TypeId × Value → H} {W : World} {v : Value} {d : DataW H} {p : List MemPlace} {ts : List TypeId} {ds : List (DataW H)} {j : Nat}
    (hv : ∃ a n c, v = .slice a n c) (h : DataW.Trod enc Try.prog W 0 (fun _ => true) true 23 v d p) (hsz : (DataW.weightsEach Try.prog ts ds).all (· ≤ reachBytes) = true) (ht : ts[j]? = some 23) (hd : ds[j]? = some d) :
    ∃ ops, OpsAt W v ops := by
  obtain ⟨a0, n0, c0, rfl⟩ := hv
  obtain ⟨fuel, hf⟩ := h
  rcases open_slice_fields Try.underlying23 Try.underlying41 (by kernel_rfl) (by kernel_rfl) hf with ⟨hcs, hx⟩ | ⟨a, len, cap, m, D, Pl, hcs, _, hlc, hcm, hm, hx, hi⟩
  · simp [Value.cells] at hcs
    obtain ⟨rfl, rfl, rfl⟩ := hcs
    exact ⟨[], none, 0, rfl, by simp, by simp, by simp⟩
  · simp [Value.cells] at hcs
    obtain ⟨rfl, rfl, rfl⟩ := hcs
    simp only [if_true] at hm
    subst hm
    simp only [Prod.mk.injEq] at hx
    obtain ⟨rfl, rfl⟩ := hx
    have h56 := sized_slice hsz ht hd Try.underlying23
    rw [bytes41, List.length_map, List.length_map, List.length_range, List.length_range] at h56
    have hlen : n0 ≤ 2513169434843 := by
      unfold reachBytes at h56; omega
    obtain ⟨ops, hl, hp⟩ := list_of (P := fun i (x : OpD) => x.Ok ∧ W.cell? (a.add (i * 6 + 0)) = some (.int .i64 x.kind) ∧ W.cell? (a.add (i * 6 + 1)) = some (.int .i64 x.a) ∧ W.cell? (a.add (i * 6 + 2)) = some (.int .i64 x.b) ∧
        W.cell? (a.add (i * 6 + 3)) = some (.int .i64 x.dir) ∧ W.cell? (a.add (i * 6 + 4)) = some (.string x.name) ∧ W.cell? (a.add (i * 6 + 5)) = some (.int .i64 x.ino)) n0 (fun i hi' => by
      obtain ⟨ys, k, _, _, _, hf⟩ := hi i (Nat.lt_of_lt_of_le hi' hlc)
      obtain ⟨v0, y0, e0, _, t0⟩ := hf 0 _ rfl
      obtain ⟨v1, y1, e1, _, t1⟩ := hf 1 _ rfl
      obtain ⟨v2, y2, e2, _, t2⟩ := hf 2 _ rfl
      obtain ⟨v3, y3, e3, _, t3⟩ := hf 3 _ rfl
      obtain ⟨v4, y4, e4, _, t4⟩ := hf 4 _ rfl
      obtain ⟨v5, y5, e5, _, t5⟩ := hf 5 _ rfl
      obtain ⟨x0, q0, _, w0⟩ := DataW.trod_int Try.underlying3 t0
      obtain ⟨x1, q1, _, w1⟩ := DataW.trod_int Try.underlying3 t1
      obtain ⟨x2, q2, _, w2⟩ := DataW.trod_int Try.underlying3 t2
      obtain ⟨x3, q3, _, w3⟩ := DataW.trod_int Try.underlying3 t3
      obtain ⟨x4, q4, _, _⟩ := DataW.trod_string Try.underlying9 t4
      obtain ⟨x5, q5, _, w5⟩ := DataW.trod_int Try.underlying3 t5
      simp only [List.cons.injEq, and_true] at q0 q1 q2 q3 q4 q5
      subst q0 q1 q2 q3 q4 q5
      exact ⟨⟨x0, x1, x2, x3, x4, x5⟩, ⟨i64_of w0, i64_of w1, i64_of w2, i64_of w3, i64_of w5⟩, e0, e1, e2, e3, e4, e5⟩)
    subst hl
    refine ⟨ops, _, _, rfl, hlen, fun x hx => ?_, fun h0 => ?_⟩
    · obtain ⟨i, hi', rfl⟩ := List.getElem_of_mem hx
      exact (hp i hi').1
    · have hsp : a.spot = none := by
        have h1 := (hp 0 h0).2.1
        have h2 : a.add (0 * 6 + 0) = a := rfl
        rw [h2] at h1
        unfold World.cell? at h1
        split at h1
        · split at h1
          · cases h1
          · rename_i h3; simpa using h3
        · cases h1
      obtain ⟨g, o, sp⟩ := a
      simp only at hsp
      subst hsp
      have hadd : ∀ n, (⟨g, o, none⟩ : Addr).add n = ⟨g, o + n, none⟩ := fun n => by unfold Addr.add; split <;> simp_all
      have hg : g < W.heap.size := block_lt_of_cell (hp 0 h0).2.1
      refine ⟨g, o, rfl, hg, fun i hi' => ?_⟩
      obtain ⟨_, h0, h1, h2, h3, h4, h5⟩ := hp i hi'
      rw [hadd] at h0 h1 h2 h3 h4 h5
      exact ⟨h0, h1, h2, h3, h4, h5⟩
end Go.Proofs.Ytmamdacmpikdbaa
