import Derived.Test.YtabebkffcmajkaaW1
/-! The index: what its four blocks hold; the counts. -/
namespace Go.Proofs.Ytabebkffcmajkaa
open Go.RowKit Go.Maps

/-- block b is a map from numbers to their counts, of which none is 0 -/
def Counts (w : World) (b : Nat) (f : Int → Nat) : Prop :=
  ∃ l, MapIs Try.prog 3 w b l ∧ ∀ p, p ∈ l ↔ ∃ d, f d ≠ 0 ∧ p = (.int .i64 d, .int .i64 (f d))
theorem Counts.of_block {w w' : World} {b : Nat} {f : Int → Nat} (h : Counts w b f) (hb : w'.heap[b]? = w.heap[b]?) : Counts w' b f := by
  obtain ⟨l, h1, h2⟩ := h; exact ⟨l, h1.of_block hb, h2⟩
theorem Counts.lt {w : World} {b : Nat} {f : Int → Nat} (h : Counts w b f) : b < w.heap.size := by obtain ⟨l, h1, h2⟩ := h; exact h1.lt
theorem Counts.mod {S : Nat → Prop} {w w' : World} {b : Nat} {f : Int → Nat} (h : Counts w b f) (hm : Mod S w w') (hs : ¬ S b) : Counts w' b f := h.of_block (hm.block b h.lt hs)
theorem Counts.congr {w : World} {b : Nat} {f g : Int → Nat} (h : Counts w b f) (hf : ∀ d, f d = g d) : Counts w b g := by
  obtain rfl : f = g := funext hf; exact h
theorem Counts.made (w : World) : Counts (w.alloc (.map #[] 0)) w.heap.size (fun _ => 0) := ⟨[], MapIs.made w, by simp⟩

theorem zero3 (w : World) : (zeroValue 3).run Try.prog w = .ok (.int .i64 0) w := by kernel_rfl
theorem keyOf_int {d : Int} (hd : (Lit.int .i64 d).wf = true) : keyOf Try.prog 3 (.int .i64 d) = some (.int .i64 d) := by
  simp [keyOf, mapKey, Try.underlying3, hd]
theorem key_wf {d : Int} {x : Lit} (h : keyOf Try.prog 3 (.int .i64 d) = some x) : (Lit.int .i64 d).wf = true := by
  simp only [keyOf, mapKey, Try.underlying3] at h
  split at h
  · rename_i h'; exact h'.2
  · cases h

theorem Counts.look {w : World} {b : Nat} {f : Int → Nat} (h : Counts w b f) (d : Int) (hd : (Lit.int .i64 d).wf = true) :
    (Instr.lookup 104 (.map (some b)) (.int .i64 d) false).run Try.prog w = .ok (.int .i64 (f d)) w := by
  obtain ⟨l, h1, h2⟩ := h
  by_cases h0 : f d = 0
  · rw [h0]
    exact h1.look_no intKeyed Try.underlying104 zero3 (keyOf_int hd) (fun p hp e => by
      obtain ⟨d', hd', rfl⟩ := (h2 p).1 hp
      simp only [Value.int.injEq, true_and] at e
      subst e; exact hd' h0)
  · exact h1.look intKeyed Try.underlying104 ((h2 _).2 ⟨d, h0, rfl⟩)

def upd (f : Int → Nat) (n : Int) (v : Nat) : Int → Nat := fun d => if d = n then v else f d

/-- a store of a count that is not 0 -/
theorem Counts.store {w : World} {b : Nat} {f : Int → Nat} (h : Counts w b f) (n : Int) (hn : (Lit.int .i64 n).wf = true) (v : Nat) (hv : v ≠ 0) :
    ∃ o, (Instr.mapUpdate 104 (.map (some b)) (.int .i64 n) (.int .i64 v)).run Try.prog w = .ok () (putBlk w b o) ∧ Counts (putBlk w b o) b (upd f n v) := by
  obtain ⟨l, h1, h2⟩ := h
  by_cases h0 : f n = 0
  · obtain ⟨o, hr, hm⟩ := h1.store_new intKeyed Try.underlying104 (v := .int .i64 v) (keyOf_int hn) (fun p hp e => by
      obtain ⟨d', hd', rfl⟩ := (h2 p).1 hp
      simp only [Value.int.injEq, true_and] at e
      subst e; exact hd' h0)
    refine ⟨o, hr, _, hm, fun p => ?_⟩
    simp only [List.mem_cons, h2, upd]
    constructor
    · rintro (rfl | ⟨d, hd, rfl⟩)
      · exact ⟨n, by simpa using hv, by simp⟩
      · refine ⟨d, ?_, ?_⟩ <;> (have : d ≠ n := by rintro rfl; exact hd h0
                                simp [this, hd])
    · rintro ⟨d, hd, rfl⟩
      by_cases e : d = n
      · subst e; simp
      · simp only [e, if_false] at hd ⊢
        exact .inr ⟨d, hd, rfl⟩
  · have hin : (Value.int .i64 n, Value.int .i64 (f n : Int)) ∈ l := (h2 _).2 ⟨n, h0, rfl⟩
    obtain ⟨l', hl⟩ := mem_perm hin
    obtain ⟨o, hr, hm⟩ := h1.store_old intKeyed Try.underlying104 (v := .int .i64 v) hl
    have hnd : ∀ p ∈ l', p.1 ≠ Value.int .i64 n := by
      have := (hl.map (·.1)).nodup_iff.1 h1.nodup
      simp only [List.map_cons, List.nodup_cons] at this
      intro p hp e
      exact this.1 (by rw [← e]; exact List.mem_map_of_mem hp)
    refine ⟨o, hr, _, hm, fun p => ?_⟩
    simp only [List.mem_cons, upd]
    constructor
    · rintro (rfl | hp)
      · exact ⟨n, by simpa using hv, by simp⟩
      · obtain ⟨d, hd, rfl⟩ := (h2 p).1 (hl.mem_iff.2 (List.mem_cons_of_mem _ hp))
        have : d ≠ n := by rintro rfl; exact hnd _ hp rfl
        exact ⟨d, by simpa [this] using hd, by simp [this]⟩
    · rintro ⟨d, hd, rfl⟩
      by_cases e : d = n
      · subst e; simp
      · simp only [e, if_false] at hd ⊢
        have := hl.mem_iff.1 ((h2 _).2 ⟨d, hd, rfl⟩)
        rcases List.mem_cons.1 this with e' | hp
        · simp only [Prod.mk.injEq, Value.int.injEq, true_and] at e'
          exact absurd e'.1 e
        · exact .inr hp
/-- a store of 0, and the delete behind it -/
theorem Counts.store0 {w : World} {b : Nat} {f : Int → Nat} (h : Counts w b f) (n : Int) (h0 : f n ≠ 0) :
    ∃ o o', (Instr.mapUpdate 104 (.map (some b)) (.int .i64 n) (.int .i64 0)).run Try.prog w = .ok () (putBlk w b o) ∧
      (Instr.lookup 104 (.map (some b)) (.int .i64 n) false).run Try.prog (putBlk w b o) = .ok (.int .i64 0) (putBlk w b o) ∧
      (∀ ty, (Builtin.delete_ #[104, 3] ty #[.map (some b), .int .i64 n]).run Try.prog (putBlk w b o) = .ok (.tuple #[]) (putBlk (putBlk w b o) b o')) ∧ Counts (putBlk (putBlk w b o) b o') b (upd f n 0) := by
  obtain ⟨l, h1, h2⟩ := h
  have hin : (Value.int .i64 n, Value.int .i64 (f n : Int)) ∈ l := (h2 _).2 ⟨n, h0, rfl⟩
  obtain ⟨l', hl⟩ := mem_perm hin
  obtain ⟨o, hr, hm⟩ := h1.store_old intKeyed Try.underlying104 (v := .int .i64 0) hl
  have hlook := hm.look intKeyed Try.underlying104 (x := .int .i64 n) (v := .int .i64 0) (by simp)
  obtain ⟨o', hd, hm'⟩ := hm.drop intKeyed (ts := #[104, 3]) rfl Try.underlying104 (List.Perm.refl _)
  have hnd : ∀ p ∈ l', p.1 ≠ Value.int .i64 n := by
    have := (hl.map (·.1)).nodup_iff.1 h1.nodup
    simp only [List.map_cons, List.nodup_cons] at this
    intro p hp e
    exact this.1 (by rw [← e]; exact List.mem_map_of_mem hp)
  refine ⟨o, o', hr, hlook, hd, _, hm', fun p => ?_⟩
  simp only [upd]
  constructor
  · intro hp
    obtain ⟨d, hd, rfl⟩ := (h2 p).1 (hl.mem_iff.2 (List.mem_cons_of_mem _ hp))
    have : d ≠ n := by rintro rfl; exact hnd _ hp rfl
    exact ⟨d, by simpa [this] using hd, by simp [this]⟩
  · rintro ⟨d, hd, rfl⟩
    by_cases e : d = n
    · subst e; simp at hd
    · simp only [e, if_false] at hd ⊢
      have := hl.mem_iff.1 ((h2 _).2 ⟨d, hd, rfl⟩)
      rcases List.mem_cons.1 this with e' | hp
      · simp only [Prod.mk.injEq, Value.int.injEq, true_and] at e'
        exact absurd e'.1 e
      · exact hp
end Go.Proofs.Ytabebkffcmajkaa
