import Derived.Test.YtabebkffcmajkaaW3
import Derived.Test.YtabebkffcmajkaaW2
/-! The index as a list of rows. -/
namespace Go.Proofs.Ytabebkffcmajkaa
open Go.RowKit Go.Maps

structure Row where
  dir : Int
  name : ByteArray
  ino : Int
  deriving DecidableEq
def Row.kv (r : Row) : Value × Value := (keyV r.dir r.name, .int .i64 r.ino)
def Row.Ok (r : Row) : Prop := (1 ≤ r.dir ∧ r.dir ≤ 256) ∧ (1 ≤ r.ino ∧ r.ino ≤ 256) ∧ goodName r.name = true
def cntDir (rows : List Row) (d : Int) : Nat := (rows.filter (fun r => decide (r.dir = d))).length
def cntIno (rows : List Row) (n : Int) : Nat := (rows.filter (fun r => decide (r.ino = n))).length
/-- what a name in a directory stands for; 0: nothing -/
def findIno (rows : List Row) (d : Int) (s : ByteArray) : Int := ((rows.find? (fun r => decide (r.dir = d ∧ r.name = s))).map (·.ino)).getD 0

theorem goodName_size {s : ByteArray} (h : goodName s = true) : 1 ≤ s.size ∧ s.size ≤ 28 := by
  unfold goodName at h
  simp only [Bool.and_eq_true, decide_eq_true_eq] at h
  exact ⟨h.1.1.1.1, h.1.1.1.2⟩

structure IndexAt (w : World) (b : Nat) (rows : List Row) : Prop where
  blk : Blk w (b + 3) 106 #[.map (some b), .map (some (b + 1)), .map (some (b + 2))]
  inos : MapIs Try.prog 100 w b (rows.map Row.kv)
  names : Counts w (b + 1) (cntDir rows)
  links : Counts w (b + 2) (cntIno rows)
  ok : ∀ r ∈ rows, r.Ok

/-- the index's blocks -/
def Ix (b : Nat) : Nat → Prop := fun k => b ≤ k ∧ k < b + 4

section
variable {w w' : World} {b : Nat} {rows : List Row}
theorem IndexAt.of_blocks (h : IndexAt w b rows) (hb : ∀ k, b ≤ k → k < b + 4 → w'.heap[k]? = w.heap[k]?) : IndexAt w' b rows :=
  ⟨h.blk.of_block (hb _ (by omega) (by omega)), h.inos.of_block (hb _ (by omega) (by omega)), h.names.of_block (hb _ (by omega) (by omega)), h.links.of_block (hb _ (by omega) (by omega)), h.ok⟩
theorem IndexAt.lt (h : IndexAt w b rows) : b + 3 < w.heap.size := h.blk.lt
theorem IndexAt.mod {S : Nat → Prop} (h : IndexAt w b rows) (hm : Mod S w w') (hs : ∀ k, b ≤ k → k < b + 4 → ¬ S k) : IndexAt w' b rows :=
  h.of_blocks fun k h1 h2 => hm.block k (by have := h.lt; omega) (hs k h1 h2)
theorem IndexAt.kept (h : IndexAt w b rows) (hm : Mod None_ w w') : IndexAt w' b rows := h.mod hm fun _ _ _ f => f.elim
theorem IndexAt.drew (h : IndexAt w b rows) : IndexAt w.drew b rows := h.of_blocks fun _ _ _ => rfl
theorem IndexAt.alloc (h : IndexAt w b rows) (o : Obj) : IndexAt (w.alloc o) b rows := h.kept ((Mod.refl _ w).alloc o)

theorem Row.Ok.wf {r : Row} (h : r.Ok) : (Lit.int .i64 r.dir).wf = true := wf_i64 (by have := h.1; omega) (by have := h.1; omega)
theorem Row.Ok.size {r : Row} (h : r.Ok) : r.name.size ≤ 28 := (goodName_size h.2.2).2

theorem IndexAt.nodup (h : IndexAt w b rows) : (rows.map (fun r => (r.dir, r.name))).Nodup := by
  have hn := h.inos.nodup
  rw [List.map_map] at hn
  refine (List.pairwise_map.2 ?_)
  refine (List.pairwise_map.1 hn).imp ?_
  intro x y hne e
  simp only [Prod.mk.injEq] at e
  exact hne (by simp [Row.kv, e.1, e.2])

theorem kv_mem {d : Int} {s : ByteArray} {v : Value} : (keyV d s, v) ∈ rows.map Row.kv ↔ ∃ r ∈ rows, r.dir = d ∧ r.name = s ∧ v = .int .i64 r.ino := by
  rw [List.mem_map]
  constructor
  · rintro ⟨r, hr, e⟩
    simp only [Row.kv, Prod.mk.injEq, keyV, Value.agg.injEq] at e
    obtain ⟨h1, h2⟩ := keyA_inj e.1
    exact ⟨r, hr, h1, h2, e.2.symm⟩
  · rintro ⟨r, hr, rfl, rfl, rfl⟩
    exact ⟨r, hr, rfl⟩

theorem find_none {d : Int} {s : ByteArray} (h : rows.find? (fun r => decide (r.dir = d ∧ r.name = s)) = none) : ∀ p ∈ rows.map Row.kv, p.1 ≠ keyV d s := by
  rintro ⟨k, v⟩ hp e
  simp only at e
  subst e
  obtain ⟨r, hr, h1, h2, _⟩ := kv_mem.1 hp
  have := List.find?_eq_none.1 h r hr
  simp [h1, h2] at this
theorem find_some {d : Int} {s : ByteArray} {r : Row} (h : rows.find? (fun r => decide (r.dir = d ∧ r.name = s)) = some r) : r ∈ rows ∧ r.dir = d ∧ r.name = s := by
  have h1 := List.find?_some h
  simp only [decide_eq_true_eq] at h1
  exact ⟨List.mem_of_find?_eq_some h, h1.1, h1.2⟩

theorem zero3' (w : World) : (zeroValue 3).run Try.prog w = .ok (.int .i64 0) w := zero3 w
/-- x.inos[k] -/
theorem look_of (h : MapIs Try.prog 100 w b (rows.map Row.kv)) (d : Int) (s : ByteArray) (hd : (Lit.int .i64 d).wf = true) (hs : s.size ≤ 28) :
    (Instr.lookup 103 (.map (some b)) (keyV d s) false).run Try.prog w = .ok (.int .i64 (findIno rows d s)) w := by
  cases hf : rows.find? (fun r => decide (r.dir = d ∧ r.name = s)) with
  | none =>
    obtain ⟨l, hl⟩ := keyOf_key d s hd hs
    have : findIno rows d s = 0 := by unfold findIno; rw [hf]; rfl
    rw [this]
    exact h.look_no keyKeyed Try.underlying103 zero3 hl (find_none hf)
  | some r =>
    obtain ⟨h1, h2, h3⟩ := find_some hf
    have : findIno rows d s = r.ino := by unfold findIno; rw [hf]; rfl
    rw [this]
    exact h.look keyKeyed Try.underlying103 (kv_mem.2 ⟨r, h1, h2, h3, rfl⟩)
theorem IndexAt.look (h : IndexAt w b rows) (d : Int) (s : ByteArray) (hd : (Lit.int .i64 d).wf = true) (hs : s.size ≤ 28) :
    (Instr.lookup 103 (.map (some b)) (keyV d s) false).run Try.prog w = .ok (.int .i64 (findIno rows d s)) w := look_of h.inos d s hd hs
theorem findIno_ne {d : Int} {s : ByteArray} (_hok : ∀ r ∈ rows, r.Ok) (h : findIno rows d s ≠ 0) : ∃ r ∈ rows, r.dir = d ∧ r.name = s ∧ findIno rows d s = r.ino := by
  cases hf : rows.find? (fun r => decide (r.dir = d ∧ r.name = s)) with
  | none => exact absurd (by unfold findIno; rw [hf]; rfl) h
  | some r =>
    obtain ⟨h1, h2, h3⟩ := find_some hf
    exact ⟨r, h1, h2, h3, by unfold findIno; rw [hf]; rfl⟩
theorem findIno_zero {d : Int} {s : ByteArray} (hok : ∀ r ∈ rows, r.Ok) (h : findIno rows d s = 0) : rows.find? (fun r => decide (r.dir = d ∧ r.name = s)) = none := by
  cases hf : rows.find? (fun r => decide (r.dir = d ∧ r.name = s)) with
  | none => rfl
  | some r =>
    obtain ⟨h1, h2, h3⟩ := find_some hf
    have e : findIno rows d s = r.ino := by unfold findIno; rw [hf]; rfl
    have := (hok r h1).2.1
    omega
theorem findIno_mem {r : Row} (hn : (rows.map (fun r => (r.dir, r.name))).Nodup) (h : r ∈ rows) : findIno rows r.dir r.name = r.ino := by
  induction rows with
  | nil => cases h
  | cons x l ih =>
    simp only [List.map_cons, List.nodup_cons] at hn
    unfold findIno
    rcases List.mem_cons.1 h with rfl | h
    · rw [List.find?_cons_of_pos (by simp)]; rfl
    · have hne : ¬ (x.dir = r.dir ∧ x.name = r.name) := fun e => hn.1 (by rw [e.1, e.2]; exact List.mem_map_of_mem (f := fun r : Row => (r.dir, r.name)) h)
      rw [List.find?_cons_of_neg (by simpa using hne)]
      exact ih hn.2 h
theorem findIno_bd {d : Int} {s : ByteArray} (hok : ∀ r ∈ rows, r.Ok) : 0 ≤ findIno rows d s ∧ findIno rows d s ≤ 256 := by
  by_cases h : findIno rows d s = 0
  · omega
  · obtain ⟨r, hr, _, _, e⟩ := findIno_ne hok h
    have := (hok r hr).2.1
    omega
theorem findIno_long {d : Int} {s : ByteArray} (hok : ∀ r ∈ rows, r.Ok) (h : 28 < s.size) : findIno rows d s = 0 := by
  by_cases h0 : findIno rows d s = 0
  · exact h0
  · obtain ⟨r, hr, _, e, _⟩ := findIno_ne hok h0
    have := (hok r hr).size
    rw [e] at this; omega
theorem findIno_bad {d : Int} {s : ByteArray} (hok : ∀ r ∈ rows, r.Ok) (h : goodName s = false) : findIno rows d s = 0 := by
  by_cases h0 : findIno rows d s = 0
  · exact h0
  · obtain ⟨r, hr, _, e, _⟩ := findIno_ne hok h0
    have := (hok r hr).2.2
    rw [e, h] at this; cases this
theorem cntDir_le (rows : List Row) (d : Int) : cntDir rows d ≤ rows.length := List.length_filter_le _ _
theorem cntIno_le (rows : List Row) (d : Int) : cntIno rows d ≤ rows.length := List.length_filter_le _ _

/-- the cells that a walk reads -/
theorem IndexAt.cells (h : IndexAt w b rows) : w.cell? ⟨b + 3, 0, none⟩ = some (.map (some b)) ∧ w.cell? ⟨b + 3, 1, none⟩ = some (.map (some (b + 1))) ∧ w.cell? ⟨b + 3, 2, none⟩ = some (.map (some (b + 2))) :=
  ⟨h.blk.cell 0, h.blk.cell 1, h.blk.cell 2⟩
end
end Go.Proofs.Ytabebkffcmajkaa
