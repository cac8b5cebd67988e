import Derived.Test.YtmamdacmpikdbaaP3
import Derived.Test.YtmamdacmpikdbaaSt
/-! A slice of steps that a law makes itself. -/
namespace Go.Proofs.Ytmamdacmpikdbaa
open Go.RowKit Go.Maps

def opOne (o : OpD) : List Value := [.int .i64 o.kind, .int .i64 o.a, .int .i64 o.b, .int .i64 o.dir, .string o.name, .int .i64 o.ino]
def opCells (l : List OpD) : List Value := l.flatMap opOne
theorem opCells_length (l : List OpD) : (opCells l).length = l.length * 6 := by
  induction l with
  | nil => rfl
  | cons x l ih => unfold opCells at *; rw [List.flatMap_cons, List.length_append, ih]; simp [opOne]; omega
theorem opCells_snoc (l : List OpD) (x : OpD) : opCells (l ++ [x]) = opCells l ++ opOne x := by unfold opCells; rw [List.flatMap_append]; simp
theorem opCells_get : ∀ (l : List OpD) (i t : Nat) (h : i < l.length) (_ : t < 6), (opCells l)[i * 6 + t]? = (opOne l[i])[t]?
  | x :: l, 0, t, _, ht => by
    unfold opCells
    rw [List.flatMap_cons, List.getElem?_append_left (by simp [opOne]; omega)]
    simp
  | x :: l, i + 1, t, h, ht => by
    have ih := opCells_get l i t (by simpa using h) ht
    unfold opCells at ih ⊢
    rw [List.flatMap_cons, List.getElem?_append_right (by simp [opOne]; omega)]
    have e : (i + 1) * 6 + t - (opOne x).length = i * 6 + t := by simp [opOne]; omega
    rw [e, ih]; rfl
theorem opCells_one (l : List OpD) : ∀ u ∈ opCells l, u.oneCell' = true := by
  intro u hu
  unfold opCells at hu
  obtain ⟨p, _, hp⟩ := List.mem_flatMap.1 hu
  simp only [opOne, List.mem_cons, List.not_mem_nil, or_false] at hp
  rcases hp with rfl | rfl | rfl | rfl | rfl | rfl <;> rfl

theorem own_ops {w : World} {base : Nat} {v : Value} {L : List OpD} (h : w.ownsRow base 41 6 v L.length (opCells L)) (hl : L.length ≤ 2513169434843) (hok : ∀ x ∈ L, x.Ok) : OpsAt w v L := by
  rcases Nat.eq_zero_or_pos L.length with h0 | h0
  · rcases h.2 with ⟨rfl, _⟩ | ⟨g, cap, cur, rfl, hb, hh, _⟩
    · exact ⟨none, 0, by rw [h0], hl, hok, fun hp => by omega⟩
    · exact ⟨_, cap, rfl, hl, hok, fun hp => by omega⟩
  · obtain ⟨g, cap, rfl, hg1, hg2, hg3, hg4, hcell⟩ := own_cells h h0
    refine ⟨_, cap, rfl, hl, hok, fun _ => ⟨g, 0, rfl, hg2, fun i hi => ?_⟩⟩
    have hc : ∀ t u, t < 6 → (opOne L[i])[t]? = some u → w.cell? ⟨g, 0 + i * 6 + t, none⟩ = some u := fun t u ht hu => by
      rw [Nat.zero_add]; exact hcell _ _ ((opCells_get L i t hi ht).trans hu)
    exact ⟨hc 0 _ (by omega) rfl, hc 1 _ (by omega) rfl, hc 2 _ (by omega) rfl, hc 3 _ (by omega) rfl, hc 4 _ (by omega) rfl, hc 5 _ (by omega) rfl⟩

theorem info41 : (Try.prog.info? 41).map (fun i => (i.zero, i.size, i.bytes)) = some (some (.agg #[.int .i64 0, .int .i64 0, .int .i64 0, .int .i64 0, .string ByteArray.empty, .int .i64 0]), 6, 56) := by kernel_rfl
end Go.Proofs.Ytmamdacmpikdbaa
