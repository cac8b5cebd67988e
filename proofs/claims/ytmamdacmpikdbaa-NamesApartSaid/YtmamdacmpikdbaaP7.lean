import Derived.Test.YtmamdacmpikdbaaP6
/-! The plain law of NamesLate: how often the name "m" stands in a list. -/
namespace Go.Proofs.Ytmamdacmpikdbaa
open Go.RowKit Go.Maps

def mB : ByteArray := ⟨#[109]⟩
def mets (l : List (ByteArray × Int)) : Nat := (l.filter (fun p => decide (p.1 = mB))).length
theorem mets_snoc (l : List (ByteArray × Int)) (p : ByteArray × Int) : mets (l ++ [p]) = mets l + if p.1 = mB then 1 else 0 := by
  unfold mets
  rw [List.filter_append, List.length_append]
  by_cases h : p.1 = mB <;> simp [h]
theorem mets_le (l : List (ByteArray × Int)) : mets l ≤ l.length := List.length_filter_le _ _
theorem mets_none {R : List Row} (hok : ∀ r ∈ R, r.Ok) (hn : (R.map (fun r => (r.dir, r.name))).Nodup) {d : Int} (h : findIno R d mB = 0) : mets (listPairs R d) = 0 := by
  unfold mets
  rw [List.length_eq_zero_iff, List.filter_eq_nil_iff]
  intro p hp
  obtain ⟨i, hi, rfl⟩ := List.mem_iff_getElem.1 hp
  have h1 := listPairs_find (R := R) d i hi
  have h2 := listPairs_bd hok hn d i hi
  simp only [decide_eq_true_eq]
  intro e
  rw [e, h] at h1
  omega
theorem mets_one {R : List Row} (hok : ∀ r ∈ R, r.Ok) (hn : (R.map (fun r => (r.dir, r.name))).Nodup) {d : Int} (h : findIno R d mB ≠ 0) : mets (listPairs R d) = 1 := by
  obtain ⟨r, hr, h1, h2, _⟩ := findIno_ne hok h
  have hm : mB ∈ (listPairs R d).map (·.1) := by
    have : (listPairs R d).map (·.1) = listNames R d := by simp [listPairs, pairsOf, Function.comp_def]
    rw [this]
    exact mem_listNames.2 ⟨r, hr, h1, h2⟩
  have hnd := pairs_nodup hn d
  generalize listPairs R d = l at hm hnd ⊢
  induction l with
  | nil => simp at hm
  | cons p l ih =>
    simp only [List.map_cons, List.nodup_cons] at hnd
    by_cases e : p.1 = mB
    · have : l.filter (fun p => decide (p.1 = mB)) = [] := by
        rw [List.filter_eq_nil_iff]
        intro q hq
        simp only [decide_eq_true_eq]
        intro e2
        exact hnd.1 (by rw [e, ← e2]; exact List.mem_map_of_mem hq)
      unfold mets
      rw [List.filter_cons_of_pos (by simpa using e), this]
      rfl
    · have hm' : mB ∈ l.map (·.1) := by
        rcases List.mem_cons.1 hm with h | h
        · exact absurd h.symm e
        · exact h
      have := ih hm' hnd.2
      unfold mets at this ⊢
      rw [List.filter_cons_of_neg (by simpa using e)]
      exact this
/-- "m" and then another name are put in where neither stands -/
theorem late_put {R : List Row} {d n : Int} (s : ByteArray) (hd : isInodeB d = true) (hi : isInodeB n = true) :
    putErr (dropRows (dropRows R d mB) d s) d mB n = 0 := by
  have hg : goodName mB = true := by decide +kernel
  have h1 : findIno (dropRows (dropRows R d mB) d s) d mB = 0 := by
    by_cases e : mB = s
    · subst e; exact find_drop_same _ d mB
    · rw [find_drop_ne e, find_drop_same]
  unfold putErr
  rw [hd, hi, hg, h1]
  simp
theorem late_put2 {R : List Row} {d n : Int} {s : ByteArray} (hd : isInodeB d = true) (hi : isInodeB n = true) (hg : goodName s = true) (hs : s ≠ mB) :
    putErr (⟨d, mB, n⟩ :: dropRows R d s) d s n = 0 := by
  have h1 : findIno (⟨d, mB, n⟩ :: dropRows R d s) d s = 0 := by rw [findIno_cons_ne hs, find_drop_same]
  unfold putErr
  rw [hd, hi, hg, h1]
  simp
theorem drop_length (R : List Row) (d : Int) (s : ByteArray) : (dropRows R d s).length ≤ R.length := List.length_filter_le _ _
theorem mB_iff {x : ByteArray} : (x.toList == [109]) = decide (x = mB) := by
  by_cases h : x = mB
  · subst h; decide +kernel
  · rw [decide_eq_false h, beq_eq_false_iff_ne]
    intro e
    apply h
    have : x.toList = mB.toList := by rw [e]; decide +kernel
    rw [Go.Lib.toList_data, Go.Lib.toList_data] at this
    exact Go.WideShapes.bytes_inj this
end Go.Proofs.Ytmamdacmpikdbaa
