import Derived.Test.YtmamdacmpikdbaaE
/-! Plain laws on the rows and the sorted names. -/
namespace Go.Proofs.Ytmamdacmpikdbaa
open Go.RowKit Go.Maps

def leS (x y : ByteArray) : Prop := (!strLt y x) = true
theorem leS_iff {x y : ByteArray} : leS x y ↔ strLt y x = false := by unfold leS; simp
theorem leS_trans {x y z : ByteArray} (h1 : leS x y) (h2 : leS y z) : leS x z := by
  rw [leS_iff] at *
  cases h : strLt z x
  · rfl
  · cases h3 : strLt x y
    · have := strLt_tri h3 h1
      subst this
      rw [h] at h2; cases h2
    · have := strLt_trans h h3
      rw [this] at h2; cases h2
theorem leS_of_lt {x y : ByteArray} (h : strLt x y = true) : leS x y := by rw [leS_iff]; exact strLt_asymm h
theorem lt_of_leS_ne {x y : ByteArray} (h : leS x y) (hne : x ≠ y) : strLt x y = true := by
  rw [leS_iff] at h
  cases h2 : strLt x y
  · exact absurd (strLt_tri h2 h) hne
  · rfl

theorem sortNames_cons (s : ByteArray) (ns : List ByteArray) : ∃ j, j ≤ (sortNames ns).length ∧ sortNames (s :: ns) = (sortNames ns).take j ++ s :: (sortNames ns).drop j := by
  have hsrt : (sortNames ns).Pairwise leS := sortNames_sorted ns
  obtain ⟨L, hL⟩ : ∃ L, L = sortNames ns := ⟨_, rfl⟩
  have hperm : L.Perm ns := by rw [hL]; exact List.mergeSort_perm _ _
  rw [← hL] at hsrt ⊢
  have hsplit : L.takeWhile (fun x => strLt x s) ++ L.dropWhile (fun x => strLt x s) = L := List.takeWhile_append_dropWhile
  have hj : (L.takeWhile (fun x => strLt x s)).length ≤ L.length := by
    have := congrArg List.length hsplit
    rw [List.length_append] at this; omega
  have ht : L.take (L.takeWhile (fun x => strLt x s)).length = L.takeWhile (fun x => strLt x s) := by
    conv => lhs; rw [← hsplit]
    rw [hsplit]
    conv => lhs; arg 2; rw [← hsplit]
    rw [List.take_left']; rfl
  have hd : L.drop (L.takeWhile (fun x => strLt x s)).length = L.dropWhile (fun x => strLt x s) := by
    conv => lhs; arg 2; rw [← hsplit]
    rw [List.drop_left']; rfl
  refine ⟨_, hj, ?_⟩
  rw [ht, hd]
  have hlow : ∀ x ∈ L.takeWhile (fun x => strLt x s), strLt x s = true := fun x hx => by
    have := List.all_takeWhile (l := L) (p := fun x => strLt x s)
    rw [List.all_eq_true] at this
    exact this x hx
  have hpw : (L.takeWhile (fun x => strLt x s) ++ L.dropWhile (fun x => strLt x s)).Pairwise leS := by rw [hsplit]; exact hsrt
  obtain ⟨p1, p2, p3⟩ := List.pairwise_append.1 hpw
  have hhigh : ∀ y ∈ L.dropWhile (fun x => strLt x s), leS s y := by
    intro y hy
    cases hdw : L.dropWhile (fun x => strLt x s) with
    | nil => rw [hdw] at hy; cases hy
    | cons z r =>
      have hz : strLt z s = false := by
        have := List.head?_dropWhile_not (fun x => strLt x s) L
        rw [hdw] at this
        simpa using this
      rw [hdw] at hy p2
      rcases List.mem_cons.1 hy with rfl | hy
      · exact leS_iff.2 hz
      · exact leS_trans (leS_iff.2 hz) ((List.pairwise_cons.1 p2).1 y hy)
  refine sortNames_of ?_ ?_
  · refine List.Perm.trans ?_ List.perm_middle.symm
    rw [hsplit]
    exact (hperm.symm).cons s
  · refine List.pairwise_append.2 ⟨p1, List.pairwise_cons.2 ⟨hhigh, p2⟩, ?_⟩
    intro x hx y hy
    rcases List.mem_cons.1 hy with rfl | hy
    · exact leS_of_lt (hlow x hx)
    · exact p3 x hx y hy

theorem mem_namesIn {R : List Row} {d : Int} {x : ByteArray} : x ∈ namesIn R d ↔ ∃ r ∈ R, r.dir = d ∧ r.name = x := by
  unfold namesIn
  rw [List.mem_map]
  constructor
  · rintro ⟨r, hr, e⟩
    obtain ⟨h1, h2⟩ := List.mem_filter.1 hr
    exact ⟨r, h1, by simpa using h2, e⟩
  · rintro ⟨r, hr, h1, h2⟩
    exact ⟨r, List.mem_filter.2 ⟨hr, by simpa using h1⟩, h2⟩
theorem mem_listNames {R : List Row} {d : Int} {x : ByteArray} : x ∈ listNames R d ↔ ∃ r ∈ R, r.dir = d ∧ r.name = x := by
  unfold listNames sortNames
  rw [List.mem_mergeSort, mem_namesIn]
theorem no_row {R : List Row} {d : Int} {s : ByteArray} (h : R.find? (fun r => decide (r.dir = d ∧ r.name = s)) = none) {r : Row} (hr : r ∈ R) : ¬ (r.dir = d ∧ r.name = s) := by
  have := List.find?_eq_none.1 h r hr
  simpa only [decide_eq_true_eq] using this
theorem findIno_cons_same (R : List Row) (d : Int) (s : ByteArray) (n : Int) : findIno (⟨d, s, n⟩ :: R) d s = n := by
  unfold findIno; rw [List.find?_cons_of_pos (by simp)]; rfl
theorem findIno_cons_ne {R : List Row} {d : Int} {s x : ByteArray} {n : Int} (h : x ≠ s) : findIno (⟨d, s, n⟩ :: R) d x = findIno R d x := by
  unfold findIno; rw [List.find?_cons_of_neg (by simp; exact fun e => h e.symm)]
theorem findIno_cons_dir {R : List Row} {d d' : Int} {s x : ByteArray} {n : Int} (h : d' ≠ d) : findIno (⟨d, s, n⟩ :: R) d' x = findIno R d' x := by
  unfold findIno; rw [List.find?_cons_of_neg (by simp; intro e; exact absurd e.symm h)]

/-- a row more: where its pair stands -/
theorem listPairs_cons {R : List Row} {d : Int} {s : ByteArray} {n : Int} (hno : R.find? (fun r => decide (r.dir = d ∧ r.name = s)) = none) :
    (∀ p ∈ listPairs R d, p.1 ≠ s) ∧ ∃ j, j ≤ (listPairs R d).length ∧ listPairs (⟨d, s, n⟩ :: R) d = (listPairs R d).take j ++ (s, n) :: (listPairs R d).drop j := by
  have hne : ∀ x ∈ listNames R d, x ≠ s := by
    intro x hx e
    obtain ⟨r, hr, h1, h2⟩ := mem_listNames.1 hx
    exact no_row hno hr ⟨h1, h2.trans e⟩
  refine ⟨fun p hp => ?_, ?_⟩
  · unfold listPairs pairsOf at hp
    obtain ⟨x, hx, rfl⟩ := List.mem_map.1 hp
    exact hne x hx
  · have hn : namesIn (⟨d, s, n⟩ :: R) d = s :: namesIn R d := namesIn_cons_eq ⟨d, s, n⟩ R
    obtain ⟨j, hj, he⟩ := sortNames_cons s (namesIn R d)
    refine ⟨j, by rw [listPairs, pairsOf_length]; exact hj, ?_⟩
    unfold listPairs listNames
    rw [hn, he]
    unfold pairsOf
    rw [List.map_append, List.map_cons, findIno_cons_same, List.map_take, List.map_drop]
    have hm : (sortNames (namesIn R d)).map (fun x => (x, findIno (⟨d, s, n⟩ :: R) d x)) = (sortNames (namesIn R d)).map (fun x => (x, findIno R d x)) :=
      List.map_congr_left fun x hx => by rw [findIno_cons_ne (hne x hx)]
    rw [hm]
theorem dropRows_cons {R : List Row} {d : Int} {s : ByteArray} {n : Int} (hno : R.find? (fun r => decide (r.dir = d ∧ r.name = s)) = none) : dropRows (⟨d, s, n⟩ :: R) d s = R := by
  have := dropRows_none hno
  unfold dropRows at *
  rw [List.filter_cons_of_neg (by simp)]; exact this

theorem putRows_ok {rows : List Row} (h : ∀ r ∈ rows, r.Ok) (d : Int) (s : ByteArray) (i : Int) : ∀ r ∈ putRows rows d s i, r.Ok := by
  unfold putRows
  split
  · rename_i he
    intro r hr
    rcases List.mem_cons.1 hr with rfl | hr
    · unfold putErr at he
      by_cases h1 : isInodeB d = false ∨ isInodeB i = false
      · rw [if_pos h1] at he; cases he
      · rw [if_neg h1] at he
        by_cases h2 : goodName s = false
        · rw [if_pos h2] at he; cases he
        · have hd : isInodeB d = true := by simpa using fun h => h1 (.inl h)
          have hi : isInodeB i = true := by simpa using fun h => h1 (.inr h)
          exact ⟨by simpa [isInodeB] using hd, by simpa [isInodeB] using hi, by simpa using h2⟩
    · exact h r hr
  · exact h
theorem fold_ok (ops : List OpD) : ∀ rows : List Row, (∀ r ∈ rows, r.Ok) → ∀ r ∈ ops.foldl putOp rows, r.Ok := by
  induction ops with
  | nil => intro rows h; exact h
  | cons o l ih => intro rows h; exact ih _ (putRows_ok h _ _ _)
theorem fillRows_ok (ops : List OpD) : ∀ r ∈ fillRows ops, r.Ok := fold_ok ops [] (by simp)
end Go.Proofs.Ytmamdacmpikdbaa
