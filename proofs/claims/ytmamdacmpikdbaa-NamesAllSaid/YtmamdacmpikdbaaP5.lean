import Derived.Test.YtmamdacmpikdbaaRF4
/-! Plain laws: the program's rows and the reference's tell the same. -/
namespace Go.Proofs.Ytmamdacmpikdbaa
open Go.RowKit Go.Maps

def ltRow (a b : Row) : Prop := a.dir < b.dir ∨ (a.dir = b.dir ∧ strLt a.name b.name = true)
structure Rel (R L : List Row) : Prop where
  perm : R.Perm L
  ok : ∀ r ∈ R, r.Ok
  nodup : (R.map (fun r => (r.dir, r.name))).Nodup
  sorted : L.Pairwise ltRow

section
variable {R L : List Row}
theorem Rel.nodupL (h : Rel R L) : (L.map (fun r => (r.dir, r.name))).Nodup := (h.perm.map _).nodup_iff.1 h.nodup
theorem Rel.len (h : Rel R L) : R.length = L.length := h.perm.length_eq
theorem rel_nil : Rel [] [] := ⟨List.Perm.refl _, by simp, by simp, .nil⟩

theorem idxOf_none {d : Int} {s : ByteArray} : idxOf L d s = none ↔ ∀ r ∈ L, ¬ (r.dir = d ∧ r.name = s) := by
  unfold idxOf
  rw [List.findIdx?_eq_none_iff]
  simp
theorem idxOf_some {d : Int} {s : ByteArray} {i : Nat} (h : idxOf L d s = some i) : ∃ hi : i < L.length, L[i].dir = d ∧ L[i].name = s := by
  unfold idxOf at h
  obtain ⟨hi, h1, _⟩ := List.findIdx?_eq_some_iff_getElem.1 h
  exact ⟨hi, by simpa using h1⟩
theorem Rel.find (h : Rel R L) (d : Int) (s : ByteArray) : findIno R d s = refIno L d s := by
  cases hi : idxOf L d s with
  | none =>
    have : refIno L d s = 0 := by unfold refIno; rw [hi]
    rw [this]
    exact findIno_none fun r hr => idxOf_none.1 hi r (h.perm.mem_iff.1 hr)
  | some i =>
    obtain ⟨hl, h1, h2⟩ := idxOf_some hi
    have : refIno L d s = L[i].ino := by unfold refIno; rw [hi]; simp [hl]
    rw [this, ← h1, ← h2]
    exact findIno_mem h.nodup (h.perm.mem_iff.2 (List.getElem_mem hl))
theorem Rel.find_zero (h : Rel R L) (d : Int) (s : ByteArray) : findIno R d s = 0 ↔ idxOf L d s = none := by
  constructor
  · intro h0
    cases hi : idxOf L d s with
    | none => rfl
    | some i =>
      obtain ⟨hl, h1, h2⟩ := idxOf_some hi
      have hm := h.perm.mem_iff.2 (List.getElem_mem hl)
      have := findIno_mem h.nodup hm
      rw [h1, h2, h0] at this
      have := (h.ok _ hm).2.1
      omega
  · intro hi
    exact findIno_none fun r hr => idxOf_none.1 hi r (h.perm.mem_iff.1 hr)
theorem findAt_nonneg {d : Int} {s : ByteArray} : 0 ≤ findAt L d s ↔ idxOf L d s ≠ none := by
  cases hi : idxOf L d s with
  | none => rw [findAt_none hi]; simp
  | some i => rw [findAt_some hi]; simp
theorem Rel.putErr (h : Rel R L) (d : Int) (s : ByteArray) (i : Int) : putErr R d s i = refPutErr L d s i := by
  have hf : findIno R d s ≠ 0 ↔ 0 ≤ findAt L d s := by rw [findAt_nonneg]; exact not_congr (h.find_zero d s)
  unfold Go.Proofs.Ytmamdacmpikdbaa.putErr refPutErr
  by_cases h1 : isInodeB d = false ∨ isInodeB i = false
  · rw [if_pos h1, if_pos h1]
  · rw [if_neg h1, if_neg h1]
    by_cases h2 : goodName s = false
    · rw [if_pos h2, if_pos h2]
    · rw [if_neg h2, if_neg h2]
      by_cases h3 : 0 ≤ findAt L d s
      · rw [if_pos h3, if_pos (hf.2 h3)]
      · rw [if_neg h3, if_neg (fun e => h3 (hf.1 e))]

theorem insFold_done (x : Row) : ∀ (L acc : List Row), L.foldl (insStep x) (acc, true) = (acc ++ L, true)
  | [], acc => by simp
  | r :: L, acc => by
    rw [List.foldl_cons]
    have : insStep x (acc, true) r = (acc ++ [r], true) := by unfold insStep; rw [if_neg (by simp)]
    rw [this, insFold_done x L]; simp
theorem insFold_parts (x : Row) : ∀ (L acc : List Row), (if (L.foldl (insStep x) (acc, false)).2 = true then (L.foldl (insStep x) (acc, false)).1 else (L.foldl (insStep x) (acc, false)).1 ++ [x]) =
    acc ++ (L.takeWhile (fun r => !aboveB r x.dir x.name) ++ x :: L.dropWhile (fun r => !aboveB r x.dir x.name))
  | [], acc => by simp
  | r :: L, acc => by
    rw [List.foldl_cons]
    cases ha : aboveB r x.dir x.name with
    | true =>
      have : insStep x (acc, false) r = (acc ++ [x] ++ [r], true) := by unfold insStep; rw [if_pos ⟨rfl, ha⟩]
      rw [this, insFold_done]
      simp [ha]
    | false =>
      have : insStep x (acc, false) r = (acc ++ [r], false) := by unfold insStep; rw [if_neg (by simp [ha])]
      rw [this, insFold_parts x L]
      simp [ha]
theorem refIns_eq (x : Row) (L : List Row) : refIns x L = L.takeWhile (fun r => !aboveB r x.dir x.name) ++ x :: L.dropWhile (fun r => !aboveB r x.dir x.name) := by
  have h := insFold_parts x L []
  rw [List.nil_append] at h
  exact h
theorem ltRow_trans {a b c : Row} (h : ltRow a b) (k : ltRow b c) : ltRow a c := by
  unfold ltRow at *
  rcases h with h | ⟨h1, h2⟩ <;> rcases k with k | ⟨k1, k2⟩
  · left; omega
  · left; omega
  · left; omega
  · right; exact ⟨h1.trans k1, strLt_trans h2 k2⟩
theorem above_lt {r x : Row} (h : aboveB r x.dir x.name = true) : ltRow x r := by
  unfold aboveB at h
  simp only [Bool.or_eq_true, decide_eq_true_eq, Bool.and_eq_true] at h
  rcases h with h | ⟨h1, h2⟩
  · exact .inl h
  · exact .inr ⟨h1.symm, h2⟩
theorem not_above_lt {r x : Row} (h : aboveB r x.dir x.name = false) (hne : ¬ (r.dir = x.dir ∧ r.name = x.name)) : ltRow r x := by
  unfold aboveB at h
  simp only [Bool.or_eq_false_iff, decide_eq_false_iff_not, Bool.and_eq_false_iff] at h
  obtain ⟨h1, h2⟩ := h
  rcases Int.lt_trichotomy r.dir x.dir with hlt | heq | hgt
  · exact .inl hlt
  · refine .inr ⟨heq, ?_⟩
    rcases h2 with h2 | h2
    · exact absurd heq h2
    · cases h3 : strLt r.name x.name with
      | true => rfl
      | false => exact absurd ⟨heq, strLt_tri h3 h2⟩ hne
  · exact absurd hgt h1
theorem mem_tw {p : Row → Bool} : ∀ {l : List Row} {a : Row}, a ∈ l.takeWhile p → p a = true ∧ a ∈ l
  | [], _, h => by simp at h
  | b :: l, a, h => by
    cases hb : p b with
    | false => rw [List.takeWhile_cons_of_neg (by simp [hb])] at h; cases h
    | true =>
      rw [List.takeWhile_cons_of_pos hb] at h
      rcases List.mem_cons.1 h with rfl | h
      · exact ⟨hb, List.mem_cons_self ..⟩
      · exact ⟨(mem_tw h).1, List.mem_cons_of_mem _ (mem_tw h).2⟩
theorem refIns_sorted {x : Row} (hs : L.Pairwise ltRow) (hne : ∀ r ∈ L, ¬ (r.dir = x.dir ∧ r.name = x.name)) : (refIns x L).Pairwise ltRow := by
  rw [refIns_eq]
  have hsplit : L.takeWhile (fun r => !aboveB r x.dir x.name) ++ L.dropWhile (fun r => !aboveB r x.dir x.name) = L := List.takeWhile_append_dropWhile
  have hs' := hs
  rw [← hsplit, List.pairwise_append] at hs'
  obtain ⟨hA, hB, hAB⟩ := hs'
  have hlo : ∀ a ∈ L.takeWhile (fun r => !aboveB r x.dir x.name), ltRow a x := fun a ha => by
    have h1 := mem_tw ha
    exact not_above_lt (by simpa using h1.1) (hne a h1.2)
  have hhi : ∀ b ∈ L.dropWhile (fun r => !aboveB r x.dir x.name), ltRow x b := fun b hb => by
    cases hd : L.dropWhile (fun r => !aboveB r x.dir x.name) with
    | nil => rw [hd] at hb; cases hb
    | cons c l =>
      have hc : aboveB c x.dir x.name = true := by
        have := List.head_dropWhile_not (fun r => !aboveB r x.dir x.name) (l := L) (by rw [hd]; simp)
        simp only [hd, List.head_cons] at this
        simpa using this
      rw [hd] at hb hB
      rcases List.mem_cons.1 hb with rfl | hb
      · exact above_lt hc
      · exact ltRow_trans (above_lt hc) ((List.pairwise_cons.1 hB).1 b hb)
  rw [List.pairwise_append]
  refine ⟨hA, List.pairwise_cons.2 ⟨hhi, hB⟩, fun a ha b hb => ?_⟩
  rcases List.mem_cons.1 hb with rfl | hb
  · exact hlo a ha
  · exact hAB a ha b hb
theorem refIns_perm (x : Row) (L : List Row) : (refIns x L).Perm (x :: L) := by
  rw [refIns_eq]
  have hsplit : L.takeWhile (fun r => !aboveB r x.dir x.name) ++ L.dropWhile (fun r => !aboveB r x.dir x.name) = L := List.takeWhile_append_dropWhile
  refine List.perm_middle.trans ?_
  rw [hsplit]
theorem Rel.put (h : Rel R L) (d : Int) (s : ByteArray) (i : Int) : Rel (putRows R d s i) (refPut L d s i) := by
  have he := h.putErr d s i
  unfold putRows refPut
  rw [← he]
  by_cases h0 : Go.Proofs.Ytmamdacmpikdbaa.putErr R d s i = 0
  · rw [if_pos h0, if_pos h0]
    have h1 : ¬ (isInodeB d = false ∨ isInodeB i = false) := fun e => by unfold Go.Proofs.Ytmamdacmpikdbaa.putErr at h0; rw [if_pos e] at h0; cases h0
    have h2 : ¬ goodName s = false := fun e => by unfold Go.Proofs.Ytmamdacmpikdbaa.putErr at h0; rw [if_neg h1, if_pos e] at h0; cases h0
    have h3 : findIno R d s = 0 := by
      unfold Go.Proofs.Ytmamdacmpikdbaa.putErr at h0
      rw [if_neg h1, if_neg h2] at h0
      by_cases e : findIno R d s = 0
      · exact e
      · rw [if_pos e] at h0; cases h0
    have hno : ∀ r ∈ L, ¬ (r.dir = d ∧ r.name = s) := idxOf_none.1 ((h.find_zero d s).1 h3)
    refine ⟨(h.perm.cons _).trans (refIns_perm _ _).symm, ?_, ?_, refIns_sorted h.sorted hno⟩
    · intro r hr
      rcases List.mem_cons.1 hr with rfl | hr
      · refine ⟨?_, ?_, by simpa using h2⟩
        · have : isInodeB d = true := by simpa using fun e => h1 (.inl e)
          simpa [isInodeB] using this
        · have : isInodeB i = true := by simpa using fun e => h1 (.inr e)
          simpa [isInodeB] using this
      · exact h.ok r hr
    · rw [List.map_cons, List.nodup_cons]
      refine ⟨fun hm => ?_, h.nodup⟩
      obtain ⟨r, hr, e⟩ := List.mem_map.1 hm
      simp only [Prod.mk.injEq] at e
      exact hno r (h.perm.mem_iff.1 hr) e
  · rw [if_neg h0, if_neg h0]; exact h
theorem Rel.dropErr (h : Rel R L) (d : Int) (s : ByteArray) : dropErr R d s = refDropErr L d s := by
  unfold Go.Proofs.Ytmamdacmpikdbaa.dropErr refDropErr
  cases hi : idxOf L d s with
  | none => rw [if_pos ((h.find_zero d s).2 hi)]
  | some i => rw [if_neg (fun e => by rw [(h.find_zero d s).1 e] at hi; cases hi)]
theorem Rel.drop (h : Rel R L) (d : Int) (s : ByteArray) : Rel (dropRows R d s) (refDrop L d s) := by
  cases hi : idxOf L d s with
  | none =>
    have e1 : refDrop L d s = L := by unfold refDrop; rw [hi]
    have e2 : dropRows R d s = R := by
      unfold dropRows
      rw [List.filter_eq_self]
      intro r hr
      have := idxOf_none.1 hi r (h.perm.mem_iff.1 hr)
      rw [decide_eq_false this]; rfl
    rw [e1, e2]; exact h
  | some i =>
    obtain ⟨hl, h1, h2⟩ := idxOf_some hi
    have e1 : refDrop L d s = L.eraseIdx i := by unfold refDrop; rw [hi]
    rw [e1]
    have hm := h.perm.mem_iff.2 (List.getElem_mem hl)
    have p1 : R.Perm (L[i] :: dropRows R d s) := by
      have := drop_perm h.nodup hm
      rw [h1, h2] at this; exact this
    have p2 : L.Perm (L[i] :: L.eraseIdx i) := erase_list_perm L i hl
    refine ⟨(p1.symm.trans (h.perm.trans p2)).cons_inv, fun r hr => h.ok r (List.mem_filter.1 hr).1, h.nodup.sublist (List.filter_sublist.map _), h.sorted.sublist (List.eraseIdx_sublist _ _)⟩
theorem Rel.clear (h : Rel R L) (d : Int) : Rel (clearRows R d) (clearRows L d) :=
  ⟨h.perm.filter _, fun r hr => h.ok r (List.mem_filter.1 hr).1, h.nodup.sublist (List.filter_sublist.map _), h.sorted.sublist List.filter_sublist⟩
theorem Rel.list (h : Rel R L) (d : Int) : listPairs R d = pairsIn L d := by
  have hn : listNames R d = (L.filter (fun r => decide (r.dir = d))).map (·.name) := by
    have hp : (listNames R d).Perm ((L.filter (fun r => decide (r.dir = d))).map (·.name)) := (List.mergeSort_perm _ _).trans (namesIn_perm h.perm d)
    refine eq_of_perm_pairwise (le := leS) (fun a b h1 h2 => ?_) hp (sortNames_sorted _) ?_
    · rw [leS_iff] at h1 h2; exact strLt_tri h2 h1
    · rw [List.pairwise_map]
      refine (h.sorted.sublist List.filter_sublist).imp_of_mem fun {a b} ha hb hab => ?_
      have ea : a.dir = d := by simpa using (List.mem_filter.1 ha).2
      have eb : b.dir = d := by simpa using (List.mem_filter.1 hb).2
      rcases hab with hlt | ⟨_, hlt⟩
      · omega
      · exact leS_of_lt hlt
  unfold listPairs pairsOf pairsIn
  rw [hn, List.map_map]
  apply List.map_congr_left
  intro r hr
  have hr' := List.mem_filter.1 hr
  have e : r.dir = d := by simpa using hr'.2
  have := findIno_mem h.nodup (h.perm.mem_iff.2 hr'.1)
  rw [e] at this
  simp only [Function.comp, this]
end
end Go.Proofs.Ytmamdacmpikdbaa
