import Derived.Test.YtmamdacmpikdbaaP3
import Derived.Test.YtmamdacmpikdbaaC2
/-! Plain laws for NamesClears. -/
namespace Go.Proofs.Ytmamdacmpikdbaa
open Go.RowKit Go.Maps

def rowIn (d : Int) (p : ByteArray × Int) : Row := ⟨d, p.1, p.2⟩
theorem pairs_perm {R : List Row} (hn : (R.map (fun r => (r.dir, r.name))).Nodup) (d : Int) : ((listPairs R d).map (rowIn d)).Perm (R.filter (fun r => decide (r.dir = d))) := by
  have h1 : (listPairs R d).map (rowIn d) = (listNames R d).map (fun s => (⟨d, s, findIno R d s⟩ : Row)) := by
    unfold listPairs pairsOf; rw [List.map_map]; rfl
  rw [h1]
  have h2 : (listNames R d).Perm (namesIn R d) := List.mergeSort_perm _ _
  refine (h2.map _).trans ?_
  have h3 : (namesIn R d).map (fun s => (⟨d, s, findIno R d s⟩ : Row)) = R.filter (fun r => decide (r.dir = d)) := by
    unfold namesIn
    rw [List.map_map]
    refine (List.map_congr_left ?_).trans (List.map_id _)
    intro r hr
    have hr' := List.mem_filter.1 hr
    have e : r.dir = d := by simpa using hr'.2
    have hf := findIno_mem hn hr'.1
    rw [e] at hf
    simp only [Function.comp, id, hf]
    cases r; simp_all
  rw [h3]
theorem cntIno_split {R : List Row} (d k : Int) : cntIno R k = cntIno (clearRows R d) k + ((R.filter (fun r => decide (r.dir = d))).filter (fun r => decide (r.ino = k))).length := by
  unfold cntIno clearRows
  induction R with
  | nil => rfl
  | cons r R ih =>
    by_cases h1 : r.dir = d <;> by_cases h2 : r.ino = k <;> simp [h1, h2] at ih ⊢ <;> omega
def outs (l : List (ByteArray × Int)) (k : Int) : Nat := (l.filter (fun p => decide (p.2 = k))).length
theorem outs_eq {R : List Row} (hn : (R.map (fun r => (r.dir, r.name))).Nodup) (d k : Int) : cntIno R k = cntIno (clearRows R d) k + outs (listPairs R d) k := by
  rw [cntIno_split d k]
  congr 1
  have h := ((pairs_perm hn d).filter (fun r => decide (r.ino = k))).length_eq
  rw [← h, List.filter_map, List.length_map]
  rfl
theorem outs_snoc (l : List (ByteArray × Int)) (p : ByteArray × Int) (k : Int) : outs (l ++ [p]) k = outs l k + if p.2 = k then 1 else 0 := by
  unfold outs
  rw [List.filter_append, List.length_append]
  by_cases h : p.2 = k <;> simp [h]
theorem outs_le (l : List (ByteArray × Int)) (k : Int) : outs l k ≤ l.length := List.length_filter_le _ _

theorem cntDir_clear (R : List Row) (d : Int) : cntDir (clearRows R d) d = 0 := by
  unfold cntDir clearRows
  rw [List.filter_filter, List.length_eq_zero_iff, List.filter_eq_nil_iff]
  intro r _ e
  simp at e
theorem clear_clear (R : List Row) (d : Int) : clearRows (clearRows R d) d = clearRows R d := by
  unfold clearRows; rw [List.filter_filter]; congr 1; funext r; simp
theorem listPairs_clear_self (R : List Row) (d : Int) : listPairs (clearRows R d) d = [] := by
  rw [← List.length_eq_zero_iff, listPairs_length, cntDir_clear]
theorem namesIn_clear_ne (R : List Row) {d k : Int} (h : k ≠ d) : namesIn (clearRows R d) k = namesIn R k := by
  unfold namesIn clearRows
  rw [List.filter_filter]
  congr 1
  apply List.filter_congr
  intro r _
  by_cases e : r.dir = k
  · have : r.dir ≠ d := by rw [e]; exact h
    simp [e, h]
  · simp [e]
theorem findIno_clear_ne (R : List Row) {d k : Int} (h : k ≠ d) (s : ByteArray) : findIno (clearRows R d) k s = findIno R k s := by
  unfold findIno clearRows
  congr 2
  induction R with
  | nil => rfl
  | cons r R ih =>
    by_cases e : r.dir = d
    · rw [List.filter_cons_of_neg (by simp [e]), ih, List.find?_cons_of_neg (by simp [e, Ne.symm h])]
    · rw [List.filter_cons_of_pos (by simp [e])]
      by_cases e2 : r.dir = k ∧ r.name = s
      · rw [List.find?_cons_of_pos (by simp [e2]), List.find?_cons_of_pos (by simp [e2])]
      · rw [List.find?_cons_of_neg (by simpa using e2), List.find?_cons_of_neg (by simpa using e2), ih]
theorem listPairs_clear_ne (R : List Row) {d k : Int} (h : k ≠ d) : listPairs (clearRows R d) k = listPairs R k := by
  have e : listNames (clearRows R d) k = listNames R k := by unfold listNames; rw [namesIn_clear_ne R h]
  have f : findIno (clearRows R d) k = findIno R k := funext fun s => findIno_clear_ne R h s
  unfold listPairs; rw [e, f]
theorem findIno_none {R : List Row} {d : Int} {s : ByteArray} (h : ∀ r ∈ R, ¬ (r.dir = d ∧ r.name = s)) : findIno R d s = 0 := by
  unfold findIno
  rw [List.find?_eq_none.2 fun r hr => by simpa using h r hr]; rfl

/-- the names of a directory put in again -/
def backRows (d : Int) (l : List (ByteArray × Int)) (R : List Row) : List Row := (l.map (rowIn d)).reverse ++ R
theorem backRows_snoc (d : Int) (l : List (ByteArray × Int)) (p : ByteArray × Int) (R : List Row) : backRows d (l ++ [p]) R = rowIn d p :: backRows d l R := by
  unfold backRows; simp
theorem back_perm {R : List Row} (hn : (R.map (fun r => (r.dir, r.name))).Nodup) (d : Int) : (backRows d (listPairs R d) (clearRows R d)).Perm R := by
  unfold backRows
  refine ((List.reverse_perm _).append_right _).trans (((pairs_perm hn d).append_right _).trans ?_)
  unfold clearRows
  exact List.filter_append_perm (fun r => decide (r.dir = d)) R
theorem pairs_nodup {R : List Row} (hn : (R.map (fun r => (r.dir, r.name))).Nodup) (d : Int) : ((listPairs R d).map (·.1)).Nodup := by
  have : (listPairs R d).map (·.1) = listNames R d := by unfold listPairs pairsOf; rw [List.map_map]; exact (List.map_congr_left fun _ _ => rfl).trans (List.map_id _)
  rw [this]; exact listNames_nodup hn d
theorem back_find {R : List Row} (hn : (R.map (fun r => (r.dir, r.name))).Nodup) (d : Int) (i : Nat) (hi : i < (listPairs R d).length) :
    findIno (backRows d ((listPairs R d).take i) (clearRows R d)) d (listPairs R d)[i].1 = 0 := by
  refine findIno_none fun r hr e => ?_
  unfold backRows at hr
  rcases List.mem_append.1 hr with hr | hr
  · rw [List.mem_reverse] at hr
    obtain ⟨p, hp, rfl⟩ := List.mem_map.1 hr
    have hnd := pairs_nodup hn d
    have hs : (((listPairs R d).take (i + 1)).map (·.1)).Nodup := hnd.sublist ((List.take_sublist _ _).map _)
    rw [List.take_succ_eq_append_getElem hi, List.map_append, List.nodup_append] at hs
    exact hs.2.2 p.1 (List.mem_map_of_mem hp) _ (by simp) e.2
  · have := (List.mem_filter.1 hr).2
    simp at this
    exact this e.1
theorem mem_pairs_good {R : List Row} (h : ∀ r ∈ R, r.Ok) (hn : (R.map (fun r => (r.dir, r.name))).Nodup) (d : Int) (i : Nat) (hi : i < (listPairs R d).length) :
    goodName (listPairs R d)[i].1 = true ∧ 1 ≤ (listPairs R d)[i].2 ∧ (listPairs R d)[i].2 ≤ 256 := by
  have hm : rowIn d (listPairs R d)[i] ∈ R.filter (fun r => decide (r.dir = d)) := (pairs_perm hn d).mem_iff.1 (List.mem_map_of_mem (List.getElem_mem hi))
  have := h _ (List.mem_filter.1 hm).1
  exact ⟨this.2.2, this.2.1.1, this.2.1.2⟩
theorem back_put {R : List Row} (h : ∀ r ∈ R, r.Ok) (hn : (R.map (fun r => (r.dir, r.name))).Nodup) {d : Int} (hd : 1 ≤ d ∧ d ≤ 256) (i : Nat) (hi : i < (listPairs R d).length) :
    putErr (backRows d ((listPairs R d).take i) (clearRows R d)) d (listPairs R d)[i].1 (listPairs R d)[i].2 = 0 ∧
    putRows (backRows d ((listPairs R d).take i) (clearRows R d)) d (listPairs R d)[i].1 (listPairs R d)[i].2 = backRows d ((listPairs R d).take (i + 1)) (clearRows R d) := by
  obtain ⟨h1, h2, h3⟩ := mem_pairs_good h hn d i hi
  have he : putErr (backRows d ((listPairs R d).take i) (clearRows R d)) d (listPairs R d)[i].1 (listPairs R d)[i].2 = 0 := by
    unfold putErr
    rw [if_neg (by simp [isInodeB, hd, h2, h3]), if_neg (by simp [h1]), if_neg (by rw [back_find hn d i hi]; simp)]
  refine ⟨he, ?_⟩
  unfold putRows
  rw [if_pos he, List.take_succ_eq_append_getElem hi, backRows_snoc]; rfl
theorem clear_length (R : List Row) (d : Int) : (clearRows R d).length ≤ R.length := List.length_filter_le _ _
theorem back_length (d : Int) (l : List (ByteArray × Int)) (R : List Row) : (backRows d l R).length = l.length + R.length := by unfold backRows; simp
end Go.Proofs.Ytmamdacmpikdbaa
