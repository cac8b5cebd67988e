import Derived.Test.YtmamdacmpikdbaaP1
/-! Plain laws for NamesRise and NamesOrder: sums over all numbers, rising lists, which steps put in. -/
namespace Go.Proofs.Ytmamdacmpikdbaa
open Go.RowKit Go.Maps

def sumN (f : Int → Nat) : Nat → Nat
  | 0 => 0
  | n + 1 => sumN f n + f (n + 1 : Nat)
theorem sumN_ind (k : Int) : ∀ n : Nat, sumN (fun d => if k = d then 1 else 0) n = if 1 ≤ k ∧ k ≤ n then 1 else 0
  | 0 => by rw [if_neg (by omega)]; rfl
  | n + 1 => by
    unfold sumN
    rw [sumN_ind k n]
    split <;> split <;> split <;> omega
theorem sumN_add (f g : Int → Nat) : ∀ n : Nat, sumN (fun d => f d + g d) n = sumN f n + sumN g n
  | 0 => rfl
  | n + 1 => by unfold sumN; rw [sumN_add f g n]; omega
theorem sumN_zero : ∀ n : Nat, sumN (fun _ => 0) n = 0
  | 0 => rfl
  | n + 1 => by unfold sumN; rw [sumN_zero n]
theorem sumN_key (key : Row → Int) : ∀ R : List Row, (∀ r ∈ R, 1 ≤ key r ∧ key r ≤ 256) → sumN (fun d => (R.filter (fun r => decide (key r = d))).length) 256 = R.length := by
  intro R
  induction R with
  | nil => intro _; simpa using sumN_zero 256
  | cons r R ih =>
    intro h
    have h1 := ih fun x hx => h x (List.mem_cons_of_mem _ hx)
    have h2 := h r (List.mem_cons_self ..)
    have : (fun d : Int => ((r :: R).filter (fun r => decide (key r = d))).length) = fun d => (if key r = d then 1 else 0) + (R.filter (fun r => decide (key r = d))).length := by
      funext d
      rw [List.filter_cons]
      by_cases e : key r = d
      · rw [if_pos (by simpa using e), if_pos e, List.length_cons]; omega
      · rw [if_neg (by simpa using e), if_neg e]; omega
    rw [this, sumN_add, sumN_ind, if_pos (by simpa using h2), h1, List.length_cons]
    omega
theorem sumN_dir {R : List Row} (h : ∀ r ∈ R, r.Ok) : sumN (cntDir R) 256 = R.length := sumN_key (·.dir) R fun r hr => (h r hr).1
theorem sumN_ino {R : List Row} (h : ∀ r ∈ R, r.Ok) : sumN (cntIno R) 256 = R.length := sumN_key (·.ino) R fun r hr => (h r hr).2.1
theorem sumN_le (f : Int → Nat) : ∀ {n m : Nat}, n ≤ m → sumN f n ≤ sumN f m := by
  intro n m h
  induction m with
  | zero => rw [Nat.le_zero.1 h]; exact Nat.le_refl _
  | succ m ih =>
    by_cases e : n = m + 1
    · rw [e]; exact Nat.le_refl _
    · have := ih (by omega)
      have h2 : sumN f (m + 1) = sumN f m + f (m + 1 : Nat) := rfl
      omega

theorem cntDir_out {R : List Row} (h : ∀ r ∈ R, r.Ok) {d : Int} (hd : d < 1 ∨ 256 < d) : cntDir R d = 0 := by
  unfold cntDir
  rw [List.length_eq_zero_iff, List.filter_eq_nil_iff]
  intro r hr e
  have := (h r hr).1
  have e : r.dir = d := by simpa using e
  omega
theorem cntIno_out {R : List Row} (h : ∀ r ∈ R, r.Ok) {d : Int} (hd : d < 1 ∨ 256 < d) : cntIno R d = 0 := by
  unfold cntIno
  rw [List.length_eq_zero_iff, List.filter_eq_nil_iff]
  intro r hr e
  have := (h r hr).2.1
  have e : r.ino = d := by simpa using e
  omega

/-- the names of a directory are unlike -/
theorem namesIn_nodup {R : List Row} (h : (R.map (fun r => (r.dir, r.name))).Nodup) (d : Int) : (namesIn R d).Nodup := by
  unfold namesIn
  induction R with
  | nil => simp
  | cons r R ih =>
    simp only [List.map_cons, List.nodup_cons] at h
    rw [List.filter_cons]
    split
    · rename_i e
      have e : r.dir = d := by simpa using e
      rw [List.map_cons, List.nodup_cons]
      refine ⟨fun hm => ?_, ih h.2⟩
      obtain ⟨x, hx, h1, h2⟩ := mem_namesIn.1 (show r.name ∈ namesIn R d from hm)
      exact h.1 (List.mem_map.2 ⟨x, hx, by rw [h1, h2, e]⟩)
    · exact ih h.2
theorem listNames_nodup {R : List Row} (h : (R.map (fun r => (r.dir, r.name))).Nodup) (d : Int) : (listNames R d).Nodup :=
  (List.mergeSort_perm _ _).nodup_iff.2 (namesIn_nodup h d)
theorem listPairs_rise {R : List Row} (h : (R.map (fun r => (r.dir, r.name))).Nodup) (d : Int) (i : Nat) (hi : i + 1 < (listPairs R d).length) :
    strLt (listPairs R d)[i].1 (listPairs R d)[i + 1].1 = true := by
  have hs : (listNames R d).Pairwise leS := sortNames_sorted _
  have hn := listNames_nodup h d
  have hl : i + 1 < (listNames R d).length := by rw [listPairs, pairsOf_length] at hi; exact hi
  have e1 : (listPairs R d)[i].1 = (listNames R d)[i] := by simp [listPairs, pairsOf]
  have e2 : (listPairs R d)[i + 1].1 = (listNames R d)[i + 1] := by simp [listPairs, pairsOf]
  rw [e1, e2]
  refine lt_of_leS_ne (List.pairwise_iff_getElem.1 hs i (i + 1) _ hl (by omega)) ?_
  exact List.pairwise_iff_getElem.1 hn i (i + 1) _ hl (by omega)
theorem listPairs_find {R : List Row} (d : Int) (i : Nat) (hi : i < (listPairs R d).length) : findIno R d (listPairs R d)[i].1 = (listPairs R d)[i].2 := by
  simp [listPairs, pairsOf]
theorem listPairs_bd {R : List Row} (h : ∀ r ∈ R, r.Ok) (hn : (R.map (fun r => (r.dir, r.name))).Nodup) (d : Int) (i : Nat) (hi : i < (listPairs R d).length) : 1 ≤ (listPairs R d)[i].2 ∧ (listPairs R d)[i].2 ≤ 256 := by
  rw [← listPairs_find d i hi]
  have hm : (listPairs R d)[i].1 ∈ listNames R d := by
    have hl : i < (listNames R d).length := by rw [listPairs, pairsOf_length] at hi; exact hi
    have e1 : (listPairs R d)[i].1 = (listNames R d)[i] := by simp [listPairs, pairsOf]
    rw [e1]; exact List.getElem_mem hl
  obtain ⟨r, hr, h1, h2⟩ := mem_listNames.1 hm
  rw [← h2, ← h1, findIno_mem hn hr]
  exact (h r hr).2.1

theorem inoOf_isInode (n : Int) : isInodeB (inoOf n) = true := by have := inoOf_bd n; simp [isInodeB, this]
theorem putErr_eq (R : List Row) (o : OpD) : putErr R (inoOf o.dir) o.name (inoOf o.ino) = if goodName o.name = false then 80 else if findIno R (inoOf o.dir) o.name ≠ 0 then 81 else 0 := by
  unfold putErr
  rw [if_neg (by simp [inoOf_isInode])]
theorem putOp_eq (R : List Row) (o : OpD) : putOp R o = if goodName o.name = true ∧ findIno R (inoOf o.dir) o.name = 0 then ⟨inoOf o.dir, o.name, inoOf o.ino⟩ :: R else R := by
  have h := putErr_eq R o
  unfold putOp putRows
  rw [h]
  cases hg : goodName o.name
  · simp
  · by_cases h : findIno R (inoOf o.dir) o.name = 0
    · simp [h]
    · simp [h]
theorem findIno_cons (R : List Row) (x : Row) (d : Int) (s : ByteArray) : findIno (x :: R) d s = if x.dir = d ∧ x.name = s then x.ino else findIno R d s := by
  unfold findIno
  by_cases h : x.dir = d ∧ x.name = s
  · rw [List.find?_cons_of_pos (by simpa using h), if_pos h]; rfl
  · rw [List.find?_cons_of_neg (by simpa using h), if_neg h]
theorem find_putOp {R : List Row} {o : OpD} {d : Int} {s : ByteArray} (hs : goodName s = true) :
    findIno (putOp R o) d s = if findIno R d s = 0 ∧ inoOf o.dir = d ∧ o.name = s then inoOf o.ino else findIno R d s := by
  rw [putOp_eq]
  by_cases h : inoOf o.dir = d ∧ o.name = s
  · obtain ⟨rfl, rfl⟩ := h
    by_cases h0 : findIno R (inoOf o.dir) o.name = 0
    · simp [hs, h0, findIno_cons]
    · simp [hs, h0]
  · have h2 : ¬ (findIno R d s = 0 ∧ inoOf o.dir = d ∧ o.name = s) := fun e => h e.2
    rw [if_neg h2]
    by_cases h3 : goodName o.name = true ∧ findIno R (inoOf o.dir) o.name = 0
    · rw [if_pos h3, findIno_cons, if_neg h]
    · rw [if_neg h3]
/-- a step before it has put the name in -/
def seenB (l : List OpD) (x : OpD) : Bool := l.any fun o => decide (o.name = x.name ∧ inoOf o.dir = inoOf x.dir)
theorem seenB_snoc (l : List OpD) (o x : OpD) : seenB (l ++ [o]) x = (seenB l x || decide (o.name = x.name ∧ inoOf o.dir = inoOf x.dir)) := by
  unfold seenB; rw [List.any_append]; simp
theorem find_fold_ne {x : OpD} (hs : goodName x.name = true) : ∀ (l : List OpD) (R : List Row), findIno (l.foldl putOp R) (inoOf x.dir) x.name ≠ 0 ↔ (findIno R (inoOf x.dir) x.name ≠ 0 ∨ seenB l x = true) := by
  intro l
  induction l with
  | nil => intro R; simp [seenB]
  | cons o l ih =>
    intro R
    rw [List.foldl_cons, ih, find_putOp hs]
    have hb : seenB (o :: l) x = (decide (o.name = x.name ∧ inoOf o.dir = inoOf x.dir) || seenB l x) := by unfold seenB; rw [List.any_cons]
    rw [hb]
    have hi := inoOf_bd o.ino
    by_cases h : inoOf o.dir = inoOf x.dir ∧ o.name = x.name
    · by_cases h0 : findIno R (inoOf x.dir) x.name = 0
      · rw [if_pos ⟨h0, h⟩]
        simp only [h0, h.1, h.2, and_self, decide_true, Bool.true_or, or_true, iff_true]
        left; omega
      · rw [if_neg (fun e => h0 e.1)]; simp [h0]
    · rw [if_neg (fun e => h e.2), decide_eq_false (fun e => h ⟨e.2, e.1⟩)]
      simp
theorem find_fold_keep {d : Int} {s : ByteArray} (hs : goodName s = true) : ∀ (l : List OpD) (R : List Row), findIno R d s ≠ 0 → findIno (l.foldl putOp R) d s = findIno R d s := by
  intro l
  induction l with
  | nil => intro R _; rfl
  | cons o l ih =>
    intro R h
    have : findIno (putOp R o) d s = findIno R d s := by rw [find_putOp hs, if_neg (fun e => h e.1)]
    rw [List.foldl_cons, ih _ (by rw [this]; exact h), this]
theorem fillRows_snoc (l : List OpD) (x : OpD) : fillRows (l ++ [x]) = putOp (fillRows l) x := by unfold fillRows; rw [List.foldl_append]; rfl
/-- a step's name that is good and new is one row more; else none -/
theorem fill_step (l : List OpD) (x : OpD) : fillRows (l ++ [x]) = if goodName x.name = true ∧ seenB l x = false then ⟨inoOf x.dir, x.name, inoOf x.ino⟩ :: fillRows l else fillRows l := by
  rw [fillRows_snoc, putOp_eq]
  by_cases hg : goodName x.name = true
  · have h := find_fold_ne hg l []
    have h0 : findIno [] (inoOf x.dir) x.name = 0 := rfl
    simp only [h0, ne_eq, not_true_eq_false, false_or] at h
    by_cases hb : seenB l x = true
    · rw [if_neg (fun e => h.2 hb e.2), if_neg (by simp [hb])]
    · have hb' : seenB l x = false := by simpa using hb
      rw [if_pos ⟨hg, Classical.not_not.1 fun e => hb (h.1 e)⟩, if_pos ⟨hg, hb'⟩]
  · rw [if_neg (fun e => hg e.1), if_neg (fun e => hg e.1)]
/-- what the first good step of a name has put in stays -/
theorem fill_find (l r : List OpD) (x : OpD) (hg : goodName x.name = true) (hb : seenB l x = false) : findIno (fillRows (l ++ x :: r)) (inoOf x.dir) x.name = inoOf x.ino := by
  have e : l ++ x :: r = (l ++ [x]) ++ r := by simp
  have hi := inoOf_bd x.ino
  have h1 : findIno (fillRows (l ++ [x])) (inoOf x.dir) x.name = inoOf x.ino := by
    rw [fill_step, if_pos ⟨hg, hb⟩, findIno_cons_same]
  have h2 : fillRows (l ++ x :: r) = r.foldl putOp (fillRows (l ++ [x])) := by rw [e]; unfold fillRows; rw [List.foldl_append]
  rw [h2, find_fold_keep hg r _ (by rw [h1]; omega), h1]
end Go.Proofs.Ytmamdacmpikdbaa
