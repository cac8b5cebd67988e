import Derived.Test.YtmamdacmpikdbaaP4
/-! The plain law of NamesStops: each name is taken out and another one put in. -/
namespace Go.Proofs.Ytmamdacmpikdbaa
open Go.RowKit Go.Maps

theorem find_drop_same (R : List Row) (d : Int) (s : ByteArray) : findIno (dropRows R d s) d s = 0 :=
  findIno_none fun r hr h => by
    unfold dropRows at hr
    have := (List.mem_filter.1 hr).2
    simp [h] at this
theorem find_drop_ne {R : List Row} {d : Int} {s x : ByteArray} (h : x ≠ s) : findIno (dropRows R d s) d x = findIno R d x := by
  unfold findIno dropRows
  rw [List.find?_filter]
  congr 3
  funext r
  by_cases hr : r.dir = d ∧ r.name = x
  · have : ¬ (r.dir = d ∧ r.name = s) := fun e => h (hr.2.symm.trans e.2)
    simp [hr, h]
  · simp [hr]
theorem drop_nodup {R : List Row} (h : (R.map (fun r => (r.dir, r.name))).Nodup) (d : Int) (s : ByteArray) : ((dropRows R d s).map (fun r => (r.dir, r.name))).Nodup :=
  h.sublist (List.filter_sublist.map _)
theorem drop_ok {R : List Row} (h : ∀ r ∈ R, r.Ok) (d : Int) (s : ByteArray) : ∀ r ∈ dropRows R d s, r.Ok := fun r hr => h r (List.mem_filter.1 hr).1
theorem drop_count {R : List Row} (hok : ∀ r ∈ R, r.Ok) (hn : (R.map (fun r => (r.dir, r.name))).Nodup) {d : Int} {s : ByteArray} (h : findIno R d s ≠ 0) :
    cntDir (dropRows R d s) d + 1 = cntDir R d ∧ (dropRows R d s).length + 1 = R.length := by
  obtain ⟨r, hr, rfl, rfl, _⟩ := findIno_ne hok h
  have hp := drop_perm hn hr
  constructor
  · rw [cntDir_perm hp, cntDir_cons]; simp [upd]
  · rw [hp.length_eq]; rfl
theorem putRows_zero {R : List Row} {d : Int} {s : ByteArray} {i : Int} (h : putErr R d s i = 0) : putRows R d s i = ⟨d, s, i⟩ :: R ∧ findIno R d s = 0 := by
  refine ⟨by unfold putRows; rw [if_pos h], ?_⟩
  unfold putErr at h
  split at h
  · cases h
  · split at h
    · cases h
    · split at h
      · cases h
      · rename_i h3; simpa using h3
theorem putRows_err {R : List Row} {d : Int} {s : ByteArray} {i : Int} (h : putErr R d s i ≠ 0) : putRows R d s i = R := by unfold putRows; rw [if_neg h]

structure StopInv (d : Int) (N : Nat) (R : List Row) (made Q : List (ByteArray × Int)) : Prop where
  len : R.length ≤ N
  here : ∀ p ∈ Q, findIno R d p.1 = p.2 ∧ 1 ≤ p.2
  nod : (Q.map (·.1)).Nodup
  got : ∀ m ∈ made, findIno R d m.1 = m.2 ∧ 1 ≤ m.2
  apart : ∀ m ∈ made, ∀ p ∈ Q, m.1 ≠ p.1
  cnt : cntDir R d = made.length + Q.length
theorem stop_start {R : List Row} (hok : ∀ r ∈ R, r.Ok) (hn : (R.map (fun r => (r.dir, r.name))).Nodup) (d : Int) : StopInv d R.length R [] (listPairs R d) :=
  ⟨Nat.le_refl _, fun p hp => by
    obtain ⟨i, hi, rfl⟩ := List.mem_iff_getElem.1 hp
    exact ⟨listPairs_find d i hi, (listPairs_bd hok hn d i hi).1⟩, pairs_nodup hn d, by simp, by simp, by rw [listPairs_length]; simp⟩
theorem StopInv.step {d : Int} {N : Nat} {R : List Row} {made Q : List (ByteArray × Int)} {x : ByteArray × Int} (h : StopInv d N R made (x :: Q)) (hok : ∀ r ∈ R, r.Ok) (hn : (R.map (fun r => (r.dir, r.name))).Nodup) (t : ByteArray) :
    (findIno R d x.1 = x.2 ∧ dropErr R d x.1 = 0 ∧ (dropRows R d x.1).length ≤ N ∧ findIno (dropRows R d x.1) d x.1 = 0) ∧
      StopInv d N (putRows (dropRows R d x.1) d t x.2) (if putErr (dropRows R d x.1) d t x.2 = 0 then made ++ [(t, x.2)] else made) Q := by
  have hx := h.here x (by simp)
  have hne : findIno R d x.1 ≠ 0 := by have := hx.2; omega
  have hdc := drop_count hok hn hne
  have hq : ∀ p ∈ Q, p.1 ≠ x.1 := fun p hp e => by
    have := h.nod
    simp only [List.map_cons, List.nodup_cons] at this
    exact this.1 (e ▸ List.mem_map_of_mem hp)
  have hnod : (Q.map (·.1)).Nodup := by have := h.nod; simp only [List.map_cons, List.nodup_cons] at this; exact this.2
  have hlen := h.len
  have hcnt := h.cnt
  simp only [List.length_cons] at hcnt
  refine ⟨⟨hx.1, by unfold dropErr; rw [if_neg hne], by omega, find_drop_same R d x.1⟩, ?_⟩
  have hhere : ∀ p ∈ Q, findIno (dropRows R d x.1) d p.1 = p.2 ∧ 1 ≤ p.2 := fun p hp => by rw [find_drop_ne (hq p hp)]; exact h.here p (by simp [hp])
  have hmade : ∀ m ∈ made, findIno (dropRows R d x.1) d m.1 = m.2 ∧ 1 ≤ m.2 := fun m hm => by rw [find_drop_ne (h.apart m hm x (by simp))]; exact h.got m hm
  by_cases hz : putErr (dropRows R d x.1) d t x.2 = 0
  · obtain ⟨e, hf⟩ := putRows_zero hz
    rw [e, if_pos hz]
    have ht : ∀ p : ByteArray × Int, findIno (dropRows R d x.1) d p.1 = p.2 ∧ 1 ≤ p.2 → p.1 ≠ t := fun p hp e => by rw [e, hf] at hp; omega
    refine ⟨by simp only [List.length_cons]; omega, fun p hp => ?_, hnod, fun m hm => ?_, fun m hm p hp => ?_, ?_⟩
    · rw [findIno_cons_ne (ht p (hhere p hp))]; exact hhere p hp
    · rcases List.mem_append.1 hm with hm | hm
      · rw [findIno_cons_ne (ht m (hmade m hm))]; exact hmade m hm
      · obtain rfl : m = (t, x.2) := by simpa using hm
        exact ⟨findIno_cons_same _ _ _ _, hx.2⟩
    · rcases List.mem_append.1 hm with hm | hm
      · exact h.apart m hm p (by simp [hp])
      · obtain rfl : m = (t, x.2) := by simpa using hm
        exact (ht p (hhere p hp)).symm
    · rw [cntDir_cons]; simp [upd]; omega
  · rw [putRows_err hz, if_neg hz]
    exact ⟨by omega, hhere, hnod, hmade, fun m hm p hp => h.apart m hm p (by simp [hp]), by omega⟩
end Go.Proofs.Ytmamdacmpikdbaa
