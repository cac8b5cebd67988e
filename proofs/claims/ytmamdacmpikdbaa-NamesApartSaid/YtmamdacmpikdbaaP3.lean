import Derived.Test.YtmamdacmpikdbaaP2
/-! Plain laws for NamesOrder: the steps with good names, the first of each; put in from the last to the first. -/
namespace Go.Proofs.Ytmamdacmpikdbaa
open Go.RowKit Go.Maps

def rowOf (o : OpD) : Row := ⟨inoOf o.dir, o.name, inoOf o.ino⟩
def uniqStep (L : List OpD) (x : OpD) : List OpD := if seenB L x = false ∧ goodName x.name = true then L ++ [x] else L
def uniqOps (ops : List OpD) : List OpD := ops.foldl uniqStep []
def Apart (a b : OpD) : Prop := ¬ (a.name = b.name ∧ inoOf a.dir = inoOf b.dir)
structure Uniq (L : List OpD) : Prop where
  good : ∀ x ∈ L, goodName x.name = true
  apart : L.Pairwise Apart
theorem seenB_false {L : List OpD} {x : OpD} : seenB L x = false ↔ ∀ a ∈ L, Apart a x := by
  unfold seenB Apart
  rw [List.any_eq_false]
  simp
theorem Uniq.snoc {L : List OpD} {x : OpD} (h : Uniq L) (hg : goodName x.name = true) (hs : seenB L x = false) : Uniq (L ++ [x]) := by
  refine ⟨fun y hy => ?_, ?_⟩
  · rcases List.mem_append.1 hy with hy | hy
    · exact h.good y hy
    · rw [List.mem_singleton.1 hy]; exact hg
  · rw [List.pairwise_append]
    exact ⟨h.apart, by simp, fun a ha b hb => by rw [List.mem_singleton.1 hb]; exact seenB_false.1 hs a ha⟩
theorem uniqStep_uniq {L : List OpD} (h : Uniq L) (x : OpD) : Uniq (uniqStep L x) := by
  unfold uniqStep
  split
  · rename_i e; exact h.snoc e.2 e.1
  · exact h
theorem uniqFold_uniq : ∀ (ops L : List OpD), Uniq L → Uniq (ops.foldl uniqStep L)
  | [], _, h => h
  | x :: ops, _, h => uniqFold_uniq ops _ (uniqStep_uniq h x)
theorem uniqOps_uniq (ops : List OpD) : Uniq (uniqOps ops) := uniqFold_uniq ops [] ⟨by simp, .nil⟩
theorem uniqFold_length : ∀ (ops L : List OpD), (ops.foldl uniqStep L).length ≤ L.length + ops.length
  | [], _ => by simp
  | x :: ops, L => by
    have h := uniqFold_length ops (uniqStep L x)
    have h2 : (uniqStep L x).length ≤ L.length + 1 := by unfold uniqStep; split <;> simp
    simp only [List.foldl_cons, List.length_cons]
    omega
theorem uniqOps_length (ops : List OpD) : (uniqOps ops).length ≤ ops.length := by have := uniqFold_length ops []; simpa [uniqOps] using this
theorem uniqFold_mem {P : OpD → Prop} : ∀ (ops L : List OpD), (∀ x ∈ ops, P x) → (∀ x ∈ L, P x) → ∀ x ∈ ops.foldl uniqStep L, P x
  | [], _, _, h => h
  | y :: ops, L, ho, h => uniqFold_mem ops _ (fun x hx => ho x (List.mem_cons_of_mem _ hx)) fun x hx => by
    unfold uniqStep at hx
    split at hx
    · rcases List.mem_append.1 hx with hx | hx
      · exact h x hx
      · rw [List.mem_singleton.1 hx]; exact ho y (List.mem_cons_self ..)
    · exact h x hx
theorem uniqOps_snoc (l : List OpD) (x : OpD) : uniqOps (l ++ [x]) = uniqStep (uniqOps l) x := by unfold uniqOps; rw [List.foldl_append]; rfl

theorem put_new {l : List OpD} {x : OpD} (hg : goodName x.name = true) (hs : seenB l x = false) : putErr (fillRows l) (inoOf x.dir) x.name (inoOf x.ino) = 0 := by
  rw [putErr_eq, if_neg (by simp [hg]), if_neg]
  intro h
  have := (find_fold_ne hg l []).1 h
  rcases this with h0 | h0
  · exact h0 rfl
  · rw [hs] at h0; cases h0
theorem fill_uniq : ∀ {L : List OpD}, Uniq L → fillRows L.reverse = L.map rowOf
  | [], _ => rfl
  | x :: L, h => by
    have ha := List.pairwise_cons.1 h.apart
    have h' : Uniq L := ⟨fun y hy => h.good y (List.mem_cons_of_mem _ hy), ha.2⟩
    have hs : seenB L.reverse x = false := seenB_false.2 fun a hm e => ha.1 a (List.mem_reverse.1 hm) ⟨e.1.symm, e.2.symm⟩
    rw [List.reverse_cons, fill_step, if_pos ⟨h.good x (List.mem_cons_self ..), hs⟩, fill_uniq h']
    rfl
theorem Uniq.rev {L : List OpD} (h : Uniq L) : Uniq L.reverse :=
  ⟨fun x hx => h.good x (List.mem_reverse.1 hx), List.pairwise_reverse.2 (h.apart.imp fun hn e => hn ⟨e.1.symm, e.2.symm⟩)⟩
theorem fill_uniq' {L : List OpD} (h : Uniq L) : fillRows L = (L.map rowOf).reverse := by
  have := fill_uniq h.rev
  rw [List.reverse_reverse] at this
  rw [this, List.map_reverse]
theorem fill_perm {L : List OpD} (h : Uniq L) : (fillRows L).Perm (fillRows L.reverse) := by
  rw [fill_uniq h, fill_uniq' h]; exact List.reverse_perm _
theorem fill_len {L : List OpD} (h : Uniq L) : (fillRows L).length = L.length := by rw [fill_uniq' h]; simp

theorem findIno_perm {R R' : List Row} (hp : R.Perm R') (hn : (R.map (fun r => (r.dir, r.name))).Nodup) (d : Int) (s : ByteArray) : findIno R d s = findIno R' d s := by
  have hn' : (R'.map (fun r => (r.dir, r.name))).Nodup := (hp.map _).nodup_iff.1 hn
  by_cases h : ∃ r ∈ R, r.dir = d ∧ r.name = s
  · obtain ⟨r, hr, rfl, rfl⟩ := h
    rw [findIno_mem hn hr, findIno_mem hn' (hp.mem_iff.1 hr)]
  · have e1 : R.find? (fun r => decide (r.dir = d ∧ r.name = s)) = none := List.find?_eq_none.2 fun r hr => by simpa using fun e1 e2 => h ⟨r, hr, e1, e2⟩
    have e2 : R'.find? (fun r => decide (r.dir = d ∧ r.name = s)) = none := List.find?_eq_none.2 fun r hr => by simpa using fun e1 e2 => h ⟨r, hp.mem_iff.2 hr, e1, e2⟩
    unfold findIno; rw [e1, e2]
theorem listPairs_perm {R R' : List Row} (hp : R.Perm R') (hn : (R.map (fun r => (r.dir, r.name))).Nodup) (d : Int) : listPairs R d = listPairs R' d := by
  have e : listNames R d = listNames R' d := sortNames_perm (namesIn_perm hp d)
  have f : findIno R d = findIno R' d := funext fun s => findIno_perm hp hn d s
  unfold listPairs; rw [e, f]
theorem cntIno_perm {R R' : List Row} (hp : R.Perm R') (d : Int) : cntIno R d = cntIno R' d := (hp.filter _).length_eq
theorem cntDir_perm {R R' : List Row} (hp : R.Perm R') (d : Int) : cntDir R d = cntDir R' d := (hp.filter _).length_eq
end Go.Proofs.Ytmamdacmpikdbaa
