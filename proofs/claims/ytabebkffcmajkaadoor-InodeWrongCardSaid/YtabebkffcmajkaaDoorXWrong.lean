/-
  InodeWrong: for every truth value, list of seeds and number the law returns true, and its arguments read as they did. (The table of the sums is laid by the program's text.)
-/
import Derived.Test.YtabebkffcmajkaaDoorCards
import Derived.Test.YtabebkffcmajkaaDoorTie
import Derived.WalkKit
import Derived.ProofKit
import Derived.OpenShut
import Derived.ShutString
import Derived.Deep.DeepHandedRow
import Derived.Lib.LaidTab
import Derived.Test.YtabebkffcmajkaaDoorG11
import Derived.Test.YtabebkffcmajkaaDoorG10
import Derived.Test.YtabebkffcmajkaaDoorG6
import Derived.Test.YtabebkffcmajkaaDoorG5
set_option linter.unusedVariables false
set_option linter.unusedSimpArgs false
/-! Plain law: the logs of either kind, their beginnings. -/
namespace Go.Proofs.YtabebkffcmajkaaDoor
open Go.RowKit Go.Maps Go.Shelf

def logOf (dir : Bool) (l : List SeedD) : List EntD := match dir with | true => namedL l | false => writtenL l
def kindOf (dir : Bool) : Int := match dir with | true => 2 | false => 1
theorem kindOf_two (dir : Bool) : kindOf dir = 1 ∨ kindOf dir = 2 := by cases dir <;> simp [kindOf]
theorem logOf_length (dir : Bool) (l : List SeedD) : (logOf dir l).length ≤ 60 := by
  cases dir
  · show (writtenL l).length ≤ 60; rw [writtenL_length]; omega
  · show (namedL l).length ≤ 60; rw [namedL_length]; omega
theorem log_play (dir : Bool) (l : List SeedD) : ∃ D, playD (zeroD (kindOf dir)) (logOf dir l) = (0, D) := by
  cases dir
  · obtain ⟨f, h, _⟩ := written_replay l; exact ⟨_, h⟩
  · obtain ⟨R, nm, h⟩ := named_replay l; exact ⟨_, h.play⟩
theorem play_take {L : List EntD} {D0 D : SenseD} (h : playD D0 L = (0, D)) (k : Nat) : ∃ Dk, playD D0 (L.take k) = (0, Dk) := by
  have hs := playD_stop (L.take k) (L.drop k) D0
  rw [List.take_append_drop, h] at hs
  by_cases h0 : (playD D0 (L.take k)).1 = 0
  · exact ⟨(playD D0 (L.take k)).2, by rw [← h0]⟩
  · exact absurd (hs h0).symm h0
theorem play_at {L : List EntD} {D0 D Dk : SenseD} (h : playD D0 L = (0, D)) {k : Nat} (hk : playD D0 (L.take k) = (0, Dk)) (hl : k < L.length) : stepErr Dk L[k] = 0 ∧ playD D0 (L.take (k + 1)) = (0, onD L[k] Dk) := by
  obtain ⟨D2, h2⟩ := play_take h (k + 1)
  have hs := playD_snoc (L.take k) D0 Dk L[k] hk
  rw [← List.take_succ_eq_append_getElem hl] at hs
  rw [hs] at h2
  by_cases h0 : stepErr Dk L[k] = 0
  · rw [if_pos h0] at hs
    exact ⟨h0, hs⟩
  · rw [if_neg h0, Prod.mk.injEq] at h2
    exact absurd h2.1 h0
theorem play_len : ∀ (L : List EntD) (D0 D : SenseD), playD D0 L = (0, D) → lenD D ≤ lenD D0 + L.length
  | [], D0, D, h => by
    have : D0 = D := by injection h
    subst this
    exact Nat.le_add_right _ _
  | e :: L, D0, D, h => by
    have e1 : playD D0 (e :: L) = if stepErr D0 e = 0 then playD (onD e D0) L else (stepErr D0 e, D0) := rfl
    rw [e1] at h
    by_cases h0 : stepErr D0 e = 0
    · rw [if_pos h0] at h
      have := play_len L _ _ h
      have := lenD_on e D0
      simp only [List.length_cons]; omega
    · rw [if_neg h0, Prod.mk.injEq] at h
      exact absurd h.1 h0
/-- a sense that a log of the laws gives -/
structure LogD (D : SenseD) : Prop where
  wf : WfD D
  fit : FitD D
  len : lenD D ≤ 100
theorem lenD_zero (k : Int) : lenD (zeroD k) = 0 := by
  unfold zeroD
  split <;> rfl
theorem log_ok {k : Int} {L : List EntD} {D : SenseD} (hk : k = 1 ∨ k = 2) (hl : L.length ≤ 60) (h : playD (zeroD k) L = (0, D)) : replayErr k L = 0 ∧ replayN k L = nodeOf D L.length ∧ LogD D := by
  obtain ⟨h1, h2, h3, h4⟩ := replay_ok hk h
  have h5 := play_len L _ _ h
  rw [lenD_zero] at h5
  exact ⟨h1, h2, h3, h4, by omega⟩
theorem LogD.small {D : SenseD} (h : LogD D) (j : Nat) : smallB (nodeOf D j) = true := node_small (by have := h.len; omega)
theorem LogD.apply {D : SenseD} (h : LogD D) {e : EntD} (q : Int) (he : stepErr D e = 0) {j : Nat} (hj : j ≤ 1000000) : applyErr (nodeOf D j) { e with seq := q } = 0 ∧ applyN (nodeOf D j) { e with seq := q } = nodeOf (onD e D) (j + 1) := by
  have he' : stepErr D { e with seq := q } = 0 := by rw [stepErr_seq]; exact he
  refine ⟨by rw [applyErr_node h.wf h.fit, he'], ?_⟩
  rw [applyN_node h.wf h.fit he' hj, onD_seq]
end Go.Proofs.YtabebkffcmajkaaDoor

/-! What is alike in the laws over logs of either kind. -/
namespace Go.Proofs.YtabebkffcmajkaaDoor
open Go.RowKit Go.Maps Go.Shelf

theorem LogD.in_ {D : SenseD} (h : LogD D) {j : Nat} {b : Nat} {w : World} {vm vn vl : Value} (ho : NodeOwn b w (nodeOf D j) vm vn vl) : NodeIn w (nodeOf D j) vm vn vl := node_in h.wf ho
end Go.Proofs.YtabebkffcmajkaaDoor

/-! Plain law: the canonical entries mean the same. -/
namespace Go.Proofs.YtabebkffcmajkaaDoor
open Go.RowKit Go.Maps Go.Shelf

/-! ### pieces -/
theorem runItems_split {o p a b : Int} (ha : 0 ≤ a) (hb : 0 ≤ b) : runItems ⟨o, p, a + b⟩ = runItems ⟨o, p, a⟩ ++ runItems ⟨o + a, p + a, b⟩ := by
  unfold runItems
  show (List.range (a + b).toNat).map _ = (List.range a.toNat).map _ ++ (List.range b.toNat).map _
  rw [show (a + b).toNat = a.toNat + b.toNat by omega, List.range_add, List.map_append, List.map_map]
  congr 1
  refine List.map_congr_left fun i _ => ?_
  show ((o + ((a.toNat + i : Nat) : Int), p + ((a.toNat + i : Nat) : Int)) : Int × Int) = (o + a + (i : Int), p + a + (i : Int))
  rw [Prod.mk.injEq]; omega
structure PieceIn (r p : RunD) : Prop where
  count : 1 ≤ p.count ∧ p.count ≤ 16
  off : r.off ≤ p.off ∧ p.off + p.count ≤ r.off + r.count
  page : p.page - p.off = r.page - r.off
theorem pieces_each : ∀ (k : Nat) (r : RunD), 0 ≤ r.count → ∀ p ∈ pieces k r, PieceIn r p
  | 0, _, _, p, h => by cases h
  | k + 1, r, h0, p, h => by
    unfold pieces at h
    split at h
    · cases h
    · have hc := cut16_pos (c := r.count) (by omega)
      have hc16 : cut16 r.count ≤ 16 := by unfold cut16; split <;> omega
      rcases List.mem_cons.1 h with rfl | h
      · exact ⟨⟨by show 1 ≤ cut16 r.count; omega, hc16⟩, ⟨Int.le_refl _, by show r.off + cut16 r.count ≤ _; omega⟩, rfl⟩
      · have := pieces_each k _ (by show 0 ≤ r.count - cut16 r.count; omega) p h
        obtain ⟨h1, h2, h3⟩ := this
        simp only at h2 h3
        exact ⟨h1, by omega, by omega⟩
theorem pieces_items : ∀ (k : Nat) (r : RunD), 0 ≤ r.count → r.count.toNat ≤ k → (pieces k r).flatMap runItems = runItems r
  | 0, r, h0, hk => by
    have : r.count = 0 := by omega
    obtain ⟨o, p, c⟩ := r
    simp only at this
    subst this
    rfl
  | k + 1, r, h0, hk => by
    unfold pieces
    split
    · have : r.count = 0 := by omega
      obtain ⟨o, p, c⟩ := r
      simp only at this
      subst this
      rfl
    · have hc := cut16_pos (c := r.count) (by omega)
      rw [List.flatMap_cons, pieces_items k _ (by show 0 ≤ r.count - cut16 r.count; omega) (by show (r.count - cut16 r.count).toNat ≤ k; omega)]
      rw [← runItems_split (by omega) (by omega), show cut16 r.count + (r.count - cut16 r.count) = r.count by omega]
theorem pieces_rise : ∀ (k : Nat) (r : RunD), 0 ≤ r.count → (pieces k r).Pairwise fun a b => a.off + a.count ≤ b.off
  | 0, _, _ => .nil
  | k + 1, r, h0 => by
    unfold pieces
    split
    · exact .nil
    · have hc := cut16_pos (c := r.count) (by omega)
      rw [List.pairwise_cons]
      refine ⟨fun b hb => ?_, pieces_rise k _ (by show 0 ≤ r.count - cut16 r.count; omega)⟩
      exact (pieces_each k _ (by show 0 ≤ r.count - cut16 r.count; omega) b hb).off.1
def sumC (l : List RunD) : Int := l.foldl (fun s r => s + r.count) 0
theorem sumC_from (l : List RunD) (s : Int) : l.foldl (fun s r => s + r.count) s = s + sumC l := by
  unfold sumC
  induction l generalizing s with
  | nil => simp
  | cons r l ih => rw [List.foldl_cons, List.foldl_cons, ih, ih (0 + r.count)]; omega
theorem sumC_append (l m : List RunD) : sumC (l ++ m) = sumC l + sumC m := by
  conv => lhs; unfold sumC
  rw [List.foldl_append, sumC_from]; rfl
theorem sumC_cons (r : RunD) (l : List RunD) : sumC (r :: l) = r.count + sumC l := by
  conv => lhs; unfold sumC
  rw [List.foldl_cons, sumC_from]; omega
theorem pieces_sum : ∀ (k : Nat) (r : RunD), 0 ≤ r.count → r.count.toNat ≤ k → sumC (pieces k r) = r.count
  | 0, r, h0, hk => by show (0 : Int) = r.count; omega
  | k + 1, r, h0, hk => by
    unfold pieces
    split
    · show (0 : Int) = r.count; omega
    · have hc := cut16_pos (c := r.count) (by omega)
      rw [sumC_cons, pieces_sum k _ (by show 0 ≤ r.count - cut16 r.count; omega) (by show (r.count - cut16 r.count).toNat ≤ k; omega)]
      show cut16 r.count + (r.count - cut16 r.count) = r.count
      omega
def allPieces (l : List RunD) : List RunD := l.flatMap piecesOf
theorem allPieces_items (l : List RunD) (h : ∀ r ∈ l, 0 ≤ r.count) : (allPieces l).flatMap runItems = l.flatMap runItems := by
  unfold allPieces
  induction l with
  | nil => rfl
  | cons r l ih =>
    rw [List.flatMap_cons, List.flatMap_append, ih fun x hx => h x (by simp [hx]), List.flatMap_cons]
    unfold piecesOf
    rw [pieces_items _ r (h r (by simp)) (Nat.le_refl _)]
theorem allPieces_sum (l : List RunD) (h : ∀ r ∈ l, 0 ≤ r.count) : sumC (allPieces l) = sumC l := by
  unfold allPieces
  induction l with
  | nil => rfl
  | cons r l ih =>
    rw [List.flatMap_cons, sumC_append, ih fun x hx => h x (by simp [hx]), sumC_cons]
    unfold piecesOf
    rw [pieces_sum _ r (h r (by simp)) (Nat.le_refl _)]
theorem allPieces_mem {l : List RunD} (h : ∀ r ∈ l, 0 ≤ r.count) {p : RunD} (hp : p ∈ allPieces l) : ∃ r ∈ l, PieceIn r p := by
  obtain ⟨r, hr, hm⟩ := List.mem_flatMap.1 hp
  exact ⟨r, hr, pieces_each _ r (h r hr) p hm⟩
theorem allPieces_rise {l : List RunD} (h : ∀ r ∈ l, 0 ≤ r.count) (ha : l.Pairwise Apart2) : (allPieces l).Pairwise fun a b => a.off + a.count ≤ b.off := by
  unfold allPieces
  induction l with
  | nil => exact .nil
  | cons r l ih =>
    rw [List.pairwise_cons] at ha
    rw [List.flatMap_cons, List.pairwise_append]
    refine ⟨pieces_rise _ r (h r (by simp)), ih (fun x hx => h x (by simp [hx])) ha.2, fun a ha' b hb => ?_⟩
    have h1 := pieces_each _ r (h r (by simp)) a ha'
    obtain ⟨r2, hr2, h2⟩ := allPieces_mem (l := l) (fun x hx => h x (by simp [hx])) hb
    have := (ha.1 r2 hr2).1
    have := h1.off
    have := h2.off
    omega
theorem mapPages_len (l : List RunD) (h : ∀ r ∈ l, 0 ≤ r.count) : ((mapPages l).length : Int) = sumC l := by
  unfold mapPages
  induction l with
  | nil => rfl
  | cons r l ih =>
    rw [List.flatMap_cons, List.length_append, sumC_cons, ← ih fun x hx => h x (by simp [hx]), pagesN_length]
    have := h r (by simp)
    push_cast; omega
theorem mapSteps_eq (n : NodeD) : mapSteps n = (allPieces n.map).map fun p => .write p n.size := by
  unfold mapSteps allPieces
  rw [List.map_flatMap]
  rfl

/-! ### the entries -/
theorem ents_at : ∀ (l : List StepD) (q : Int) (i : Nat) (h : i < l.length), (entsFrom q l)[i]'(by rw [entsFrom_length]; exact h) = entOf (l[i]'h) (q + i)
  | s :: l, q, 0, _ => by show entOf s q = entOf s (q + 0); rw [Int.add_zero]
  | s :: l, q, i + 1, h => by
    have := ents_at l (q + 1) i (by simpa using h)
    show (entsFrom (q + 1) l)[i]'_ = entOf (l[i]'(by simpa using h)) _
    rw [this]
    congr 1
    push_cast; omega
theorem ents_mem {l : List StepD} {q : Int} {e : EntD} (h : e ∈ entsFrom q l) : ∃ s ∈ l, ∃ q', e = entOf s q' := by
  obtain ⟨i, hi, rfl⟩ := List.getElem_of_mem h
  rw [entsFrom_length] at hi
  exact ⟨l[i], List.getElem_mem hi, _, ents_at l q i hi⟩
/-- a piece's entry may stand in a file's log -/
theorem piece_file {p : RunD} {z q : Int} (hz : 0 ≤ z ∧ z ≤ 262144) (hr : refRun p = true) (hc : p.count ≤ 16) : FileE (entOf (.write p z) q) := by
  have h := (refRun_iff p).1 hr
  obtain ⟨h1, h2, h3, h4, h5, h6, h7⟩ := h
  refine ⟨?_, .inl rfl, hz, ⟨h1, by show p.off ≤ 512; omega⟩, ⟨by show 0 ≤ p.count; omega, hc⟩, ⟨by show 0 ≤ p.page; omega, by show p.page ≤ 1024; omega⟩, fun _ => hr⟩
  unfold goodEnt one seqB noPagesB sizeB noNameB roomB entOf
  simp [wi_iff', empty_toList]
  omega
theorem resize_file' {z q : Int} (hz : 0 ≤ z ∧ z ≤ 262144) : FileE (entOf (.resize z) q) :=
  ⟨file_size_ent hz, .inr rfl, hz, ⟨Int.le_refl _, by show (0 : Int) ≤ 512; omega⟩, ⟨Int.le_refl _, by show (0 : Int) ≤ 16; omega⟩, ⟨Int.le_refl _, by show (0 : Int) ≤ 1024; omega⟩, fun h => by simp [entOf] at h⟩
theorem add_dir {x : ByteArray × Int} {q : Int} (h : goodDent x = true) : DirE (entOf (addOf x) q) := by
  rw [goodDent_iff] at h
  exact ⟨add_good _ _ h.1 h.2, .inl rfl, h.1, ⟨by show 0 ≤ x.2; omega, h.2.2⟩, fun _ => h.2.1, fun h => by simp [entOf, addOf] at h⟩

/-! ### a file's -/
theorem nextF_write {p : RunD} {z q : Int} (hz : 0 ≤ z ∧ z ≤ 262144) (hr : refRun p = true) (hc : p.count ≤ 16) (he : p.off + p.count ≤ endOf z) {g : Nat → Int} (hg : ∀ x : Nat, endOf z ≤ x → g x = 0) : nextF (entOf (.write p z) q) g = setRun g p := by
  funext x
  rw [nextF_at (piece_file hz hr hc), setRun_at g hr]
  show (if endOf z ≤ x then 0 else if (1 : Int) = 1 ∧ p.off ≤ x ∧ (x : Int) < p.off + p.count then p.page + x - p.off else g x) = _
  by_cases hx : endOf z ≤ x
  · rw [if_pos hx, if_neg (by omega), hg x hx]
  · rw [if_neg hx]
    by_cases h2 : p.off ≤ x ∧ (x : Int) < p.off + p.count
    · rw [if_pos ⟨rfl, h2⟩, if_pos h2]; omega
    · rw [if_neg (fun h => h2 h.2), if_neg h2]
theorem playF_writes {z : Int} (hz : 0 ≤ z ∧ z ≤ 262144) : ∀ (P : List RunD) (q : Int) (g : Nat → Int), (∀ p ∈ P, refRun p = true ∧ p.count ≤ 16 ∧ p.off + p.count ≤ endOf z) → (∀ x : Nat, endOf z ≤ x → g x = 0) →
    playF g (entsFrom q (P.map fun p => .write p z)) = P.foldl setRun g
  | [], _, _, _, _ => rfl
  | p :: P, q, g, h, hg => by
    obtain ⟨h1, h2, h3⟩ := h p (by simp)
    show playF (nextF (entOf (.write p z) q) g) (entsFrom (q + 1) (P.map fun p => .write p z)) = P.foldl setRun (setRun g p)
    rw [nextF_write hz h1 h2 h3 hg]
    refine playF_writes hz P _ _ (fun p hp => h p (by simp [hp])) fun x hx => ?_
    rw [setRun_at g h1, if_neg (by omega), hg x hx]
structure CanonMeans (n : NodeD) (k : Int) : Prop where
  good : nodeGood n = true
  play : ∃ D, playD (zeroD k) (canonOf n) = (0, D) ∧ (nodeOf D (canonOf n).length).size = n.size ∧ (nodeOf D (canonOf n).length).map = n.map ∧ (nodeOf D (canonOf n).length).names = n.names
theorem canon_file {z : Int} {f : Nat → Int} {j : Nat} (hw : WfD (.file z f)) (hf : FitD (.file z f)) : CanonMeans (nodeOf (.file z f) j) 1 := by
  refine ⟨node_good hw hf, ?_⟩
  obtain ⟨n, hn⟩ : ∃ n, n = nodeOf (.file z f) j := ⟨_, rfl⟩
  have hmap : n.map = runsT f := by rw [hn, nodeOf_map]
  have hsz : n.size = z := by rw [hn]; rfl
  have hnm : n.names = [] := by rw [hn]; rfl
  rw [← hn]
  have hin := hw.2.inr
  have hr := runs_good hw.2
  have hc0 : ∀ r ∈ n.map, 0 ≤ r.count := fun r h => by rw [hmap] at h; have := (refRun_iff r).1 (hr r h); omega
  have hst : stepsOf n = sizeSteps n := by unfold stepsOf; rw [hnm]; simp
  have hi := (runs_items hin 512 (Nat.le_refl _)).1
  have htab : ∀ x : Nat, x < 512 → (allPieces n.map).foldl setRun (fun _ => 0) x = f x := fun x hx => by
    have hb : ∀ r ∈ allPieces n.map, 0 ≤ r.off ∧ r.off ≤ 100000 ∧ 0 ≤ r.page ∧ r.page ≤ 100000 ∧ 0 ≤ r.count ∧ r.count ≤ 100000 := fun p hp => by
      obtain ⟨r, hrm, h1, h2, h3⟩ := allPieces_mem hc0 hp
      rw [hmap] at hrm
      have := (refRun_iff r).1 (hr r hrm)
      omega
    have e := table_items (allPieces n.map) (fun _ => 0) hb
    rw [allPieces_items _ hc0, hmap] at e
    rw [show (runsT f).flatMap runItems = itemsTo f 512 from hi] at e
    have := congrFun e x
    rw [items_put f 512 x, if_pos hx] at this
    rw [hmap]
    exact this
  have hfin : ∀ g : Nat → Int, (∀ x : Nat, x < 512 → g x = f x) → ∀ q : Nat, (nodeOf (.file z g) q).size = n.size ∧ (nodeOf (.file z g) q).map = n.map ∧ (nodeOf (.file z g) q).names = n.names := fun g hg q => by
    rw [nodeOf_map, hmap, hsz, hnm]
    exact ⟨rfl, runsT_congr hg, rfl⟩
  by_cases h0 : mapSteps n = []
  · have hp : allPieces n.map = [] := by rw [mapSteps_eq, List.map_eq_nil_iff] at h0; exact h0
    rw [hp] at htab
    by_cases hz0 : 0 < n.size
    · have hc : canonOf n = [entOf (.resize z) 1] := by
        unfold canonOf; rw [hst]; unfold sizeSteps; rw [if_pos ⟨h0, hz0⟩, hsz]; rfl
      rw [hc]
      refine ⟨_, play_file _ 0 (fun _ => 0) fun e he => ?_, hfin _ (fun x hx => ?_) _⟩
      · obtain rfl := List.mem_singleton.1 he
        exact resize_file' hw.1
      · rw [← htab x hx]
        show nextF (entOf (.resize z) 1) (fun _ => 0) x = 0
        rw [nextF_at (resize_file' hw.1)]
        split
        · rfl
        · rw [if_neg (fun h => by simp [entOf] at h)]
    · have hc : canonOf n = [] := by
        unfold canonOf; rw [hst]; unfold sizeSteps; rw [if_neg (fun h => hz0 h.2), h0]; rfl
      rw [hc]
      have hz : z = 0 := by have := hw.1; omega
      refine ⟨.file 0 (fun _ => 0), rfl, ?_⟩
      have := hfin (fun _ => 0) (fun x hx => by rw [← htab x hx]; rfl) 0
      rw [hz] at this
      exact this
  · have hc : canonOf n = entsFrom 1 ((allPieces n.map).map fun p => .write p z) := by
      unfold canonOf; rw [hst]; unfold sizeSteps; rw [if_neg (fun h => h0 h.1), mapSteps_eq, hsz]
    have hP : ∀ p ∈ allPieces n.map, refRun p = true ∧ p.count ≤ 16 ∧ p.off + p.count ≤ endOf z := fun p hp => by
      obtain ⟨r, hrm, h1, h2, h3⟩ := allPieces_mem hc0 hp
      rw [hmap] at hrm
      have h4 := (refRun_iff r).1 (hr r hrm)
      have hg := (good_runs (node_good hw hf (j := j))).1
      have he : r.off + r.count ≤ endOf z := by
        have hg2 : refEnd z r = true := by
          have h5 := node_good hw hf (j := j)
          rw [← refGood_eq] at h5
          unfold refGood at h5
          rw [if_pos (show (nodeOf (.file z f) j).kind = 1 from rfl)] at h5
          unfold refFile at h5
          simp only [Bool.and_eq_true] at h5
          have h6 := List.all_eq_true.1 h5.1.2 r (by rw [nodeOf_map]; exact hrm)
          exact h6
        unfold refEnd at hg2
        simp only [Bool.and_eq_true, decide_eq_true_eq] at hg2
        exact hg2.2
      refine ⟨(refRun_iff p).2 ?_, h1.2, by omega⟩
      omega
    have hne : allPieces n.map ≠ [] := fun e => h0 (by rw [mapSteps_eq, e]; rfl)
    have hF : ∀ e ∈ canonOf n, FileE e := fun e he => by
      rw [hc] at he
      obtain ⟨s, hs, q', rfl⟩ := ents_mem he
      obtain ⟨p, hp, rfl⟩ := List.mem_map.1 hs
      obtain ⟨h1, h2, _⟩ := hP p hp
      exact piece_file hw.1 h1 h2
    have hsame : ∀ e ∈ canonOf n, e.size = z := fun e he => by
      rw [hc] at he
      obtain ⟨s, hs, q', rfl⟩ := ents_mem he
      obtain ⟨p, hp, rfl⟩ := List.mem_map.1 hs
      rfl
    have hls : lastSize 0 (canonOf n) = z := by
      unfold lastSize
      have hnn : canonOf n ≠ [] := fun e => by
        have := congrArg List.length e
        rw [hc, entsFrom_length, List.length_map, List.length_nil, List.length_eq_zero_iff] at this
        exact hne this
      rw [List.getLast?_eq_some_getLast hnn]
      exact hsame _ (List.getLast_mem hnn)
    refine ⟨_, play_file _ 0 (fun _ => 0) hF, ?_⟩
    rw [hls]
    refine hfin _ (fun x hx => ?_) _
    rw [hc, playF_writes hw.1 _ _ _ hP (fun _ _ => rfl)]
    exact htab x hx
/-! ### a directory's -/
theorem insRec_last {p : ByteArray × Int} : ∀ {l : List (ByteArray × Int)}, (∀ x ∈ l, strLt x.1 p.1 = true) → insRec p l = l ++ [p]
  | [], _ => rfl
  | x :: l, h => by
    unfold insRec
    rw [if_neg (by rw [strLt_asymm (h x (by simp))]; decide), insRec_last fun y hy => h y (by simp [hy])]
    rfl
theorem play_adds : ∀ (nm l : List (ByteArray × Int)) (q : Int) (R : List Row), DirIs R l → (∀ x ∈ nm, goodDent x = true) → Rises (l ++ nm) → ∃ R', playD (.dir R) (entsFrom q (nm.map addOf)) = (0, .dir R') ∧ DirIs R' (l ++ nm)
  | [], l, q, R, h, _, _ => ⟨R, rfl, by rw [List.append_nil]; exact h⟩
  | x :: nm, l, q, R, h, hg, hr => by
    have he := add_dir (q := q) (hg x (by simp))
    have hlt : ∀ y ∈ l, strLt y.1 x.1 = true := fun y hy => (List.pairwise_append.1 hr).2.2 y hy x (by simp)
    have hno : hadL l x.1 = false := by
      unfold hadL
      rw [List.any_eq_false]
      intro y hy
      simp only [decide_eq_true_eq]
      intro e
      have := hlt y hy
      rw [e, strLt_irrefl] at this
      cases this
    have hok : onOk (entOf (addOf x) q) (.dir R) = true := by
      rw [dir_ok_eq (n := { zeroN with names := l }) h he.good]
      unfold dirOk
      show (!decide ((3 : Int) ≤ 2) && (hadL l x.1 == decide ((3 : Int) = 4))) = true
      rw [hno]; decide
    obtain ⟨R', h1, h2⟩ := dir_next (n := { zeroN with names := l }) h he.good hok
    have hst : stepErr (.dir R) (entOf (addOf x) q) = 0 := by unfold stepErr; rw [if_neg (by rw [he.good]; decide), if_neg (by rw [hok]; decide)]
    have h3 : DirIs R' (l ++ [x]) := by
      unfold dirNames at h2
      rw [if_pos (show (entOf (addOf x) q).kind = 3 from rfl)] at h2
      have e : insL ((entOf (addOf x) q).name, (entOf (addOf x) q).ino) (dropL l (entOf (addOf x) q).name) = l ++ [x] := by
        show insL (x.1, x.2) (dropL l x.1) = _
        rw [dropL_no hno, insL_eq, insRec_last hlt]
      simp only at h2
      rw [e] at h2
      exact h2
    obtain ⟨R'', h4, h5⟩ := play_adds nm (l ++ [x]) (q + 1) R' h3 (fun y hy => hg y (by simp [hy])) (by rw [List.append_assoc]; exact hr)
    refine ⟨R'', ?_, by rw [List.append_assoc] at h5; exact h5⟩
    show (if stepErr (.dir R) (entOf (addOf x) q) = 0 then playD (onD (entOf (addOf x) q) (.dir R)) (entsFrom (q + 1) (nm.map addOf)) else _) = _
    rw [if_pos hst, h1, h4]
theorem canon_dir_eq {R : List Row} {nm : List (ByteArray × Int)} {j : Nat} (h : DirIs R nm) : canonOf (nodeOf (.dir R) j) = entsFrom 1 (nm.map addOf) := by
  unfold canonOf stepsOf sizeSteps
  have hn : (nodeOf (.dir R) j).names = nm := h.names
  have hm : mapSteps (nodeOf (.dir R) j) = [] := rfl
  rw [hm, hn, if_neg (fun h => by have h2 : (0 : Int) < 0 := h.2; omega)]
  rfl
theorem canon_dir {R : List Row} {j : Nat} (hw : WfD (.dir R)) : CanonMeans (nodeOf (.dir R) j) 2 := by
  refine ⟨node_good hw trivial, ?_⟩
  obtain ⟨nm, h⟩ := hw
  rw [canon_dir_eq h]
  obtain ⟨R', h1, h2⟩ := play_adds nm [] 1 [] ⟨.refl _, (fun _ h => by cases h), List.Pairwise.nil⟩ h.good h.rises
  refine ⟨.dir R', h1, rfl, rfl, ?_⟩
  show namesOf R' = namesOf R
  rw [h2.names, h.names]; rfl
end Go.Proofs.YtabebkffcmajkaaDoor

/-! Plain law: what InodeCanonMeans asks of the canonical entries. -/
namespace Go.Proofs.YtabebkffcmajkaaDoor
open Go.RowKit Go.Maps Go.Shelf

theorem canon_congr {n m : NodeD} (h1 : n.size = m.size) (h2 : n.map = m.map) (h3 : n.names = m.names) : canonOf n = canonOf m := by
  unfold canonOf stepsOf sizeSteps mapSteps
  rw [h1, h2, h3]
def sumE (s : Int) (L : List EntD) : Int := L.foldl (fun s e => s + e.count) s
theorem sumE_ents (z : Int) : ∀ (P : List RunD) (q s : Int), sumE s (entsFrom q (P.map fun p => .write p z)) = s + sumC P
  | [], _, s => by show s = s + 0; omega
  | p :: P, q, s => by
    show sumE (s + p.count) (entsFrom (q + 1) (P.map fun p => .write p z)) = s + sumC (p :: P)
    rw [sumE_ents z P, sumC_cons]; omega
theorem sumE_take {L : List EntD} {k : Nat} (h : k < L.length) : sumE 0 (L.take (k + 1)) = sumE 0 (L.take k) + L[k].count := by
  rw [List.take_succ_eq_append_getElem h]
  unfold sumE
  rw [List.foldl_append]; rfl
theorem sumE_bound : ∀ (L : List EntD) (s : Int), (∀ e ∈ L, 0 ≤ e.count ∧ e.count ≤ 16) → s ≤ sumE s L ∧ sumE s L ≤ s + 16 * L.length
  | [], s, _ => by show s ≤ s ∧ s ≤ s + 16 * ((0 : Nat) : Int); omega
  | e :: L, s, h => by
    have h1 := sumE_bound L (s + e.count) fun x hx => h x (by simp [hx])
    have h2 := h e (by simp)
    have e1 : sumE s (e :: L) = sumE (s + e.count) L := rfl
    rw [e1, List.length_cons]
    push_cast; omega
structure CanonE (dir : Bool) (n : NodeD) (C : List EntD) : Prop where
  each : ∀ (i : Nat) (h : i < C.length), C[i].seq = i + 1 ∧ C[i].size = n.size ∧ (0 ≤ C[i].count ∧ C[i].count ≤ 16) ∧ (0 ≤ C[i].off ∧ C[i].off ≤ 512)
  rise : dir = false → ∀ (i : Nat) (h : i + 1 < C.length), (C[i]'(by omega)).off + (C[i]'(by omega)).count ≤ C[i + 1].off
structure CanonL (dir : Bool) (n : NodeD) (C : List EntD) (D2 : SenseD) : Prop where
  kind : n.kind = kindOf dir
  size : 0 ≤ n.size ∧ n.size ≤ 262144
  good : nodeGood n = true
  eq : C = canonOf n
  play : playD (zeroD (kindOf dir)) C = (0, D2)
  size2 : (nodeOf D2 C.length).size = n.size
  map2 : (nodeOf D2 C.length).map = n.map
  names2 : (nodeOf D2 C.length).names = n.names
  same : canonOf (nodeOf D2 C.length) = C
  good2 : nodeGood (nodeOf D2 C.length) = true
  wf2 : WfD D2
  small2 : smallB (nodeOf D2 C.length) = true
  len : C.length ≤ 300000
  ents : CanonE dir n C
  dirLen : dir = true → C.length = n.names.length
  pages : dir = false → ((pagesOf n).length : Int) = sumE 0 C
theorem canonE_writes {n : NodeD} {P : List RunD} (hz : ∀ p ∈ P, 1 ≤ p.count ∧ p.count ≤ 16 ∧ 0 ≤ p.off ∧ p.off + p.count ≤ 512) (hr : P.Pairwise fun a b => a.off + a.count ≤ b.off) : CanonE false n (entsFrom 1 (P.map fun p => .write p n.size)) := by
  have hl : (entsFrom 1 (P.map fun p => StepD.write p n.size)).length = P.length := by rw [entsFrom_length, List.length_map]
  have hat : ∀ (i : Nat) (h : i < P.length), (entsFrom 1 (P.map fun p => StepD.write p n.size))[i]'(by omega) = entOf (.write P[i] n.size) (1 + i) := fun i h => by
    have := ents_at (P.map fun p => StepD.write p n.size) 1 i (by rw [List.length_map]; exact h)
    rw [this, List.getElem_map]
  refine ⟨fun i h => ?_, fun _ i h => ?_⟩
  · have hi : i < P.length := by omega
    rw [hat i hi]
    have := hz _ (List.getElem_mem hi)
    refine ⟨?_, rfl, ⟨by show 0 ≤ P[i].count; omega, by show P[i].count ≤ 16; omega⟩, ⟨by show 0 ≤ P[i].off; omega, by show P[i].off ≤ 512; omega⟩⟩
    show (1 : Int) + i = i + 1
    omega
  · have hi : i + 1 < P.length := by omega
    rw [hat i (by omega), hat (i + 1) hi]
    exact (List.pairwise_iff_getElem.1 hr) i (i + 1) (by omega) hi (by omega)
theorem small_of {D : SenseD} {j : Nat} {n : NodeD} (h2 : (nodeOf D j).map = n.map) (h3 : (nodeOf D j).names = n.names) (hs : smallB n = true) : smallB (nodeOf D j) = true := by
  simp only [smallB, Bool.and_eq_true, decide_eq_true_eq] at hs ⊢
  rw [h2, h3]
  exact ⟨hs.1, hs.2.1, Nat.zero_le _⟩
theorem canonL_file (l : List SeedD) : ∃ D D2, playD (zeroD 1) (writtenL l) = (0, D) ∧ LogD D ∧ CanonL false (nodeOf D (writtenL l).length) (canonOf (nodeOf D (writtenL l).length)) D2 := by
  obtain ⟨f, hp, _⟩ := written_replay l
  have hp' : playD (zeroD 1) (writtenL l) = (0, .file (lastSize 0 (writtenL l)) f) := hp
  obtain ⟨_, _, hL⟩ := log_ok (k := 1) (.inl rfl) (by have := writtenL_length l; omega) hp'
  obtain ⟨z, hz⟩ : ∃ z, z = lastSize 0 (writtenL l) := ⟨_, rfl⟩
  rw [← hz] at hp' hL
  obtain ⟨j, hj⟩ : ∃ j, j = (writtenL l).length := ⟨_, rfl⟩
  rw [← hj]
  have hC := canon_file (j := j) hL.wf hL.fit
  obtain ⟨hg, D2, hpl, h1, h2, h3⟩ := hC
  have hw2 := play_fit (canonOf (nodeOf (.file z f) j)) (zeroD 1) (wf_zero 1) (fit_zero 1) (by rw [hpl])
  rw [hpl] at hw2
  have hr := runs_good hL.wf.2
  have hmap : (nodeOf (.file z f) j).map = runsT f := nodeOf_map z f j
  have hc0 : ∀ r ∈ (nodeOf (.file z f) j).map, 0 ≤ r.count := fun r h => by rw [hmap] at h; have := (refRun_iff r).1 (hr r h); omega
  have hsm := hL.small j
  have hlen : (canonOf (nodeOf (.file z f) j)).length ≤ 300000 := by
    unfold canonOf
    rw [entsFrom_length]
    obtain ⟨g1, g2⟩ := good_tame hg
    have := stepsOf_length g2 g1
    have hn : (nodeOf (.file z f) j).names = [] := rfl
    rw [hn] at this
    simp only [List.length_nil] at this
    omega
  have hst : stepsOf (nodeOf (.file z f) j) = sizeSteps (nodeOf (.file z f) j) := by
    unfold stepsOf
    rw [show (nodeOf (.file z f) j).names = [] from rfl]; simp
  have hP : ∀ p ∈ allPieces (nodeOf (.file z f) j).map, 1 ≤ p.count ∧ p.count ≤ 16 ∧ 0 ≤ p.off ∧ p.off + p.count ≤ 512 := fun p hp => by
    obtain ⟨r, hrm, g1, g2, g3⟩ := allPieces_mem hc0 hp
    rw [hmap] at hrm
    have := (refRun_iff r).1 (hr r hrm)
    omega
  have hE : CanonE false (nodeOf (.file z f) j) (canonOf (nodeOf (.file z f) j)) ∧ ((pagesOf (nodeOf (.file z f) j)).length : Int) = sumE 0 (canonOf (nodeOf (.file z f) j)) := by
    have hpg : ((pagesOf (nodeOf (.file z f) j)).length : Int) = sumC (allPieces (nodeOf (.file z f) j).map) := by
      rw [pagesOf_good hg, mapPages_len _ hc0, allPieces_sum _ hc0]
    by_cases h0 : mapSteps (nodeOf (.file z f) j) = [] ∧ 0 < (nodeOf (.file z f) j).size
    · have hc : canonOf (nodeOf (.file z f) j) = [entOf (.resize (nodeOf (.file z f) j).size) 1] := by
        unfold canonOf; rw [hst]; unfold sizeSteps; rw [if_pos h0]; rfl
      have hp0 : allPieces (nodeOf (.file z f) j).map = [] := by have := h0.1; rw [mapSteps_eq, List.map_eq_nil_iff] at this; exact this
      rw [hpg, hp0, hc]
      refine ⟨⟨fun i h => ?_, fun _ i h => by simp at h⟩, rfl⟩
      have : i = 0 := by simpa using h
      subst this
      exact ⟨rfl, rfl, ⟨Int.le_refl _, by show (0 : Int) ≤ 16; omega⟩, ⟨Int.le_refl _, by show (0 : Int) ≤ 512; omega⟩⟩
    · have hc : canonOf (nodeOf (.file z f) j) = entsFrom 1 ((allPieces (nodeOf (.file z f) j).map).map fun p => .write p (nodeOf (.file z f) j).size) := by
        unfold canonOf; rw [hst]; unfold sizeSteps; rw [if_neg h0, mapSteps_eq]
      rw [hpg, hc]
      refine ⟨canonE_writes hP (allPieces_rise hc0 (by rw [hmap]; exact (runs_sep hL.wf.2.inr 512 (Nat.le_refl _)).apart)), ?_⟩
      rw [sumE_ents]; omega
  refine ⟨_, D2, hp', hL, rfl, hL.wf.1, hg, rfl, hpl, h1, h2, h3, canon_congr h1 h2 h3, node_good hw2.1 hw2.2, hw2.1, small_of h2 h3 hsm, hlen, hE.1, (fun h => by cases h), fun _ => hE.2⟩
theorem canonL_dir (l : List SeedD) : ∃ D D2, playD (zeroD 2) (namedL l) = (0, D) ∧ LogD D ∧ CanonL true (nodeOf D (namedL l).length) (canonOf (nodeOf D (namedL l).length)) D2 := by
  obtain ⟨R, nm, hD⟩ := named_replay l
  have hp' : playD (zeroD 2) (namedL l) = (0, .dir R) := hD.play
  obtain ⟨_, _, hL⟩ := log_ok (k := 2) (.inr rfl) (by have := namedL_length l; omega) hp'
  obtain ⟨j, hj⟩ : ∃ j, j = (namedL l).length := ⟨_, rfl⟩
  have hnl : nm.length ≤ 60 := by have := hD.len; have := namedL_length l; omega
  rw [← hj]
  have hC := canon_dir (j := j) hL.wf
  obtain ⟨hg, D2, hpl, h1, h2, h3⟩ := hC
  have hw2 := play_fit (canonOf (nodeOf (.dir R) j)) (zeroD 2) (wf_zero 2) (fit_zero 2) (by rw [hpl])
  rw [hpl] at hw2
  have hc := canon_dir_eq (j := j) hD.is
  have hcl : (canonOf (nodeOf (.dir R) j)).length = nm.length := by rw [hc, entsFrom_length, List.length_map]
  have hn : (nodeOf (.dir R) j).names = nm := hD.is.names
  refine ⟨_, D2, hp', hL, rfl, ⟨Int.le_refl _, by show (0 : Int) ≤ 262144; omega⟩, hg, rfl, hpl, h1, h2, h3, canon_congr h1 h2 h3, node_good hw2.1 hw2.2, hw2.1, small_of h2 h3 (hL.small j), by omega, ⟨fun i h => ?_, fun h => by cases h⟩, (fun _ => by rw [hcl, hn]), fun h => by cases h⟩
  have hi : i < (nm.map addOf).length := by rw [List.length_map]; omega
  have hat := ents_at (nm.map addOf) 1 i hi
  have e : (canonOf (nodeOf (.dir R) j))[i] = entOf ((nm.map addOf)[i]) (1 + i) := by
    rw [← hat]
    congr 1
  rw [e, List.getElem_map]
  refine ⟨?_, rfl, ⟨Int.le_refl _, by show (0 : Int) ≤ 16; omega⟩, ⟨Int.le_refl _, by show (0 : Int) ≤ 512; omega⟩⟩
  show (1 : Int) + i = i + 1
  omega
theorem canonL_log (dir : Bool) (l : List SeedD) : ∃ D D2, playD (zeroD (kindOf dir)) (logOf dir l) = (0, D) ∧ LogD D ∧ CanonL dir (nodeOf D (logOf dir l).length) (canonOf (nodeOf D (logOf dir l).length)) D2 := by
  cases dir
  · exact canonL_file l
  · exact canonL_dir l
end Go.Proofs.YtabebkffcmajkaaDoor

/-! Plain law: what InodeWrong asks. -/
namespace Go.Proofs.YtabebkffcmajkaaDoor
open Go.RowKit Go.Maps Go.Shelf

def otherE (dir : Bool) : EntD := match dir with | true => ⟨2, 0, 0, 0, 0, 5, 0, ⟨#[]⟩⟩ | false => ⟨3, 0, 0, 0, 0, 0, 2, ⟨#[97]⟩⟩
def sameE (dir : Bool) : EntD := match dir with | true => ⟨3, 0, 0, 0, 0, 0, 9, ⟨#[122, 122]⟩⟩ | false => ⟨2, 0, 0, 0, 0, 7, 0, ⟨#[]⟩⟩
def badW : EntD := ⟨1, 0, 511, 2, 9, 0, 0, ⟨#[]⟩⟩
def badN : EntD := ⟨3, 0, 0, 0, 0, 0, 2, ⟨#[47]⟩⟩
theorem otherE_good (dir : Bool) : goodEnt (one (otherE dir)) = true := by cases dir <;> decide +kernel
theorem sameE_good (dir : Bool) : goodEnt (one (sameE dir)) = true := by cases dir <;> decide +kernel
theorem badW_not : goodEnt (one badW) = false := by decide +kernel
theorem badN_not : goodEnt (one badN) = false := by decide +kernel
theorem apply_34 {n : NodeD} {e : EntD} (h : goodEnt (one e) = false) : applyErr n e = 34 ∧ applyN n e = zeroN := by
  have h1 : applyErr n e = 34 := by unfold applyErr; rw [if_pos h]
  exact ⟨h1, applyN_bad (by rw [h1]; decide)⟩
theorem apply_bad {n : NodeD} {e : EntD} (h : goodEnt (one e) = true) (hn : nodeGood n = false) : applyErr n e = 90 ∧ applyN n e = zeroN := by
  have h1 : applyErr n e = 90 := by unfold applyErr; rw [if_neg (by rw [h]; decide), if_pos hn]
  exact ⟨h1, applyN_bad (by rw [h1]; decide)⟩
/-- the sense is of the kind -/
def SenseK (dir : Bool) (D : SenseD) : Prop := match dir with | true => ∃ R, D = .dir R | false => ∃ z f, D = .file z f
theorem other_step {dir : Bool} {D : SenseD} (h : SenseK dir D) : stepErr D (otherE dir) = 90 := by
  unfold stepErr
  rw [if_neg (by rw [otherE_good]; decide)]
  cases dir with
  | true =>
    obtain ⟨R, rfl⟩ := h
    exact if_pos rfl
  | false =>
    obtain ⟨z, f, rfl⟩ := h
    exact if_pos rfl
theorem other_apply {dir : Bool} {D : SenseD} (h : SenseK dir D) (hL : LogD D) (j : Nat) : applyErr (nodeOf D j) (otherE dir) = 90 ∧ applyN (nodeOf D j) (otherE dir) = zeroN := by
  have h1 : applyErr (nodeOf D j) (otherE dir) = 90 := by rw [applyErr_node hL.wf hL.fit, other_step h]
  exact ⟨h1, applyN_bad (by rw [h1]; decide)⟩
theorem log_kind (dir : Bool) (l : List SeedD) : ∃ D, playD (zeroD (kindOf dir)) (logOf dir l) = (0, D) ∧ SenseK dir D := by
  cases dir
  · obtain ⟨f, h, _⟩ := written_replay l; exact ⟨_, h, _, _, rfl⟩
  · obtain ⟨R, nm, h⟩ := named_replay l; exact ⟨_, h.play, _, rfl⟩
theorem log_other (dir : Bool) (l : List SeedD) (h : 0 < (logOf dir l).length) : replayErr (3 - kindOf dir) (logOf dir l) = 90 := by
  cases dir with
  | true =>
    have h : 0 < (namedL l).length := h
    show replayErr (3 - 2) (namedL l) = 90
    obtain ⟨e, L, hL⟩ : ∃ e L, namedL l = e :: L := by
      cases hn : namedL l with
      | nil => rw [hn] at h; simp at h
      | cons e L => exact ⟨e, L, rfl⟩
    have he := named_dir l e (by rw [hL]; simp)
    rw [hL]
    unfold replayErr
    rw [if_pos (by omega)]
    have h0 : zeroD (3 - 2) = .file 0 (fun _ => 0) := rfl
    rw [h0]
    have hs : stepErr (.file 0 (fun _ => 0)) e = 90 := by
      unfold stepErr
      rw [if_neg (by rw [he.good]; decide)]
      have : onOk e (.file 0 (fun _ => 0)) = false := decide_eq_false (by have := he.kind; omega)
      rw [if_pos this]
    show (if stepErr (.file 0 (fun _ => 0)) e = 0 then playD _ L else (stepErr (.file 0 (fun _ => 0)) e, _)).1 = 90
    rw [if_neg (by rw [hs]; decide)]
    exact hs
  | false =>
    have h : 0 < (writtenL l).length := h
    show replayErr (3 - 1) (writtenL l) = 90
    obtain ⟨e, L, hL⟩ : ∃ e L, writtenL l = e :: L := by
      cases hn : writtenL l with
      | nil => rw [hn] at h; simp at h
      | cons e L => exact ⟨e, L, rfl⟩
    have he := written_file l e (by rw [hL]; simp)
    rw [hL]
    unfold replayErr
    rw [if_pos (by omega)]
    have h0 : zeroD (3 - 1) = .dir [] := rfl
    rw [h0]
    have hs : stepErr (.dir []) e = 90 := by
      unfold stepErr
      rw [if_neg (by rw [he.good]; decide)]
      have : onOk e (.dir []) = false := by
        have h3 : ¬ e.kind = 3 := by have := he.kind; omega
        have h4 : ¬ e.kind = 4 := by have := he.kind; omega
        show (if e.kind = 3 then decide (putErr [] 1 e.name e.ino = 0) else if e.kind = 4 then decide (dropErr [] 1 e.name = 0) else false) = false
        rw [if_neg h3, if_neg h4]
      rw [if_pos this]
    show (if stepErr (.dir []) e = 0 then playD _ L else (stepErr (.dir []) e, _)).1 = 90
    rw [if_neg (by rw [hs]; decide)]
    exact hs
theorem replayN_wf (k : Int) (l : List EntD) : ∃ (n : NodeD), n = replayN k l := ⟨_, rfl⟩
/-- the node that no log means -/
def wrongN (dir : Bool) (n : NodeD) (o : Int) : NodeD := match dir with | true => { n with names := n.names ++ [(⟨#[]⟩, 2)] } | false => { n with map := n.map ++ [⟨endOf n.size + o, 9, 1⟩] }
theorem wrong_not {dir : Bool} {D : SenseD} (h : SenseK dir D) (j : Nat) {o : Int} (ho : 0 ≤ o) : nodeGood (wrongN dir (nodeOf D j) o) = false := by
  rw [← refGood_eq]
  unfold refGood
  cases dir with
  | true =>
    obtain ⟨R, rfl⟩ := h
    rw [if_neg (show ¬ (wrongN true (nodeOf (.dir R) j) o).kind = 1 from by show ¬ (2 : Int) = 1; decide), if_pos (show (wrongN true (nodeOf (.dir R) j) o).kind = 2 from rfl)]
    unfold refDir
    have : (wrongN true (nodeOf (.dir R) j) o).names.all goodDent = false := by
      rw [List.all_eq_false]
      refine ⟨(⟨#[]⟩, 2), by show _ ∈ _ ++ _; simp, ?_⟩
      have : goodDent (⟨#[]⟩, 2) = false := by decide +kernel
      rw [this]; decide
    rw [this]; simp
  | false =>
    obtain ⟨z, f, rfl⟩ := h
    rw [if_pos (show (wrongN false (nodeOf (.file z f) j) o).kind = 1 from rfl)]
    unfold refFile
    have : (wrongN false (nodeOf (.file z f) j) o).map.all (refEnd (wrongN false (nodeOf (.file z f) j) o).size) = false := by
      rw [List.all_eq_false]
      refine ⟨⟨endOf (nodeOf (.file z f) j).size + o, 9, 1⟩, by show _ ∈ _ ++ _; simp, ?_⟩
      have : refEnd (wrongN false (nodeOf (.file z f) j) o).size ⟨endOf (nodeOf (.file z f) j).size + o, 9, 1⟩ = false := by
        unfold refEnd
        have : decide (endOf (nodeOf (.file z f) j).size + o + 1 ≤ endOf (nodeOf (.file z f) j).size) = false := decide_eq_false (by omega)
        show (_ && decide (endOf (nodeOf (.file z f) j).size + o + 1 ≤ endOf (nodeOf (.file z f) j).size)) = false
        rw [this]; simp
      rw [this]; decide
    rw [this]; simp
theorem wrong_small {dir : Bool} {n : NodeD} {o : Int} (h : n.map.length ≤ 512 ∧ n.names.length ≤ 100 ∧ n.log.length = 0) : smallB (wrongN dir n o) = true := by
  simp only [smallB, Bool.and_eq_true, decide_eq_true_eq]
  cases dir
  · exact ⟨by show (n.map ++ [_]).length ≤ 2000; simp; omega, by show n.names.length ≤ 2000; omega, by show n.log.length ≤ 2000; omega⟩
  · exact ⟨by show n.map.length ≤ 2000; omega, by show (n.names ++ [_]).length ≤ 2000; simp; omega, by show n.log.length ≤ 2000; omega⟩
theorem LogD.lens {D : SenseD} (h : LogD D) (j : Nat) : (nodeOf D j).map.length ≤ 512 ∧ (nodeOf D j).names.length ≤ 100 ∧ (nodeOf D j).log.length = 0 := by
  cases D with
  | file z f => exact ⟨by rw [nodeOf_map]; exact runs_len f, Nat.zero_le _, rfl⟩
  | dir R => exact ⟨Nat.zero_le _, Nat.le_trans (names_len R) h.len, rfl⟩
end Go.Proofs.YtabebkffcmajkaaDoor

/-! What InodeWrong needs: entry. (Printed by mk_LX1.py.) -/
namespace Go.Proofs.YtabebkffcmajkaaDoor
open Go.RowKit Go.Maps Go.Shelf
attribute [local go_sem] quietV loudUpon Oper.semAt_some

theorem sense_kind {dir : Bool} {D : SenseD} (h : SenseK dir D) (j : Nat) : (nodeOf D j).kind = kindOf dir := by
  cases dir with
  | true => obtain ⟨R, rfl⟩ := h; rfl
  | false => obtain ⟨z, f, rfl⟩ := h; rfl
theorem jxw_append_row {α : Type} (enc : α → List Value) (t e : TypeId) (z : Value) (sz bytes : Nat) (hu : Tryd.prog.underlying t = some (.slice e)) (hin : (Tryd.prog.info? e).map (fun i => (i.zero, i.size, i.bytes)) = some (some z, sz, bytes))
    (hzs : z.cells.size = sz) (hsz0 : 0 < sz) (he : ∀ x, (enc x).length = sz) (hone : ∀ x, ∀ u ∈ enc x, u.oneCell' = true)
    {D : List Nat} {I : World → Prop} {R : Nat → World → Prop} {Q : Act → World → Prop} {k : Nat} {o : Oper} {os : List Oper} {l : List (Bool × Nat)} {done : List Nat} {a : Act} {w : World} (hok : os[k]? = some o) (hg : o.guard = none) (s x : Operand)
    (ho : o.op = .call { callee := .builtin .append, args := #[s, x], argTypes := #[t, t] }) (W : World) (base : Nat) (v : Value) (acc : List α) (p : α)
    (hw : w = W.alloc (.cells (enc p).toArray e)) (hs : a.eval s = v) (gx : Nat) (hgx : gx = W.heap.size) (hx : a.eval x = .slice (some ⟨gx, 0, none⟩) 1 1)
    (hown : W.ownsRow base e sz v acc.length (rowOf enc acc)) (hb : base ≤ W.heap.size) (hl : acc.length + 1 ≤ maxLen) (hl2 : (acc.length + 1) * bytes ≤ 140737488355328)
    (h : ∀ v' w', w'.ownsRow base e sz v' (acc ++ [p]).length (rowOf enc (acc ++ [p])) → Mod (fun k => some k = v.ownBlock) W w' → (v'.ownBlock = v.ownBlock ∨ v'.ownBlock = some (W.heap.size + 1)) → JD D I R (k :: done) w' ∧ JxW Tryd.prog os.toArray D I R Q l (k :: done) (a.put o.dst v') w') :
    JxW Tryd.prog os.toArray D I R Q ((false, k) :: l) done a w := by
  subst hgx
  obtain ⟨i0, hi, hz, hsz, hby⟩ := info_parts hin
  have hM : Mod None_ W w := by rw [hw]; exact (Mod.refl _ W).alloc _
  have hown1 := own_mod hown hM (fun _ _ f => f)
  have hB : Blk w W.heap.size e (enc p).toArray := by rw [hw]; exact Blk.new _ _ _
  obtain ⟨v', w', hrun, hown', hgr, _, hat⟩ := run_append_own_at (P := Tryd.prog) w base t o.type e i0 _ sz bytes hu hi hz hsz hby hzs hsz0 v acc.length _ hown1 ⟨W.heap.size, 0, none⟩ 1 1 (enc p) (by rw [he]; omega)
    (by
      intro j u hj
      rw [Addr.add_lit, Nat.zero_add, hB.cell]
      simpa using hj)
    (hone p) hl hl2 (by rw [hw, alloc_size]; omega)
  have hsw : w.heap.size = W.heap.size + 1 := by rw [hw, alloc_size]
  have ell : (acc ++ [p]).length = acc.length + 1 := by simp
  rw [← rowOf_snoc, ← ell] at hown'
  have hk := h v' w' hown' (hM.none.trans' (Mod.of_grown hgr) (fun k _ e => e)) (by rw [hsw] at hat; exact hat)
  refine jxw_loud hok fun K hK => ?_
  have hrun2 : (execOp a.eval o).run Tryd.prog w = .ok (.value v') w' := by
    unfold execOp
    simp only [ho, resolve, invoke, builtin, Sem.run_bind, Sem.run_pure, Result.andThen_ok, List.map_toArray, List.map_cons, List.map_nil, hs, hx, hrun]
  rw [if_pos (by simp [Region.wanted, hg]), hrun2]
  exact ⟨hk.1, hK _ _ hk.2⟩
theorem entry_own (w : World) (dir : Bool) : Calls Tryd.prog 34 #[.bool dir] w fun e w' => e = .returned (.agg (encEntry (sameE dir)).toArray) ∧ Mod None_ w w' := by
  obtain ⟨m, hm⟩ : ∃ m, m = w.heap.size := ⟨_, rfl⟩
  obtain ⟨w1, hw1⟩ : ∃ w1, w1 = w.alloc (.cells zeroEnt 26) := ⟨_, rfl⟩
  have hM : Mod None_ w w1 := by rw [hw1]; exact (Mod.refl _ w).alloc _
  have b1 : Blk w1 m 26 zeroEnt := by rw [hw1, hm]; exact Blk.new w _ _
  have hwm : w.heap.size ≤ m := by omega
  have HW := hide hw1
  have HM := hide hm
  clear hw1 hm
  cases dir with
  | true =>
    have hM2 : Mod None_ w (w1.setRow m (encEntry (sameE true)).toArray) := hM.trans' ((Mod.refl (· = m) w1).setRow (.inr rfl) _) (fun k hk e => by omega)
    have HF := hide hM2
    have HB := hide (b1.row (encEntry (sameE true)).toArray)
    go_enter Tryd.func34, Tryd.ntmps34
    go_wp2_with (first
      | ((with_reducible refine at_slot 2 ?_); refine wpList_alloc rfl 26 rfl (.agg zeroEnt) zeroEntV ?_; go_frame; rw [show (Value.agg zeroEnt).cells = zeroEnt from rfl, ← HW.out, ← HM.out])
      | ((with_reducible refine at_none 26 2 4 ?_); refine wpList_store_row rfl 26 (.tmp 2) (.tmp 4) rfl m (encEntry (sameE true)).toArray rfl rfl 26 zeroEnt b1 (infoEnt _) rfl (oneEnt _) ?_; go_frame))
    have hl := run_loadVar_row (P := Tryd.prog) _ m 26 26 _ (0, 0) _ HB.out Tryd.underlying26 rfl (infoEnt _)
    exact ⟨rfl, .agg (encEntry (sameE true)).toArray, by simp [results, Tryd.results34, asAddr, hl], rfl, HF.out⟩
  | false =>
    have hM2 : Mod None_ w (w1.setRow m (encEntry (sameE false)).toArray) := hM.trans' ((Mod.refl (· = m) w1).setRow (.inr rfl) _) (fun k hk e => by omega)
    have HF := hide hM2
    have HB := hide (b1.row (encEntry (sameE false)).toArray)
    go_enter Tryd.func34, Tryd.ntmps34
    go_wp2_with (first
      | ((with_reducible refine at_slot 2 ?_); refine wpList_alloc rfl 26 rfl (.agg zeroEnt) zeroEntV ?_; go_frame; rw [show (Value.agg zeroEnt).cells = zeroEnt from rfl, ← HW.out, ← HM.out])
      | ((with_reducible refine at_none 26 2 5 ?_); refine wpList_store_row rfl 26 (.tmp 2) (.tmp 5) rfl m (encEntry (sameE false)).toArray rfl rfl 26 zeroEnt b1 (infoEnt _) rfl (oneEnt _) ?_; go_frame))
    have hl := run_loadVar_row (P := Tryd.prog) _ m 26 26 _ (0, 0) _ HB.out Tryd.underlying26 rfl (infoEnt _)
    exact ⟨rfl, .agg (encEntry (sameE false)).toArray, by simp [results, Tryd.results34, asAddr, hl], rfl, HF.out⟩
end Go.Proofs.YtabebkffcmajkaaDoor

/-! Law walk: InodeWrong. (Printed by mk_LX1.py.) -/
namespace Go.Proofs.YtabebkffcmajkaaDoor
open Go.RowKit Go.Maps Go.Shelf
attribute [local go_sem] quietV loudUpon Oper.semAt_some

def sigApply2 : Sch := .q 0 (.q 1 (.two 2 (.two 3 (.q 4 (.q 5 (.q 6 (.l 7 (.l 8 (.q 9 .nil)))))) 7 (.l 3 (.q 4 (.q 5 (.q 6 (.l 8 (.q 9 .nil))))))) 7 (.l 2 (.l 3 (.q 4 (.q 5 (.q 6 (.l 8 (.q 9 .nil)))))))))
/-- the node with one thing more, in its variable -/
def WrongAt (wb wx : World) (dir : Bool) (n : NodeD) (o : Int) (q : Nat) : Prop := ∃ um un ul, Blk wx q 31 (nodeC (wrongN dir n o) um un ul) ∧ NodeIn wx (wrongN dir n o) um un ul ∧ Mod None_ wb wx

set_option maxRecDepth 100000 in
set_option maxHeartbeats 16000000 in
theorem lawWrong (w : World) (dir : Bool) (v : Value) (l : List SeedD) (off : Int) (hs : Steps w) (h : ListAt encSeed 6 w v l) (hO : ∀ x ∈ l, x.Ok) (hoff : I64 off) : Calls Tryd.prog 10 #[.bool dir, v, .int .i64 off] w (BoolPost w true) := by
  have hv1 : v.oneCell' = true := by obtain ⟨A, c, rfl, _⟩ := h; rfl
  have HW := hide (written_any w v l h hO)
  have HWN := hide (fun w1 hm => named_any w1 v l (ListAt.kept h hm) hO)
  have HS := hide hs
  clear h hO hs
  go_enter Tryd.func10, Tryd.ntmps10
  go_wp2_with fail
  refine Calls.mono (HW.out) ?_
  rintro x w1 ⟨v1, rfl, hown1, hM⟩
  replace HS := hide (HS.out.kept hM)
  have HWN1 := hide (fun w9 hm => HWN.out w9 (Mod.trans hM hm))
  have HM1 := hide hM
  clear HW
  obtain ⟨q9, hq⟩ : ∃ q, q = w1.heap.size := ⟨_, rfl⟩
  obtain ⟨w1a, hw⟩ : ∃ y, y = w1.alloc (.cells zeroEnt 26) := ⟨_, rfl⟩
  have hma : Mod None_ w1 w1a := by rw [hw]; exact (Mod.refl _ w1).alloc _
  have b9a : Blk w1a q9 26 zeroEnt := by rw [hw, hq]; exact Blk.new w1 _ _
  have hwq : w1.heap.size ≤ q9 := by omega
  obtain ⟨w1b, hwb⟩ : ∃ y, y = w1a.setRow q9 (encEntry (otherE false)).toArray := ⟨_, rfl⟩
  have b9 : Blk w1b q9 26 (encEntry (otherE false)).toArray := by rw [hwb]; exact b9a.row _
  have hmb : Mod None_ w1 w1b := by rw [hwb]; exact hma.trans' ((Mod.refl (· = q9) w1a).setRow (.inr rfl) _) (fun k hk e => by omega)
  have HWA := hide hw
  have HQA := hide hq
  have HWB := hide hwb
  clear hw hq hwb hma
  have hown1b : OwnE w w1b v1 (writtenL l) := own_mod hown1 hmb (fun _ _ f => f)
  clear hown1
  go_upto_if 28 with (first
    | ((with_reducible refine at_slot 9 ?_); refine wpList_alloc rfl 26 rfl (.agg zeroEnt) zeroEntV ?_; go_frame; rw [show (Value.agg zeroEnt).cells = zeroEnt from rfl, ← HWA.out, ← HQA.out])
    | ((with_reducible refine at_none 26 9 27 ?_); refine wpList_store_row rfl 26 (.tmp 9) (.tmp 27) rfl q9 (encEntry (otherE false)).toArray rfl rfl 26 zeroEnt b9a (infoEnt _) rfl (oneEnt _) ?_; go_frame; rw [← HWB.out]))
  clear HWA HQA HWB b9a
  go_cut [7, 8] from 29 to 31 (fun s7 s8 wx => s7 = .int .i64 (kindOf dir) ∧ OwnE w wx s8 (logOf dir l) ∧ Blk wx q9 26 (encEntry (otherE dir)).toArray ∧ Mod None_ w1 wx)
  case first =>
    cases dir with
    | false =>
      go_wp2_with fail
      go_meet
      exact ⟨rfl, hown1b, b9, hmb⟩
    | true =>
      go_wp2_with fail
      refine Calls.mono (HWN1.out w1b hmb) ?_
      rintro x w2 ⟨v2, rfl, hown2, hm2⟩
      have hq2 : q9 < w1b.heap.size := b9.lt
      have b9c := b9.mod hm2 id
      have hsz : w.heap.size ≤ w1b.heap.size := Nat.le_trans HM1.out.size hmb.size
      have hm3 : Mod (· = q9) w2 (w2.setRow q9 (encEntry (otherE true)).toArray) := (Mod.refl (· = q9) w2).setRow (.inr rfl) _
      have hown3 := own_mod hown2 hm3 (fun g hg e => by have := (own_blk hown2 hg).1; omega)
      have HF := hide (And.intro (own_base hown3 hsz) (And.intro (b9c.row (encEntry (otherE true)).toArray) ((hmb.trans hm2).trans' hm3 (fun k hk e => by omega))))
      clear hown1b hown2 hm2 hm3 hown3 b9
      go_wp2_with ((with_reducible refine at_none 26 9 31 ?_); refine wpList_store_row rfl 26 (.tmp 9) (.tmp 31) rfl q9 (encEntry (otherE true)).toArray rfl rfl 26 (encEntry (otherE false)).toArray b9c (infoEnt _) rfl (oneEnt _) ?_; go_frame)
      go_meet
      exact ⟨rfl, HF.out.1, HF.out.2.1, HF.out.2.2⟩
  clear b9 hown1b hmb
  obtain ⟨rfl, hown, b9, hm⟩ := hcut
  have HM := hide (HM1.out.trans hm)
  replace HS := hide (HS.out.kept hm)
  have B9 := hide b9
  clear hm HM1 HWN1 HWN b9 hwq
  obtain ⟨D, hpl, hSK⟩ := log_kind dir l
  have hl60 := logOf_length dir l
  have hkd := kindOf_two dir
  obtain ⟨hre, hrn, hLD⟩ := log_ok hkd hl60 hpl
  have hoth := log_other dir l
  have hck := sense_kind hSK (logOf dir l).length
  obtain ⟨w2, hw2⟩ : ∃ x, x = wc := ⟨_, rfl⟩
  rw [← hw2] at HM HS hown B9 ⊢
  clear hw2
  obtain ⟨kd, hkde⟩ : ∃ kd, kd = kindOf dir := ⟨_, rfl⟩
  rw [← hkde] at hpl hre hrn hkd hoth hck ⊢
  obtain ⟨E, hE⟩ : ∃ E, E = logOf dir l := ⟨_, rfl⟩
  rw [← hE] at hown hpl hl60 hre hrn hoth hck
  clear hkde hE
  obtain ⟨A1, c1, rfl⟩ := own_slice hown
  have hl1 := list_of_ownRow (enc := encEntry) (fun _ => rfl) hown
  have HL1 := hide hl1
  have HLD := hide hLD
  have HKD := hide hkd
  have HSK := hide hSK
  have HOT := hide hoth
  clear hown hl1 hpl hLD hkd hSK hoth
  go_wp2_with fail
  refine Calls.mono (copyEntries_any w2 _ E HL1.out (by omega)) ?_
  rintro x w3 ⟨v2, rfl, hown2, hm2⟩
  have hl2 := list_of_ownRow (enc := encEntry) (fun _ => rfl) hown2
  clear hown2
  replace HS := hide (HS.out.kept hm2)
  replace HM := hide (HM.out.trans hm2)
  replace HL1 := hide (HL1.out.kept hm2)
  replace B9 := hide (B9.out.mod hm2 id)
  clear hm2
  go_wp2_with fail
  refine Calls.mono (replay_any w3 kd v2 E HS.out hl2 (by omega)) ?_
  rintro x w4 ⟨vm, vn, vl, rfl, hO3, hm3⟩
  rw [hre, hrn]
  rw [hrn] at hO3
  have HN := hide (node_in HLD.out.wf hO3)
  have hsmall := HLD.out.small E.length
  have hlens := HLD.out.lens E.length
  have hoa := other_apply HSK.out HLD.out E.length
  have hwn := fun o ho => wrong_not HSK.out E.length (o := o) ho
  clear hO3 hre hrn hl2
  replace HS := hide (HS.out.kept hm3)
  replace HM := hide (HM.out.trans hm3)
  replace HL1 := hide (HL1.out.kept hm3)
  replace B9 := hide (B9.out.mod hm3 id)
  clear hm3
  have HI1 := hide (infoNode (nodeOf D E.length) vm vn vl)
  have HO1 := hide (nodeIn_one HN.out)
  have hzz : 0 ≤ (nodeOf D E.length).size ∧ (nodeOf D E.length).size ≤ 262144 := by
    cases D with
    | file z f => exact HLD.out.wf.1
    | dir R => exact ⟨Int.le_refl _, by show (0 : Int) ≤ 262144; omega⟩
  obtain ⟨n, hn⟩ : ∃ n, n = nodeOf D E.length := ⟨_, rfl⟩
  rw [← hn] at HN HI1 HO1 hck hsmall hlens hoa hzz ⊢
  simp only [← hn] at hwn
  have HSM := hide hsmall
  have HLN := hide hlens
  have HOA := hide hoa
  have HWR := hide hwn
  have HZZ := hide hzz
  clear hn hsmall hlens hoa hwn hzz
  obtain ⟨q1_, hq⟩ : ∃ q, q = w4.heap.size := ⟨_, rfl⟩
  obtain ⟨w5, hw⟩ : ∃ y, y = w4.alloc (.cells (nodeC n vm vn vl) 31) := ⟨_, rfl⟩
  have hm5_ : Mod None_ w4 w5 := by rw [hw]; exact (Mod.refl _ w4).alloc _
  have b2_ := hide (show Blk w5 q1_ 31 (nodeC n vm vn vl) by rw [hw, hq]; exact Blk.new w4 _ _)
  have HW3_ := hide hw
  have HQ4_ := hide hq
  clear hw hq
  replace HS := hide (HS.out.kept hm5_)
  replace HM := hide (HM.out.trans hm5_)
  replace HL1 := hide (HL1.out.kept hm5_)
  replace B9 := hide (B9.out.mod hm5_ id)
  replace HN := hide (HN.out.kept hm5_)
  clear hm5_
  go_upto_region 5 with ((with_reducible refine at_slot 10 ?_); refine wpList_declare rfl rfl 31 10 (.tmp 37) rfl rfl rfl zeroNode (nodeC n vm vn vl) zeroNodeV HI1.out (nodeC_size _ _ _ _) HO1.out (by simp) rfl ?_; go_frame; rw [← HW3_.out, ← HQ4_.out])
  clear HW3_ HQ4_
  have x1 : w5.cell? ⟨q1_, 1, none⟩ = some (.int .i64 kd) := by rw [← hck]; exact b2_.out.cell 1
  go_upto_region 7 with fail
  clear x1 hck
  go_cut [12, 13] from 47 to 53 (fun s12 s13 wx => AfterApply w5 wx zeroN 90 s12 s13)
  case first =>
    have i1 := b2_.out
    have i2 := B9.out
    have hN := HN.out
    have hS := HS.out
    have HI := HI1
    clear HI1
    refine region_sch sigApply (fun w' => Blk w' q1_ 31 (nodeC n vm vn vl) ∧ Blk w' q9 26 (encEntry (otherE dir)).toArray) (by kernel_rfl) (by kernel_rfl) ?_
    rintro wA hwA
    have hmA : Mod None_ w5 wA := by rw [hwA]; exact (Mod.refl _ w5).drew
    replace i1 := i1.mod hmA id
    replace i2 := i2.mod hmA id
    replace hN := hN.kept hmA
    replace hS := hS.kept hmA
    have hMc := hmA
    clear hwA hmA
    refine ⟨⟨i1, i2⟩, ?_⟩
    unfold sigApply
    refine scw_qval rfl rfl (fun w' i => ex_load rfl (run_loadRow i.1 Tryd.underlying31 rfl HI.out)) ?_
    go_frame
    refine scw_qval rfl rfl (fun w' i => ex_load rfl (run_loadRow i.2 Tryd.underlying26 rfl (infoEnt _))) ?_
    go_frame
    refine scw_two ?_ ?_
    · refine scw_loud rfl (fun K hK => ?_)
      go_simp
      refine Calls.mono (lawCopy wA n vm vn vl hN (HSM.out)) ?_
      rintro x wB1 ⟨um, un, ul, rfl, hO1, hm⟩
      have hNc := hO1.in_ hN
      replace i1 := i1.mod hm id
      replace i2 := i2.mod hm id
      replace hN := hN.kept hm
      replace hS := hS.kept hm
      replace hMc := hMc.trans hm
      refine ⟨_, rfl, ⟨i1, i2⟩, hK _ _ ?_⟩
      clear hK K hm hO1
      try go_frame
      refine scw_two ?_ ?_
      · refine scw_loud rfl (fun K hK => ?_)
        go_simp
        refine Calls.mono (apply_any wB1 n um un ul (otherE dir) hS (hNc.at_ (HSM.out)) (by rw [HLN.out.2.2]; exact Nat.zero_le _)) ?_
        rintro x wB2 ⟨xm, xn, xl, rfl, hO2, hm⟩
        rw [HOA.out.1, HOA.out.2]
        rw [HOA.out.2] at hO2
        replace hO2 := own_0 hO2
        replace i1 := i1.mod hm id
        replace i2 := i2.mod hm id
        replace hN := hN.kept hm
        replace hS := hS.kept hm
        replace hMc := hMc.trans hm
        refine ⟨_, rfl, ⟨i1, i2⟩, hK _ _ ?_⟩
        clear hK K hm hNc
        try go_frame
        iterate 3 (refine scw_quiet rfl (fun w' i K hK => by go_simp; exact hK) ?_; go_frame)
        obtain ⟨Q, hQ⟩ : ∃ Q, Q = wB2.heap.size := ⟨_, rfl⟩
        obtain ⟨wB3, hw⟩ : ∃ y, y = wB2.alloc (.cells zeroNode 31) := ⟨_, rfl⟩
        have hm : Mod None_ wB2 wB3 := by rw [hw]; exact (Mod.refl _ wB2).alloc _
        have bQ : Blk wB3 Q 31 zeroNode := by rw [hw, hQ]; exact Blk.new wB2 _ _
        have hQ1 : q1_ < Q := by rw [hQ]; exact i1.lt
        have hQ2 : q9 < Q := by rw [hQ]; exact i2.lt
        have hQ3 : w5.heap.size ≤ Q := by rw [hQ]; exact hMc.size
        replace i1 := i1.mod hm id
        replace i2 := i2.mod hm id
        replace hN := hN.kept hm
        replace hS := hS.kept hm
        replace hMc := hMc.trans hm
        replace hO2 := hO2.kept hm
        refine scw_alloc rfl rfl 31 rfl (.agg zeroNode) zeroNodeV ?_ ?_
        · rw [show (Value.agg zeroNode).cells = zeroNode from rfl, ← hw]; exact ⟨i1, i2⟩
        rw [show (Value.agg zeroNode).cells = zeroNode from rfl, ← hw, ← hQ]
        try go_frame
        clear hw hQ hm
        have HIo := hide (infoNode zeroN xm xn xl)
        have HOo := hide (nodeOwn_one hO2)
        have hms : Mod (· = Q) wB3 (wB3.setRow Q (nodeC zeroN xm xn xl)) := (Mod.refl (· = Q) wB3).setRow (.inr rfl) _
        refine scw_storeRow rfl rfl 31 (.tmp 12) (.tmp 52) rfl Q (nodeC zeroN xm xn xl) rfl rfl 31 zeroNode bQ HIo.out rfl HOo.out ⟨i1.mod hms (by omega), i2.mod hms (by omega)⟩ ?_
        replace hO2 := hO2.store (cs' := (nodeC zeroN xm xn xl)) bQ
        replace bQ := bQ.row (nodeC zeroN xm xn xl)
        replace hMc : Mod None_ w5 (wB3.setRow Q (nodeC zeroN xm xn xl)) := hMc.trans' hms (fun g hg e => by omega)
        obtain ⟨wB4, hw⟩ : ∃ y, y = wB3.setRow Q (nodeC zeroN xm xn xl) := ⟨_, rfl⟩
        rw [← hw] at hO2 bQ hMc ⊢
        try go_frame
        clear hw hms i1 i2 hN hS HIo HOo
        iterate 1 (refine scw_quiet rfl (fun w' i K hK => by go_simp; exact hK) ?_; go_frame)
        refine scw_nil ?_
        go_wp2_with fail
        go_meet
        exact ⟨Q, xm, xn, xl, rfl, rfl, bQ, hO2, hMc⟩
      · obtain ⟨Q, hQ⟩ : ∃ Q, Q = wB1.heap.size := ⟨_, rfl⟩
        obtain ⟨wB2, hw⟩ : ∃ y, y = wB1.alloc (.cells zeroNode 31) := ⟨_, rfl⟩
        have hm : Mod None_ wB1 wB2 := by rw [hw]; exact (Mod.refl _ wB1).alloc _
        have bQ : Blk wB2 Q 31 zeroNode := by rw [hw, hQ]; exact Blk.new wB1 _ _
        have hQ1 : q1_ < Q := by rw [hQ]; exact i1.lt
        have hQ2 : q9 < Q := by rw [hQ]; exact i2.lt
        have hQ3 : w5.heap.size ≤ Q := by rw [hQ]; exact hMc.size
        replace i1 := i1.mod hm id
        replace i2 := i2.mod hm id
        replace hN := hN.kept hm
        replace hS := hS.kept hm
        replace hMc := hMc.trans hm
        replace hNc := hNc.kept hm
        refine scw_alloc rfl rfl 31 rfl (.agg zeroNode) zeroNodeV ?_ ?_
        · rw [show (Value.agg zeroNode).cells = zeroNode from rfl, ← hw]; exact ⟨i1, i2⟩
        rw [show (Value.agg zeroNode).cells = zeroNode from rfl, ← hw, ← hQ]
        try go_frame
        clear hw hQ hm
        refine scw_loud rfl (fun K hK => ?_)
        go_simp
        refine Calls.mono (apply_any wB2 n um un ul (otherE dir) hS (hNc.at_ (HSM.out)) (by rw [HLN.out.2.2]; exact Nat.zero_le _)) ?_
        rintro x wB3 ⟨xm, xn, xl, rfl, hO2, hm⟩
        rw [HOA.out.1, HOA.out.2]
        rw [HOA.out.2] at hO2
        replace hO2 := own_0 hO2
        replace i1 := i1.mod hm id
        replace i2 := i2.mod hm id
        replace hN := hN.kept hm
        replace hS := hS.kept hm
        replace hMc := hMc.trans hm
        replace bQ := bQ.mod hm id
        refine ⟨_, rfl, ⟨i1, i2⟩, hK _ _ ?_⟩
        clear hK K hm hNc
        try go_frame
        iterate 3 (refine scw_quiet rfl (fun w' i K hK => by go_simp; exact hK) ?_; go_frame)
        have HIo := hide (infoNode zeroN xm xn xl)
        have HOo := hide (nodeOwn_one hO2)
        have hms : Mod (· = Q) wB3 (wB3.setRow Q (nodeC zeroN xm xn xl)) := (Mod.refl (· = Q) wB3).setRow (.inr rfl) _
        refine scw_storeRow rfl rfl 31 (.tmp 12) (.tmp 52) rfl Q (nodeC zeroN xm xn xl) rfl rfl 31 zeroNode bQ HIo.out rfl HOo.out ⟨i1.mod hms (by omega), i2.mod hms (by omega)⟩ ?_
        replace hO2 := hO2.store (cs' := (nodeC zeroN xm xn xl)) bQ
        replace bQ := bQ.row (nodeC zeroN xm xn xl)
        replace hMc : Mod None_ w5 (wB3.setRow Q (nodeC zeroN xm xn xl)) := hMc.trans' hms (fun g hg e => by omega)
        obtain ⟨wB4, hw⟩ : ∃ y, y = wB3.setRow Q (nodeC zeroN xm xn xl) := ⟨_, rfl⟩
        rw [← hw] at hO2 bQ hMc ⊢
        try go_frame
        clear hw hms i1 i2 hN hS HIo HOo
        iterate 1 (refine scw_quiet rfl (fun w' i K hK => by go_simp; exact hK) ?_; go_frame)
        refine scw_nil ?_
        go_wp2_with fail
        go_meet
        exact ⟨Q, xm, xn, xl, rfl, rfl, bQ, hO2, hMc⟩
    · obtain ⟨Q, hQ⟩ : ∃ Q, Q = wA.heap.size := ⟨_, rfl⟩
      obtain ⟨wB1, hw⟩ : ∃ y, y = wA.alloc (.cells zeroNode 31) := ⟨_, rfl⟩
      have hm : Mod None_ wA wB1 := by rw [hw]; exact (Mod.refl _ wA).alloc _
      have bQ : Blk wB1 Q 31 zeroNode := by rw [hw, hQ]; exact Blk.new wA _ _
      have hQ1 : q1_ < Q := by rw [hQ]; exact i1.lt
      have hQ2 : q9 < Q := by rw [hQ]; exact i2.lt
      have hQ3 : w5.heap.size ≤ Q := by rw [hQ]; exact hMc.size
      replace i1 := i1.mod hm id
      replace i2 := i2.mod hm id
      replace hN := hN.kept hm
      replace hS := hS.kept hm
      replace hMc := hMc.trans hm
      refine scw_alloc rfl rfl 31 rfl (.agg zeroNode) zeroNodeV ?_ ?_
      · rw [show (Value.agg zeroNode).cells = zeroNode from rfl, ← hw]; exact ⟨i1, i2⟩
      rw [show (Value.agg zeroNode).cells = zeroNode from rfl, ← hw, ← hQ]
      try go_frame
      clear hw hQ hm
      refine scw_loud rfl (fun K hK => ?_)
      go_simp
      refine Calls.mono (lawCopy wB1 n vm vn vl hN (HSM.out)) ?_
      rintro x wB2 ⟨um, un, ul, rfl, hO1, hm⟩
      have hNc := hO1.in_ hN
      replace i1 := i1.mod hm id
      replace i2 := i2.mod hm id
      replace hN := hN.kept hm
      replace hS := hS.kept hm
      replace hMc := hMc.trans hm
      replace bQ := bQ.mod hm id
      refine ⟨_, rfl, ⟨i1, i2⟩, hK _ _ ?_⟩
      clear hK K hm hO1
      try go_frame
      refine scw_loud rfl (fun K hK => ?_)
      go_simp
      refine Calls.mono (apply_any wB2 n um un ul (otherE dir) hS (hNc.at_ (HSM.out)) (by rw [HLN.out.2.2]; exact Nat.zero_le _)) ?_
      rintro x wB3 ⟨xm, xn, xl, rfl, hO2, hm⟩
      rw [HOA.out.1, HOA.out.2]
      rw [HOA.out.2] at hO2
      replace hO2 := own_0 hO2
      replace i1 := i1.mod hm id
      replace i2 := i2.mod hm id
      replace hN := hN.kept hm
      replace hS := hS.kept hm
      replace hMc := hMc.trans hm
      replace bQ := bQ.mod hm id
      refine ⟨_, rfl, ⟨i1, i2⟩, hK _ _ ?_⟩
      clear hK K hm hNc
      try go_frame
      iterate 3 (refine scw_quiet rfl (fun w' i K hK => by go_simp; exact hK) ?_; go_frame)
      have HIo := hide (infoNode zeroN xm xn xl)
      have HOo := hide (nodeOwn_one hO2)
      have hms : Mod (· = Q) wB3 (wB3.setRow Q (nodeC zeroN xm xn xl)) := (Mod.refl (· = Q) wB3).setRow (.inr rfl) _
      refine scw_storeRow rfl rfl 31 (.tmp 12) (.tmp 52) rfl Q (nodeC zeroN xm xn xl) rfl rfl 31 zeroNode bQ HIo.out rfl HOo.out ⟨i1.mod hms (by omega), i2.mod hms (by omega)⟩ ?_
      replace hO2 := hO2.store (cs' := (nodeC zeroN xm xn xl)) bQ
      replace bQ := bQ.row (nodeC zeroN xm xn xl)
      replace hMc : Mod None_ w5 (wB3.setRow Q (nodeC zeroN xm xn xl)) := hMc.trans' hms (fun g hg e => by omega)
      obtain ⟨wB4, hw⟩ : ∃ y, y = wB3.setRow Q (nodeC zeroN xm xn xl) := ⟨_, rfl⟩
      rw [← hw] at hO2 bQ hMc ⊢
      try go_frame
      clear hw hms i1 i2 hN hS HIo HOo
      iterate 1 (refine scw_quiet rfl (fun w' i K hK => by go_simp; exact hK) ?_; go_frame)
      refine scw_nil ?_
      go_wp2_with fail
      go_meet
      exact ⟨Q, xm, xn, xl, rfl, rfl, bQ, hO2, hMc⟩
  obtain ⟨q12, am, an, al, rfl, rfl, b12, hOa, hm⟩ := hcut
  obtain ⟨w6, hwx⟩ : ∃ x, x = wc := ⟨_, rfl⟩
  rw [← hwx] at b12 hOa hm ⊢
  have B12 := hide b12
  have HA := hide (in_zero hOa)
  clear hwx b12 hOa
  replace HS := hide (HS.out.kept hm)
  replace HM := hide (HM.out.trans hm)
  replace HL1 := hide (HL1.out.kept hm)
  replace B9 := hide (B9.out.mod hm id)
  replace HN := hide (HN.out.kept hm)
  replace b2_ := hide (b2_.out.mod hm id)
  clear hm
  go_wp2_with ((with_reducible refine at_slot 55 ?_); refine wpList_val rfl (ex_load rfl (run_loadRow b2_.out Tryd.underlying31 rfl HI1.out)) ?_; go_frame)
  have HCY := hide (lawCopy w6 n vm vn vl HN.out HSM.out)
  refine Calls.mono (HCY.out) ?_
  rintro x w7 ⟨um, un, ul, rfl, hO, hm⟩
  have hNc := hO.in_ HN.out
  clear hO HCY
  replace HS := hide (HS.out.kept hm)
  replace HM := hide (HM.out.trans hm)
  replace HL1 := hide (HL1.out.kept hm)
  replace B9 := hide (B9.out.mod hm id)
  replace HN := hide (HN.out.kept hm)
  replace b2_ := hide (b2_.out.mod hm id)
  replace B12 := hide (B12.out.mod hm id)
  replace HA := hide (HA.out.kept hm)
  clear hm
  go_wp2_with fail
  have HAP := hide (apply_any w7 n um un ul badW HS.out (hNc.at_ HSM.out) (by rw [HLN.out.2.2]; exact Nat.zero_le _))
  refine Calls.mono (HAP.out) ?_
  rintro x w8 ⟨xBm, xBn, xBl, rfl, hO2, hm⟩
  have hap := apply_34 (n := n) badW_not
  rw [hap.1, hap.2]
  rw [hap.2] at hO2
  have HB := hide (in_zero (own_0 hO2))
  have HIB := hide (infoNode zeroN xBm xBn xBl)
  have HOB := hide (nodeOwn_one hO2)
  clear hO2 hap hNc HAP
  replace HS := hide (HS.out.kept hm)
  replace HM := hide (HM.out.trans hm)
  replace HL1 := hide (HL1.out.kept hm)
  replace B9 := hide (B9.out.mod hm id)
  replace HN := hide (HN.out.kept hm)
  replace b2_ := hide (b2_.out.mod hm id)
  replace B12 := hide (B12.out.mod hm id)
  replace HA := hide (HA.out.kept hm)
  clear hm
  obtain ⟨q6_, hq⟩ : ∃ q, q = w8.heap.size := ⟨_, rfl⟩
  obtain ⟨w9, hw⟩ : ∃ y, y = w8.alloc (.cells (nodeC zeroN xBm xBn xBl) 31) := ⟨_, rfl⟩
  have hm10_ : Mod None_ w8 w9 := by rw [hw]; exact (Mod.refl _ w8).alloc _
  have b7_ := hide (show Blk w9 q6_ 31 (nodeC zeroN xBm xBn xBl) by rw [hw, hq]; exact Blk.new w8 _ _)
  have HW8_ := hide hw
  have HQ9_ := hide hq
  clear hw hq
  replace HS := hide (HS.out.kept hm10_)
  replace HM := hide (HM.out.trans hm10_)
  replace HL1 := hide (HL1.out.kept hm10_)
  replace B9 := hide (B9.out.mod hm10_ id)
  replace HN := hide (HN.out.kept hm10_)
  replace b2_ := hide (b2_.out.mod hm10_ id)
  replace B12 := hide (B12.out.mod hm10_ id)
  replace HA := hide (HA.out.kept hm10_)
  replace HB := hide (HB.out.kept hm10_)
  clear hm10_
  go_upto_region 9 with ((with_reducible refine at_slot 14 ?_); refine wpList_declare rfl rfl 31 14 (.tmp 59) rfl rfl rfl zeroNode (nodeC zeroN xBm xBn xBl) zeroNodeV HIB.out (nodeC_size _ _ _ _) HOB.out (by simp) rfl ?_; go_frame; rw [← HW8_.out, ← HQ9_.out])
  clear HW8_ HQ9_
  clear HIB HOB
  go_wp2_with ((with_reducible refine at_slot 62 ?_); refine wpList_val rfl (ex_load rfl (run_loadRow b2_.out Tryd.underlying31 rfl HI1.out)) ?_; go_frame)
  have HCY := hide (lawCopy w9 n vm vn vl HN.out HSM.out)
  refine Calls.mono (HCY.out) ?_
  rintro x w10 ⟨um, un, ul, rfl, hO, hm⟩
  have hNc := hO.in_ HN.out
  clear hO HCY
  replace HS := hide (HS.out.kept hm)
  replace HM := hide (HM.out.trans hm)
  replace HL1 := hide (HL1.out.kept hm)
  replace B9 := hide (B9.out.mod hm id)
  replace HN := hide (HN.out.kept hm)
  replace b2_ := hide (b2_.out.mod hm id)
  replace B12 := hide (B12.out.mod hm id)
  replace HA := hide (HA.out.kept hm)
  replace HB := hide (HB.out.kept hm)
  replace b7_ := hide (b7_.out.mod hm id)
  clear hm
  go_wp2_with fail
  have HAP := hide (apply_any w10 n um un ul badN HS.out (hNc.at_ HSM.out) (by rw [HLN.out.2.2]; exact Nat.zero_le _))
  refine Calls.mono (HAP.out) ?_
  rintro x w11 ⟨xCm, xCn, xCl, rfl, hO2, hm⟩
  have hap := apply_34 (n := n) badN_not
  rw [hap.1, hap.2]
  rw [hap.2] at hO2
  have HC := hide (in_zero (own_0 hO2))
  have HIC := hide (infoNode zeroN xCm xCn xCl)
  have HOC := hide (nodeOwn_one hO2)
  clear hO2 hap hNc HAP
  replace HS := hide (HS.out.kept hm)
  replace HM := hide (HM.out.trans hm)
  replace HL1 := hide (HL1.out.kept hm)
  replace B9 := hide (B9.out.mod hm id)
  replace HN := hide (HN.out.kept hm)
  replace b2_ := hide (b2_.out.mod hm id)
  replace B12 := hide (B12.out.mod hm id)
  replace HA := hide (HA.out.kept hm)
  replace HB := hide (HB.out.kept hm)
  replace b7_ := hide (b7_.out.mod hm id)
  clear hm
  obtain ⟨q11_, hq⟩ : ∃ q, q = w11.heap.size := ⟨_, rfl⟩
  obtain ⟨w12, hw⟩ : ∃ y, y = w11.alloc (.cells (nodeC zeroN xCm xCn xCl) 31) := ⟨_, rfl⟩
  have hm15_ : Mod None_ w11 w12 := by rw [hw]; exact (Mod.refl _ w11).alloc _
  have b12_ := hide (show Blk w12 q11_ 31 (nodeC zeroN xCm xCn xCl) by rw [hw, hq]; exact Blk.new w11 _ _)
  have HW13_ := hide hw
  have HQ14_ := hide hq
  clear hw hq
  replace HS := hide (HS.out.kept hm15_)
  replace HM := hide (HM.out.trans hm15_)
  replace HL1 := hide (HL1.out.kept hm15_)
  replace B9 := hide (B9.out.mod hm15_ id)
  replace HN := hide (HN.out.kept hm15_)
  replace b2_ := hide (b2_.out.mod hm15_ id)
  replace B12 := hide (B12.out.mod hm15_ id)
  replace HA := hide (HA.out.kept hm15_)
  replace HB := hide (HB.out.kept hm15_)
  replace b7_ := hide (b7_.out.mod hm15_ id)
  replace HC := hide (HC.out.kept hm15_)
  clear hm15_
  go_upto_region 10 with ((with_reducible refine at_slot 16 ?_); refine wpList_declare rfl rfl 31 16 (.tmp 66) rfl rfl rfl zeroNode (nodeC zeroN xCm xCn xCl) zeroNodeV HIC.out (nodeC_size _ _ _ _) HOC.out (by simp) rfl ?_; go_frame; rw [← HW13_.out, ← HQ14_.out])
  clear HW13_ HQ14_
  clear HIC HOC
  have hzr := fun w => in_zero (zeroN_own 0 w)
  have z0 : w12.cell? ⟨q12, 0, none⟩ = some (.int .i64 0) := B12.out.cell 0
  have z1 : w12.cell? ⟨q12, 1, none⟩ = some (.int .i64 0) := B12.out.cell 1
  have z2 : w12.cell? ⟨q12, 2, none⟩ = some (.int .i64 0) := B12.out.cell 2
  have z3 : w12.cell? ⟨q12, 3, none⟩ = some (.int .i64 0) := B12.out.cell 3
  have z4 : w12.cell? ⟨q12, 4, none⟩ = some (am) := B12.out.cell 4
  have z5 : w12.cell? ⟨q12, 5, none⟩ = some (an) := B12.out.cell 5
  have z6 : w12.cell? ⟨q12, 6, none⟩ = some (.int .i64 0) := B12.out.cell 6
  have z7 : w12.cell? ⟨q12, 7, none⟩ = some (.int .i64 0) := B12.out.cell 7
  have z8 : w12.cell? ⟨q12, 8, none⟩ = some (al) := B12.out.cell 8
  have z9 : w12.cell? ⟨q12, 9, none⟩ = some (.int .i64 0) := B12.out.cell 9
  go_wp2_with fail
  have HSN := hide (lawSameNode w12 zeroN am an al (.slice none 0 0) (.slice none 0 0) (.slice none 0 0) HA.out (hzr _))
  refine Calls.mono (HSN.out) ?_
  rintro x w13 ⟨rfl, hm⟩
  clear HSN z0 z1 z2 z3 z4 z5 z6 z7 z8 z9
  replace HS := hide (HS.out.kept hm)
  replace HM := hide (HM.out.trans hm)
  replace HL1 := hide (HL1.out.kept hm)
  replace B9 := hide (B9.out.mod hm id)
  replace HN := hide (HN.out.kept hm)
  replace b2_ := hide (b2_.out.mod hm id)
  replace B12 := hide (B12.out.mod hm id)
  replace HA := hide (HA.out.kept hm)
  replace HB := hide (HB.out.kept hm)
  replace b7_ := hide (b7_.out.mod hm id)
  replace HC := hide (HC.out.kept hm)
  replace b12_ := hide (b12_.out.mod hm id)
  clear hm
  have z0 : w13.cell? ⟨q6_, 0, none⟩ = some (.int .i64 0) := b7_.out.cell 0
  have z1 : w13.cell? ⟨q6_, 1, none⟩ = some (.int .i64 0) := b7_.out.cell 1
  have z2 : w13.cell? ⟨q6_, 2, none⟩ = some (.int .i64 0) := b7_.out.cell 2
  have z3 : w13.cell? ⟨q6_, 3, none⟩ = some (.int .i64 0) := b7_.out.cell 3
  have z4 : w13.cell? ⟨q6_, 4, none⟩ = some (xBm) := b7_.out.cell 4
  have z5 : w13.cell? ⟨q6_, 5, none⟩ = some (xBn) := b7_.out.cell 5
  have z6 : w13.cell? ⟨q6_, 6, none⟩ = some (.int .i64 0) := b7_.out.cell 6
  have z7 : w13.cell? ⟨q6_, 7, none⟩ = some (.int .i64 0) := b7_.out.cell 7
  have z8 : w13.cell? ⟨q6_, 8, none⟩ = some (xBl) := b7_.out.cell 8
  have z9 : w13.cell? ⟨q6_, 9, none⟩ = some (.int .i64 0) := b7_.out.cell 9
  go_wp2_with fail
  have HSN := hide (lawSameNode w13 zeroN xBm xBn xBl (.slice none 0 0) (.slice none 0 0) (.slice none 0 0) HB.out (hzr _))
  refine Calls.mono (HSN.out) ?_
  rintro x w14 ⟨rfl, hm⟩
  clear HSN z0 z1 z2 z3 z4 z5 z6 z7 z8 z9
  replace HS := hide (HS.out.kept hm)
  replace HM := hide (HM.out.trans hm)
  replace HL1 := hide (HL1.out.kept hm)
  replace B9 := hide (B9.out.mod hm id)
  replace HN := hide (HN.out.kept hm)
  replace b2_ := hide (b2_.out.mod hm id)
  replace B12 := hide (B12.out.mod hm id)
  replace HA := hide (HA.out.kept hm)
  replace HB := hide (HB.out.kept hm)
  replace b7_ := hide (b7_.out.mod hm id)
  replace HC := hide (HC.out.kept hm)
  replace b12_ := hide (b12_.out.mod hm id)
  clear hm
  have z0 : w14.cell? ⟨q11_, 0, none⟩ = some (.int .i64 0) := b12_.out.cell 0
  have z1 : w14.cell? ⟨q11_, 1, none⟩ = some (.int .i64 0) := b12_.out.cell 1
  have z2 : w14.cell? ⟨q11_, 2, none⟩ = some (.int .i64 0) := b12_.out.cell 2
  have z3 : w14.cell? ⟨q11_, 3, none⟩ = some (.int .i64 0) := b12_.out.cell 3
  have z4 : w14.cell? ⟨q11_, 4, none⟩ = some (xCm) := b12_.out.cell 4
  have z5 : w14.cell? ⟨q11_, 5, none⟩ = some (xCn) := b12_.out.cell 5
  have z6 : w14.cell? ⟨q11_, 6, none⟩ = some (.int .i64 0) := b12_.out.cell 6
  have z7 : w14.cell? ⟨q11_, 7, none⟩ = some (.int .i64 0) := b12_.out.cell 7
  have z8 : w14.cell? ⟨q11_, 8, none⟩ = some (xCl) := b12_.out.cell 8
  have z9 : w14.cell? ⟨q11_, 9, none⟩ = some (.int .i64 0) := b12_.out.cell 9
  go_wp2_with fail
  have HSN := hide (lawSameNode w14 zeroN xCm xCn xCl (.slice none 0 0) (.slice none 0 0) (.slice none 0 0) HC.out (hzr _))
  refine Calls.mono (HSN.out) ?_
  rintro x w15 ⟨rfl, hm⟩
  clear HSN z0 z1 z2 z3 z4 z5 z6 z7 z8 z9
  replace HS := hide (HS.out.kept hm)
  replace HM := hide (HM.out.trans hm)
  replace HL1 := hide (HL1.out.kept hm)
  replace B9 := hide (B9.out.mod hm id)
  replace HN := hide (HN.out.kept hm)
  replace b2_ := hide (b2_.out.mod hm id)
  replace B12 := hide (B12.out.mod hm id)
  replace HA := hide (HA.out.kept hm)
  replace HB := hide (HB.out.kept hm)
  replace b7_ := hide (b7_.out.mod hm id)
  replace HC := hide (HC.out.kept hm)
  replace b12_ := hide (b12_.out.mod hm id)
  clear hm
  clear B12 HA b7_ HB b12_ HC
  have ewo : IntKind.i64.wrap (3 - kd) = 3 - kd := IntWalk.i64_in _ (by have := HKD.out; omega)
  go_wp2_with fail
  have HCE := hide (copyEntries_any w15 _ E HL1.out (by omega))
  refine Calls.mono (HCE.out) ?_
  rintro x w16 ⟨v5, rfl, hown5, hm⟩
  have hl5 := list_of_ownRow (enc := encEntry) (fun _ => rfl) hown5
  clear hown5 HCE
  replace HS := hide (HS.out.kept hm)
  replace HM := hide (HM.out.trans hm)
  replace HL1 := hide (HL1.out.kept hm)
  replace B9 := hide (B9.out.mod hm id)
  replace HN := hide (HN.out.kept hm)
  replace b2_ := hide (b2_.out.mod hm id)
  clear hm
  go_wp2_with fail
  have HRE := hide (replay_any w16 (3 - kd) v5 E HS.out hl5 (by omega))
  refine Calls.mono (HRE.out) ?_
  rintro x w17 ⟨ym, yn, yl, rfl, hO4, hm⟩
  clear HRE hl5
  replace HS := hide (HS.out.kept hm)
  replace HM := hide (HM.out.trans hm)
  replace HL1 := hide (HL1.out.kept hm)
  replace B9 := hide (B9.out.mod hm id)
  replace HN := hide (HN.out.kept hm)
  replace b2_ := hide (b2_.out.mod hm id)
  clear hm
  obtain ⟨yN, hy⟩ : ∃ y, y = replayN (3 - kd) E := ⟨_, rfl⟩
  obtain ⟨er, her⟩ : ∃ er, er = replayErr (3 - kd) E := ⟨_, rfl⟩
  rw [← hy] at hO4 ⊢
  rw [← her] at HOT ⊢
  clear hy her ewo
  have HIy := hide (infoNode yN ym yn yl)
  have HOy := hide (nodeOwn_one hO4)
  clear hO4
  obtain ⟨q16_, hq⟩ : ∃ q, q = w17.heap.size := ⟨_, rfl⟩
  obtain ⟨w18, hw⟩ : ∃ y, y = w17.alloc (.cells (nodeC yN ym yn yl) 31) := ⟨_, rfl⟩
  have hm20_ : Mod None_ w17 w18 := by rw [hw]; exact (Mod.refl _ w17).alloc _
  have b17_ := hide (show Blk w18 q16_ 31 (nodeC yN ym yn yl) by rw [hw, hq]; exact Blk.new w17 _ _)
  have HW18_ := hide hw
  have HQ19_ := hide hq
  clear hw hq
  replace HS := hide (HS.out.kept hm20_)
  replace HM := hide (HM.out.trans hm20_)
  replace HL1 := hide (HL1.out.kept hm20_)
  replace B9 := hide (B9.out.mod hm20_ id)
  replace HN := hide (HN.out.kept hm20_)
  replace b2_ := hide (b2_.out.mod hm20_ id)
  clear hm20_
  go_upto_region 13 with ((with_reducible refine at_slot 18 ?_); refine wpList_declare rfl rfl 31 18 (.tmp 102) rfl rfl rfl zeroNode (nodeC yN ym yn yl) zeroNodeV HIy.out (nodeC_size _ _ _ _) HOy.out (by simp) rfl ?_; go_frame; rw [← HW18_.out, ← HQ19_.out])
  clear HW18_ HQ19_
  clear b17_
  clear HIy HOy
  have hle : ∀ w A (n c : Nat), (Builtin.len_ #[22] 3 #[.slice A n c]).run Tryd.prog w = .ok (.int .i64 n) w := fun w A n c => by simp [Builtin.len_, run_underlying Tryd.underlying22]; rfl
  go_cut [110] from 104 to 110 (fun s wx => s = .bool false ∧ wx = w18)
  case first =>
    by_cases h0 : 0 < E.length
    · have he := HOT.out h0
      have h0i : (0 : Int) < E.length := by omega
      subst he
      clear h0
      go_wp2_with fail
      go_meet
      exact ⟨rfl, rfl⟩
    · have h0i : ¬ (0 : Int) < E.length := by omega
      clear h0
      go_wp2_with fail
      go_meet
      exact ⟨rfl, rfl⟩
  obtain ⟨rfl, hwx⟩ := hcut
  rw [hwx]
  clear hwx HOT
  go_wp2_with ((with_reducible refine at_slot 111 ?_); refine wpList_val rfl (ex_load rfl (run_loadRow b2_.out Tryd.underlying31 rfl HI1.out)) ?_; go_frame)
  have HCY := hide (lawCopy w18 n vm vn vl HN.out HSM.out)
  refine Calls.mono HCY.out ?_
  rintro x wE ⟨mm, mn, ml, rfl, hOm, hmE⟩
  clear HCY
  have hIm := hOm.in_ HN.out
  have HIm := hide (infoNode n mm mn ml)
  have HOm := hide (nodeOwn_one hOm)
  obtain ⟨q20, hq⟩ : ∃ q, q = wE.heap.size := ⟨_, rfl⟩
  obtain ⟨wF, hw⟩ : ∃ y, y = wE.alloc (.cells (nodeC n mm mn ml) 31) := ⟨_, rfl⟩
  have hmF : Mod None_ wE wF := by rw [hw]; exact (Mod.refl _ wE).alloc _
  have b20 : Blk wF q20 31 (nodeC n mm mn ml) := by rw [hw, hq]; exact Blk.new wE _ _
  have hq20 : w18.heap.size ≤ q20 := by have := hmE.size; omega
  have HWF := hide hw
  have HQF := hide hq
  clear hw hq
  replace hOm := hOm.kept hmF
  replace hIm := hIm.kept hmF
  have hmG := hmE.trans hmF
  clear hmE hmF
  go_upto_if 113 with ((with_reducible refine at_slot 20 ?_); refine wpList_declare rfl rfl 31 20 (.tmp 112) rfl rfl rfl zeroNode (nodeC n mm mn ml) zeroNodeV HIm.out (nodeC_size _ _ _ _) HOm.out (by simp) rfl ?_; go_frame; rw [← HWF.out, ← HQF.out])
  clear HWF HQF HIm HOm
  go_cut [114] from 114 to 131 (fun _ wx => WrongAt w18 wx dir n (off % 9) q20)
  case first =>
    have hb10 : Blk wF q1_ 31 (nodeC n vm vn vl) := b2_.out.mod hmG id
    have hqq : q1_ < q20 := by have := b2_.out.lt; omega
    have hbz := hmG.size
    have hln := HLN.out
    have HNI := hide hIm
    clear hIm
    cases dir with
    | true =>
      have g5 : wF.cell? ⟨q20, 5, none⟩ = some mn := b20.cell 5
      have hown := hOm.names
      have HOm := hide hOm
      clear hOm
      go_wp2_with ((with_reducible refine at_slot 118 ?_); refine wpList_append_row encDent 28 51 (.agg #[.string ByteArray.empty, .int .i64 0]) 2 24 Tryd.underlying28 info36 rfl (by decide) (fun _ => rfl) oneDent rfl (.tmp 115) (.tmp 117) rfl wF w18.heap.size mn n.names (⟨#[]⟩, 2) rfl rfl wF.heap.size rfl rfl hown hbz (by unfold maxLen; omega) (by omega) ?_; intro v8 w8 hown8 hm8 hat8; have hM8 := hmG.trans' hm8 (fun g hg e => by have := (own_blk hown e.symm).1; omega); obtain ⟨A8, c8, hv8⟩ := own_slice hown8; subst hv8; have b8 := b20.mod hm8 (fun e => (own_ne hown b20 (by decide) e.symm) rfl); have f8 : w8.frozen? ⟨q20, 5, none⟩ = false := b8.frozen 5; have g8 : w8.cell? ⟨q20, 5, none⟩ = some mn := b8.cell 5; have HD := hide hown8; have HM8 := hide hM8; have HB8 := hide b8; have HMM := hide hm8; clear hown8 hM8 b8 hm8 hat8; go_frame)
      go_meet
      rw [show n.names.length + 1 = (n.names ++ [((⟨#[]⟩ : ByteArray), (2 : Int))]).length from by simp]
      have hs5 : Mod (· = q20) w8 (w8.setCell ⟨q20, 5, none⟩ (.slice A8 (n.names ++ [((⟨#[]⟩ : ByteArray), (2 : Int))]).length c8)) := (Mod.refl (· = q20) w8).setCell (p := ⟨q20, 5, none⟩) (.inr rfl) _
      refine ⟨mm, _, ml, HB8.out.set_ 5 _, ⟨?_, ?_, ?_, HNI.out.runs, HNI.out.kind, HNI.out.size⟩, HM8.out.trans' hs5 (fun k hk e => by omega)⟩
      · exact list_of_ownRow (enc := encRun) (fun _ => rfl) (own_mod (own_mod HOm.out.map HMM.out (fun g hg e => by obtain ⟨_, c1, h1⟩ := own_blk HOm.out.map hg; obtain ⟨_, c2, h2⟩ := own_blk hown e.symm; rw [h1] at h2; simp at h2)) hs5 (fun g hg e => own_ne (own_mod HOm.out.map HMM.out (fun g hg e => by obtain ⟨_, c1, h1⟩ := own_blk HOm.out.map hg; obtain ⟨_, c2, h2⟩ := own_blk hown e.symm; rw [h1] at h2; simp at h2)) HB8.out (by decide) hg e.symm))
      · exact list_of_ownRow (enc := encDent) (fun _ => rfl) (own_mod HD.out hs5 (fun g hg e => own_ne HD.out HB8.out (by decide) hg e.symm))
      · exact list_of_ownRow (enc := encInt) (fun _ => rfl) (own_mod (own_mod HOm.out.log HMM.out (fun g hg e => by obtain ⟨_, c1, h1⟩ := own_blk HOm.out.log hg; obtain ⟨_, c2, h2⟩ := own_blk hown e.symm; rw [h1] at h2; simp at h2)) hs5 (fun g hg e => own_ne (own_mod HOm.out.log HMM.out (fun g hg e => by obtain ⟨_, c1, h1⟩ := own_blk HOm.out.log hg; obtain ⟨_, c2, h2⟩ := own_blk hown e.symm; rw [h1] at h2; simp at h2)) HB8.out (by decide) hg e.symm))
    | false =>
      go_upto_region 18 with fail
      refine region_jxw [(true, 0), (true, 1), (true, 2), (true, 3), (true, 4), (true, 5), (true, 6), (true, 7), (true, 8), (false, 9), (false, 10), (true, 11), (false, 12)] [12] (fun w' => w'.cell? ⟨q1_, 3, none⟩ = some (.int .i64 n.size)) (fun _ w' => w'.cell? ⟨q20, 4, none⟩ = some mm) (by kernel_rfl) (by kernel_rfl) ?_
      rintro wG hwG
      have hm3 : Mod None_ wF wG := by rw [hwG]; exact (Mod.refl _ wF).drew
      replace b20 := b20.mod hm3 id
      replace hb10 := hb10.mod hm3 id
      have hmH := hmG.trans hm3
      replace hOm := hOm.kept hm3
      replace HNI := hide (HNI.out.kept hm3)
      clear hwG hm3 hmG
      replace hbz := hmH.size
      refine ⟨hb10.cell 3, fun _ _ => b20.cell 4, ?_⟩
      obtain ⟨hz0, hz1⟩ := HZZ.out
      have ho9 : 0 ≤ off % 9 ∧ off % 9 < 9 := by omega
      obtain ⟨oo, hoo⟩ : ∃ oo, oo = off % 9 := ⟨_, rfl⟩
      have HMC : Hid (∀ w, Calls Tryd.prog 27 #[.int .i64 off, .int .i64 9] w fun e w' => e = .returned (.int .i64 oo) ∧ w = w') := hide fun w => by rw [hoo]; exact mod_any off 9 w hoff (by omega) (by omega)
      rw [← hoo] at ho9
      have HOO := hide hoo
      clear hoo
      obtain ⟨ho0, ho1⟩ := ho9
      obtain ⟨en, hen⟩ : ∃ en, en = endOf n.size := ⟨_, rfl⟩
      have hen0 : 0 ≤ en ∧ en ≤ 512 := by rw [hen]; unfold endOf; omega
      have HEN := hide hen
      have HEC : Hid (∀ w, Calls Tryd.prog 29 #[.int .i64 n.size] w fun e w' => e = .returned (.int .i64 en) ∧ w = w') := hide fun w => by rw [HEN.out]; exact ends_any n.size w hz0 hz1
      clear hen
      obtain ⟨he0, he1⟩ := hen0
      have ewe : IntKind.i64.wrap (en + oo) = en + oo := IntWalk.i64_in _ (by omega)
      refine jxw_quiet rfl rfl [] (by kernel_rfl) (fun w' i1 i2 K hK => by go_simp; exact hK) ?_
      go_frame
      refine jxw_quiet rfl rfl [12] (by kernel_rfl) (fun w' i1 i2 K hK => by have i3 := i2 12 (by simp); go_simp; exact hK) ?_
      go_frame
      iterate 2 (refine jxw_quiet rfl rfl [] (by kernel_rfl) (fun w' i1 i2 K hK => by go_simp; exact hK) ?_; go_frame)
      refine jxw_quiet rfl rfl [] (by kernel_rfl) (fun w' i1 i2 K hK => by go_simp; exact ⟨_, (HEC.out w').mono fun e w'' h => ⟨h.1, h.2.symm⟩, hK⟩) ?_
      go_frame
      refine jxw_quiet rfl rfl [] (by kernel_rfl) (fun w' i1 i2 K hK => by go_simp; exact hK) ?_
      go_frame
      refine jxw_quiet rfl rfl [] (by kernel_rfl) (fun w' i1 i2 K hK => by go_simp; exact ⟨_, (HMC.out w').mono fun e w'' h => ⟨h.1, h.2.symm⟩, hK⟩) ?_
      go_frame
      iterate 2 (refine jxw_quiet rfl rfl [] (by kernel_rfl) (fun w' i1 i2 K hK => by go_simp; exact hK) ?_; go_frame)
      have hmI : Mod None_ wG (wG.alloc (.cells (encRun (⟨en + oo, 9, 1⟩ : RunD)).toArray 49)) := (Mod.refl _ wG).alloc _
      have hI10 := (hb10.mod hmI id).cell 3
      have hI20 := (b20.mod hmI id).cell 4
      clear hmI
      refine jxw_loud rfl (fun K hK => ?_)
      go_simp
      refine ⟨⟨hI10, fun _ _ _ => hI20⟩, hK _ _ ?_⟩
      clear hK K hI10 hI20
      try go_frame
      have hown := hOm.map
      have HOm := hide hOm
      clear hOm
      refine jxw_append_row encRun 27 49 (.agg #[.int .i64 0, .int .i64 0, .int .i64 0]) 3 24 Tryd.underlying27 infoRun rfl (by decide) (fun _ => rfl) oneRun rfl rfl (.tmp 121) (.tmp 129) rfl wG w18.heap.size mm n.map (⟨en + oo, 9, 1⟩ : RunD) rfl rfl wG.heap.size rfl rfl hown hbz (by unfold maxLen; omega) (by omega) ?_
      intro v8 w8 hown8 hm8 hat8
      have hM8 := hmH.trans' hm8 (fun g hg e => by have := (own_blk hown e.symm).1; omega)
      have b8 := b20.mod hm8 (fun e => (own_ne hown b20 (by decide) e.symm) rfl)
      have b10_8 := hb10.mod hm8 (fun e => (own_ne hown hb10 (by decide) e.symm) rfl)
      obtain ⟨A8, c8, hv8⟩ := own_slice hown8
      subst hv8
      have f8 : w8.frozen? ⟨q20, 4, none⟩ = false := b8.frozen 4
      have g8 : w8.cell? ⟨q20, 4, none⟩ = some mm := b8.cell 4
      refine ⟨⟨b10_8.cell 3, fun _ _ _ => g8⟩, ?_⟩
      try go_frame
      refine jxw_quiet rfl rfl [] (by kernel_rfl) (fun w' i1 i2 K hK => by go_simp; exact hK) ?_
      go_frame
      have hs5 : Mod (· = q20) w8 (w8.setCell ⟨q20, 4, none⟩ (.slice A8 (n.map ++ [(⟨en + oo, 9, 1⟩ : RunD)]).length c8)) := (Mod.refl (· = q20) w8).setCell (p := ⟨q20, 4, none⟩) (.inr rfl) _
      refine jxw_loud rfl (fun K hK => ?_)
      go_simp
      rw [show n.map.length + 1 = (n.map ++ [(⟨en + oo, 9, 1⟩ : RunD)]).length from by simp]
      refine ⟨⟨(b10_8.mod hs5 (by omega)).cell 3, fun d hd hn => absurd (by simp at hd; simp [hd]) hn⟩, hK _ _ ?_⟩
      clear hK K f8 g8
      try go_frame
      refine jxw_nil ?_
      go_wp2_with fail
      go_meet
      have hru : ∀ r ∈ (wrongN false n (off % 9)).map, r.Ok := fun r hr => by
        have hr2 : r ∈ n.map ++ [⟨endOf n.size + off % 9, 9, 1⟩] := hr
        rcases List.mem_append.1 hr2 with h1 | h1
        · exact HNI.out.runs r h1
        · obtain rfl := List.mem_singleton.1 h1
          rw [← HEN.out, ← HOO.out]
          exact ⟨⟨by show -9223372036854775808 ≤ en + oo; omega, by show en + oo ≤ 9223372036854775807; omega⟩, ⟨by show (-9223372036854775808 : Int) ≤ 9; omega, by show (9 : Int) ≤ 9223372036854775807; omega⟩, ⟨by show (-9223372036854775808 : Int) ≤ 1; omega, by show (1 : Int) ≤ 9223372036854775807; omega⟩⟩
      have heq : (wrongN false n (off % 9)).map = n.map ++ [(⟨en + oo, 9, 1⟩ : RunD)] := by show n.map ++ [⟨endOf n.size + off % 9, 9, 1⟩] = _; rw [← HEN.out, ← HOO.out]
      refine ⟨.slice A8 (n.map ++ [(⟨en + oo, 9, 1⟩ : RunD)]).length c8, mn, ml, b8.set_ 4 _, ⟨?_, ?_, ?_, hru, HNI.out.kind, HNI.out.size⟩, hM8.trans' hs5 (fun k hk e => by omega)⟩
      · rw [heq]; exact list_of_ownRow (enc := encRun) (fun _ => rfl) (own_mod hown8 hs5 (fun g hg e => own_ne hown8 b8 (by decide) hg e.symm))
      · exact list_of_ownRow (enc := encDent) (fun _ => rfl) (own_mod (own_mod HOm.out.names hm8 (fun g hg e => by obtain ⟨_, c1, h1⟩ := own_blk HOm.out.names hg; obtain ⟨_, c2, h2⟩ := own_blk hown e.symm; rw [h1] at h2; simp at h2)) hs5 (fun g hg e => own_ne (own_mod HOm.out.names hm8 (fun g hg e => by obtain ⟨_, c1, h1⟩ := own_blk HOm.out.names hg; obtain ⟨_, c2, h2⟩ := own_blk hown e.symm; rw [h1] at h2; simp at h2)) b8 (by decide) hg e.symm))
      · exact list_of_ownRow (enc := encInt) (fun _ => rfl) (own_mod (own_mod HOm.out.log hm8 (fun g hg e => by obtain ⟨_, c1, h1⟩ := own_blk HOm.out.log hg; obtain ⟨_, c2, h2⟩ := own_blk hown e.symm; rw [h1] at h2; simp at h2)) hs5 (fun g hg e => own_ne (own_mod HOm.out.log hm8 (fun g hg e => by obtain ⟨_, c1, h1⟩ := own_blk HOm.out.log hg; obtain ⟨_, c2, h2⟩ := own_blk hown e.symm; rw [h1] at h2; simp at h2)) b8 (by decide) hg e.symm))
  obtain ⟨um, un, ul, bM, hNm, hmM⟩ := hcut
  obtain ⟨w23, hwx⟩ : ∃ x, x = wc := ⟨_, rfl⟩
  rw [← hwx] at bM hNm hmM ⊢
  clear hwx
  have ho9 : 0 ≤ off % 9 := by omega
  have hgm := HWR.out (off % 9) ho9
  have hsm := wrong_small (dir := dir) (o := off % 9) HLN.out
  have hlg : (wrongN dir n (off % 9)).log.length = 0 := by have h0 := HLN.out.2.2; cases dir <;> exact h0
  have hap := apply_bad (sameE_good dir) hgm
  obtain ⟨m, hm⟩ : ∃ m, m = wrongN dir n (off % 9) := ⟨_, rfl⟩
  rw [← hm] at bM hNm hgm hsm hlg hap
  clear hm ho9 hq20
  have BM := hide bM
  have HNM := hide hNm
  have HGM := hide hgm
  have HSMM := hide hsm
  have HLG := hide hlg
  have HAP := hide hap
  have HIM := hide (infoNode m um un ul)
  clear bM hNm hgm hsm hlg hap
  clear b2_ HN HL1 B9
  replace HS := hide (HS.out.kept hmM)
  replace HM := hide (HM.out.trans hmM)
  clear hmM
  go_wp2_with ((with_reducible refine at_slot 133 ?_); refine wpList_val rfl (ex_load rfl (run_loadRow BM.out Tryd.underlying31 rfl HIM.out)) ?_; go_frame)
  have HCA := hide (canon_any w23 m um un ul (HNM.out.at_ HSMM.out))
  refine Calls.mono (HCA.out) ?_
  rintro x w24 ⟨hm, hp⟩
  rw [if_neg (by rw [HGM.out]; decide)] at hp
  subst hp
  clear HCA
  replace HS := hide (HS.out.kept hm)
  replace HM := hide (HM.out.trans hm)
  replace BM := hide (BM.out.mod hm id)
  replace HNM := hide (HNM.out.kept hm)
  clear hm
  go_upto_region 20 with fail
  go_cut [23, 24] from 137 to 143 (fun s23 s24 wx => AfterApply w24 wx zeroN 90 s23 s24)
  case first =>
    have i1 := BM.out
    have hN := HNM.out
    have hS := HS.out
    have HI := HIM
    clear HIM
    refine region_sch sigApply2 (fun w' => Blk w' q20 31 (nodeC m um un ul)) (by kernel_rfl) (by kernel_rfl) ?_
    rintro wA hwA
    have hmA : Mod None_ w24 wA := by rw [hwA]; exact (Mod.refl _ w24).drew
    replace i1 := i1.mod hmA id
    replace hN := hN.kept hmA
    replace hS := hS.kept hmA
    have hMc := hmA
    clear hwA hmA
    refine ⟨i1, ?_⟩
    unfold sigApply2
    refine scw_qval rfl rfl (fun w' i => ex_load rfl (run_loadRow i Tryd.underlying31 rfl HI.out)) ?_
    go_frame
    refine scw_quiet rfl (fun w' i K hK => by go_simp; exact hK) ?_
    go_frame
    refine scw_two ?_ ?_
    · refine scw_loud rfl (fun K hK => ?_)
      go_simp
      refine Calls.mono (entry_own wA dir) ?_
      rintro x wB1 ⟨rfl, hm⟩
      replace i1 := i1.mod hm id
      replace hN := hN.kept hm
      replace hS := hS.kept hm
      replace hMc := hMc.trans hm
      refine ⟨_, rfl, i1, hK _ _ ?_⟩
      clear hK K hm
      try go_frame
      refine scw_two ?_ ?_
      · refine scw_loud rfl (fun K hK => ?_)
        go_simp
        refine Calls.mono (apply_any wB1 m um un ul (sameE dir) hS (hN.at_ (HSMM.out)) (by rw [HLG.out]; exact Nat.zero_le _)) ?_
        rintro x wB2 ⟨xm, xn, xl, rfl, hO2, hm⟩
        rw [HAP.out.1, HAP.out.2]
        rw [HAP.out.2] at hO2
        replace hO2 := own_0 hO2
        replace i1 := i1.mod hm id
        replace hN := hN.kept hm
        replace hS := hS.kept hm
        replace hMc := hMc.trans hm
        refine ⟨_, rfl, i1, hK _ _ ?_⟩
        clear hK K hm
        try go_frame
        iterate 3 (refine scw_quiet rfl (fun w' i K hK => by go_simp; exact hK) ?_; go_frame)
        obtain ⟨Q, hQ⟩ : ∃ Q, Q = wB2.heap.size := ⟨_, rfl⟩
        obtain ⟨wB3, hw⟩ : ∃ y, y = wB2.alloc (.cells zeroNode 31) := ⟨_, rfl⟩
        have hm : Mod None_ wB2 wB3 := by rw [hw]; exact (Mod.refl _ wB2).alloc _
        have bQ : Blk wB3 Q 31 zeroNode := by rw [hw, hQ]; exact Blk.new wB2 _ _
        have hQ1 : q20 < Q := by rw [hQ]; exact i1.lt
        have hQ3 : w24.heap.size ≤ Q := by rw [hQ]; exact hMc.size
        replace i1 := i1.mod hm id
        replace hN := hN.kept hm
        replace hS := hS.kept hm
        replace hMc := hMc.trans hm
        replace hO2 := hO2.kept hm
        refine scw_alloc rfl rfl 31 rfl (.agg zeroNode) zeroNodeV ?_ ?_
        · rw [show (Value.agg zeroNode).cells = zeroNode from rfl, ← hw]; exact i1
        rw [show (Value.agg zeroNode).cells = zeroNode from rfl, ← hw, ← hQ]
        try go_frame
        clear hw hQ hm
        have HIo := hide (infoNode zeroN xm xn xl)
        have HOo := hide (nodeOwn_one hO2)
        have hms : Mod (· = Q) wB3 (wB3.setRow Q (nodeC zeroN xm xn xl)) := (Mod.refl (· = Q) wB3).setRow (.inr rfl) _
        refine scw_storeRow rfl rfl 31 (.tmp 23) (.tmp 142) rfl Q (nodeC zeroN xm xn xl) rfl rfl 31 zeroNode bQ HIo.out rfl HOo.out (i1.mod hms (by omega)) ?_
        replace hO2 := hO2.store (cs' := (nodeC zeroN xm xn xl)) bQ
        replace bQ := bQ.row (nodeC zeroN xm xn xl)
        replace hMc : Mod None_ w24 (wB3.setRow Q (nodeC zeroN xm xn xl)) := hMc.trans' hms (fun g hg e => by omega)
        obtain ⟨wB4, hw⟩ : ∃ y, y = wB3.setRow Q (nodeC zeroN xm xn xl) := ⟨_, rfl⟩
        rw [← hw] at hO2 bQ hMc ⊢
        try go_frame
        clear hw hms i1 hN hS HIo HOo
        iterate 1 (refine scw_quiet rfl (fun w' i K hK => by go_simp; exact hK) ?_; go_frame)
        refine scw_nil ?_
        go_wp2_with fail
        go_meet
        exact ⟨Q, xm, xn, xl, rfl, rfl, bQ, hO2, hMc⟩
      · obtain ⟨Q, hQ⟩ : ∃ Q, Q = wB1.heap.size := ⟨_, rfl⟩
        obtain ⟨wB2, hw⟩ : ∃ y, y = wB1.alloc (.cells zeroNode 31) := ⟨_, rfl⟩
        have hm : Mod None_ wB1 wB2 := by rw [hw]; exact (Mod.refl _ wB1).alloc _
        have bQ : Blk wB2 Q 31 zeroNode := by rw [hw, hQ]; exact Blk.new wB1 _ _
        have hQ1 : q20 < Q := by rw [hQ]; exact i1.lt
        have hQ3 : w24.heap.size ≤ Q := by rw [hQ]; exact hMc.size
        replace i1 := i1.mod hm id
        replace hN := hN.kept hm
        replace hS := hS.kept hm
        replace hMc := hMc.trans hm
        refine scw_alloc rfl rfl 31 rfl (.agg zeroNode) zeroNodeV ?_ ?_
        · rw [show (Value.agg zeroNode).cells = zeroNode from rfl, ← hw]; exact i1
        rw [show (Value.agg zeroNode).cells = zeroNode from rfl, ← hw, ← hQ]
        try go_frame
        clear hw hQ hm
        refine scw_loud rfl (fun K hK => ?_)
        go_simp
        refine Calls.mono (apply_any wB2 m um un ul (sameE dir) hS (hN.at_ (HSMM.out)) (by rw [HLG.out]; exact Nat.zero_le _)) ?_
        rintro x wB3 ⟨xm, xn, xl, rfl, hO2, hm⟩
        rw [HAP.out.1, HAP.out.2]
        rw [HAP.out.2] at hO2
        replace hO2 := own_0 hO2
        replace i1 := i1.mod hm id
        replace hN := hN.kept hm
        replace hS := hS.kept hm
        replace hMc := hMc.trans hm
        replace bQ := bQ.mod hm id
        refine ⟨_, rfl, i1, hK _ _ ?_⟩
        clear hK K hm
        try go_frame
        iterate 3 (refine scw_quiet rfl (fun w' i K hK => by go_simp; exact hK) ?_; go_frame)
        have HIo := hide (infoNode zeroN xm xn xl)
        have HOo := hide (nodeOwn_one hO2)
        have hms : Mod (· = Q) wB3 (wB3.setRow Q (nodeC zeroN xm xn xl)) := (Mod.refl (· = Q) wB3).setRow (.inr rfl) _
        refine scw_storeRow rfl rfl 31 (.tmp 23) (.tmp 142) rfl Q (nodeC zeroN xm xn xl) rfl rfl 31 zeroNode bQ HIo.out rfl HOo.out (i1.mod hms (by omega)) ?_
        replace hO2 := hO2.store (cs' := (nodeC zeroN xm xn xl)) bQ
        replace bQ := bQ.row (nodeC zeroN xm xn xl)
        replace hMc : Mod None_ w24 (wB3.setRow Q (nodeC zeroN xm xn xl)) := hMc.trans' hms (fun g hg e => by omega)
        obtain ⟨wB4, hw⟩ : ∃ y, y = wB3.setRow Q (nodeC zeroN xm xn xl) := ⟨_, rfl⟩
        rw [← hw] at hO2 bQ hMc ⊢
        try go_frame
        clear hw hms i1 hN hS HIo HOo
        iterate 1 (refine scw_quiet rfl (fun w' i K hK => by go_simp; exact hK) ?_; go_frame)
        refine scw_nil ?_
        go_wp2_with fail
        go_meet
        exact ⟨Q, xm, xn, xl, rfl, rfl, bQ, hO2, hMc⟩
    · obtain ⟨Q, hQ⟩ : ∃ Q, Q = wA.heap.size := ⟨_, rfl⟩
      obtain ⟨wB1, hw⟩ : ∃ y, y = wA.alloc (.cells zeroNode 31) := ⟨_, rfl⟩
      have hm : Mod None_ wA wB1 := by rw [hw]; exact (Mod.refl _ wA).alloc _
      have bQ : Blk wB1 Q 31 zeroNode := by rw [hw, hQ]; exact Blk.new wA _ _
      have hQ1 : q20 < Q := by rw [hQ]; exact i1.lt
      have hQ3 : w24.heap.size ≤ Q := by rw [hQ]; exact hMc.size
      replace i1 := i1.mod hm id
      replace hN := hN.kept hm
      replace hS := hS.kept hm
      replace hMc := hMc.trans hm
      refine scw_alloc rfl rfl 31 rfl (.agg zeroNode) zeroNodeV ?_ ?_
      · rw [show (Value.agg zeroNode).cells = zeroNode from rfl, ← hw]; exact i1
      rw [show (Value.agg zeroNode).cells = zeroNode from rfl, ← hw, ← hQ]
      try go_frame
      clear hw hQ hm
      refine scw_loud rfl (fun K hK => ?_)
      go_simp
      refine Calls.mono (entry_own wB1 dir) ?_
      rintro x wB2 ⟨rfl, hm⟩
      replace i1 := i1.mod hm id
      replace hN := hN.kept hm
      replace hS := hS.kept hm
      replace hMc := hMc.trans hm
      replace bQ := bQ.mod hm id
      refine ⟨_, rfl, i1, hK _ _ ?_⟩
      clear hK K hm
      try go_frame
      refine scw_loud rfl (fun K hK => ?_)
      go_simp
      refine Calls.mono (apply_any wB2 m um un ul (sameE dir) hS (hN.at_ (HSMM.out)) (by rw [HLG.out]; exact Nat.zero_le _)) ?_
      rintro x wB3 ⟨xm, xn, xl, rfl, hO2, hm⟩
      rw [HAP.out.1, HAP.out.2]
      rw [HAP.out.2] at hO2
      replace hO2 := own_0 hO2
      replace i1 := i1.mod hm id
      replace hN := hN.kept hm
      replace hS := hS.kept hm
      replace hMc := hMc.trans hm
      replace bQ := bQ.mod hm id
      refine ⟨_, rfl, i1, hK _ _ ?_⟩
      clear hK K hm
      try go_frame
      iterate 3 (refine scw_quiet rfl (fun w' i K hK => by go_simp; exact hK) ?_; go_frame)
      have HIo := hide (infoNode zeroN xm xn xl)
      have HOo := hide (nodeOwn_one hO2)
      have hms : Mod (· = Q) wB3 (wB3.setRow Q (nodeC zeroN xm xn xl)) := (Mod.refl (· = Q) wB3).setRow (.inr rfl) _
      refine scw_storeRow rfl rfl 31 (.tmp 23) (.tmp 142) rfl Q (nodeC zeroN xm xn xl) rfl rfl 31 zeroNode bQ HIo.out rfl HOo.out (i1.mod hms (by omega)) ?_
      replace hO2 := hO2.store (cs' := (nodeC zeroN xm xn xl)) bQ
      replace bQ := bQ.row (nodeC zeroN xm xn xl)
      replace hMc : Mod None_ w24 (wB3.setRow Q (nodeC zeroN xm xn xl)) := hMc.trans' hms (fun g hg e => by omega)
      obtain ⟨wB4, hw⟩ : ∃ y, y = wB3.setRow Q (nodeC zeroN xm xn xl) := ⟨_, rfl⟩
      rw [← hw] at hO2 bQ hMc ⊢
      try go_frame
      clear hw hms i1 hN hS HIo HOo
      iterate 1 (refine scw_quiet rfl (fun w' i K hK => by go_simp; exact hK) ?_; go_frame)
      refine scw_nil ?_
      go_wp2_with fail
      go_meet
      exact ⟨Q, xm, xn, xl, rfl, rfl, bQ, hO2, hMc⟩
  obtain ⟨q23, am, an, al, rfl, rfl, b23, hOa, hm⟩ := hcut
  obtain ⟨w25, hwx⟩ : ∃ x, x = wc := ⟨_, rfl⟩
  rw [← hwx] at b23 hOa hm ⊢
  have B23 := hide b23
  have HA := hide (in_zero hOa)
  clear hwx b23 hOa
  replace HS := hide (HS.out.kept hm)
  replace HM := hide (HM.out.trans hm)
  replace BM := hide (BM.out.mod hm id)
  replace HNM := hide (HNM.out.kept hm)
  clear hm
  have hli : ∀ w A (n c : Nat), (Builtin.len_ #[29] 3 #[.slice A n c]).run Tryd.prog w = .ok (.int .i64 n) w := fun w A n c => by simp [Builtin.len_, run_underlying Tryd.underlying29]; rfl
  have z0 : w25.cell? ⟨q23, 0, none⟩ = some (.int .i64 0) := B23.out.cell 0
  have z1 : w25.cell? ⟨q23, 1, none⟩ = some (.int .i64 0) := B23.out.cell 1
  have z2 : w25.cell? ⟨q23, 2, none⟩ = some (.int .i64 0) := B23.out.cell 2
  have z3 : w25.cell? ⟨q23, 3, none⟩ = some (.int .i64 0) := B23.out.cell 3
  have z4 : w25.cell? ⟨q23, 4, none⟩ = some (am) := B23.out.cell 4
  have z5 : w25.cell? ⟨q23, 5, none⟩ = some (an) := B23.out.cell 5
  have z6 : w25.cell? ⟨q23, 6, none⟩ = some (.int .i64 0) := B23.out.cell 6
  have z7 : w25.cell? ⟨q23, 7, none⟩ = some (.int .i64 0) := B23.out.cell 7
  have z8 : w25.cell? ⟨q23, 8, none⟩ = some (al) := B23.out.cell 8
  have z9 : w25.cell? ⟨q23, 9, none⟩ = some (.int .i64 0) := B23.out.cell 9
  go_wp2_with fail
  have HSN := hide (lawSameNode w25 zeroN am an al (.slice none 0 0) (.slice none 0 0) (.slice none 0 0) HA.out (hzr _))
  refine Calls.mono (HSN.out) ?_
  rintro x w26 ⟨rfl, hm⟩
  clear HSN z0 z1 z2 z3 z4 z5 z6 z7 z8 z9
  replace HS := hide (HS.out.kept hm)
  replace HM := hide (HM.out.trans hm)
  replace BM := hide (BM.out.mod hm id)
  replace HNM := hide (HNM.out.kept hm)
  replace B23 := hide (B23.out.mod hm id)
  replace HA := hide (HA.out.kept hm)
  clear hm
  clear B23 HA
  have z0 : w26.cell? ⟨q20, 0, none⟩ = some (.int .i64 m.ino) := BM.out.cell 0
  have z1 : w26.cell? ⟨q20, 1, none⟩ = some (.int .i64 m.kind) := BM.out.cell 1
  have z2 : w26.cell? ⟨q20, 2, none⟩ = some (.int .i64 m.links) := BM.out.cell 2
  have z3 : w26.cell? ⟨q20, 3, none⟩ = some (.int .i64 m.size) := BM.out.cell 3
  have z4 : w26.cell? ⟨q20, 4, none⟩ = some (um) := BM.out.cell 4
  have z5 : w26.cell? ⟨q20, 5, none⟩ = some (un) := BM.out.cell 5
  have z6 : w26.cell? ⟨q20, 6, none⟩ = some (.int .i64 m.head) := BM.out.cell 6
  have z7 : w26.cell? ⟨q20, 7, none⟩ = some (.int .i64 m.tail) := BM.out.cell 7
  have z8 : w26.cell? ⟨q20, 8, none⟩ = some (ul) := BM.out.cell 8
  have z9 : w26.cell? ⟨q20, 9, none⟩ = some (.int .i64 m.entries) := BM.out.cell 9
  go_wp2_with fail
  have HPA := hide (pages_any w26 m um un ul (HNM.out.at_ HSMM.out))
  refine Calls.mono (HPA.out) ?_
  rintro x w27 ⟨v9, rfl, hpl, hm⟩
  rw [pagesOf_bad (by rw [HGM.out]; decide)] at hpl
  obtain ⟨A9, c9, rfl, _, _, _⟩ := hpl
  have HF := hide (HM.out.trans hm)
  clear hm HPA z0 z1 z2 z3 z4 z5 z6 z7 z8 z9
  go_wp2
  go_ret
  exact ⟨rfl, HF.out⟩
end Go.Proofs.YtabebkffcmajkaaDoor

namespace Go.Proofs.YtabebkffcmajkaaDoor.inodeWrong
open Go.ChangeShapes Go.WideShapes Go.ChangeAt Go.RowKit
open Go.ChangeMaps (open_string shut_string)
set_option linter.unusedVariables false
theorem ownG : ownKnob Tryd.prog.godebug = none := by kernel_rfl
theorem gSteps : Tryd.prog.globalNamed "furrow/codec.steps" = some 0 := by kernel_rfl
theorem gStepsType : (Tryd.prog.globals[0]?).map (·.type) = some 170 := by kernel_rfl
theorem cellsT16 : Tryd.prog.cellsOf 170 = 16 := by kernel_rfl
theorem cellsU32 : Tryd.prog.cellsOf 150 = 1 := by kernel_rfl
theorem steps_tab {W : World} (h : laidMetH Tryd.prog Rows.inodeWrongRow.laid W) : Lib.TabIs Tryd.prog W "furrow/codec.steps" .u32 sumTab :=
  Lib.tabIs_of_head (rest := []) gSteps gStepsType Tryd.underlying170 Tryd.underlying150 cellsU32 cellsT16 h
theorem steps_of {W : World} (h : laidMetH Tryd.prog Rows.inodeWrongRow.laid W) : Steps W := by
  have ht := steps_tab h
  have hc : ∀ i : Nat, i < 16 → W.cell? ⟨0, i, none⟩ = some (.int .u32 (sumTab.getD i 0)) := fun i hi => ht.cell gSteps i hi
  exact ⟨block_lt_of_cell (hc 0 (by omega)), hc⟩
set_option maxRecDepth 100000 in
theorem contract (H : Type) (enc : TypeId × Value → H) (W : World) (base : Nat) (args : Array Value) (ds gs : List (DataW H)) (before : List MemPlace)
    (hval : ∀ (j : Nat) t v, Tryd.f10.params[j]? = some t → args[j]? = some v → Value.okWide Tryd.prog W .any base t v)
    (hW : DataW.Whole enc Tryd.prog Tryd.f10.params.toList Rows.inodeWrongSpec.vars false W args.toList ds gs before) (hL : laidMetH Tryd.prog Rows.inodeWrongRow.laid W) :
    Calls Tryd.prog 10 args W fun e W' => ∃ v, e = .returned v ∧ Rows.inodeWrongSpec.post enc Tryd.prog Tryd.f10 false true false false W args v W' := by
  have hW' := hW
  obtain ⟨p, q, hA0, hV, rfl, hfz, hnd⟩ := hW
  have hA : DataW.TrodAll enc Tryd.prog W 0 (fun _ => true) true Tryd.f10.params.toList args.toList ds p := hA0
  rw [Tryd.params10] at hA hval
  obtain ⟨v0, vs0, d0, ds0, p0, q0, hargs, rfl, rfl, h0, r0⟩ := trodAll_cons hA
  obtain ⟨v1, vs1, d1, ds1, p1, q1, rfl, rfl, rfl, h1, r1⟩ := trodAll_cons r0
  obtain ⟨v2, vs2, d2, ds2, p2, q2, rfl, rfl, rfl, h2, r2⟩ := trodAll_cons r1
  obtain ⟨rfl, rfl, rfl⟩ := trodAll_nil r2
  obtain rfl : args = #[v0, v1, v2] := by cases args; simp_all
  obtain ⟨rfl, rfl⟩ := trodVars_none hV
  obtain ⟨a0, rfl, rfl, rfl⟩ := open_bool Tryd.underlying4 (hval 0 4 v0 rfl rfl) h0
  have k1 := h1
  have lt1 : ∀ x ∈ p1, x.block < W.heap.size := by obtain ⟨m, hm⟩ := k1; exact DataW.trod_lt m _ _ _ hm
  obtain ⟨sa1, sl1, sc1, rfl⟩ := okWide_slice Tryd.underlying38 (hval 1 38 v1 rfl rfl)
  obtain ⟨l1, hl1, hO1⟩ := open_seeds h1 rfl
  obtain ⟨a2, rfl, rfl, rfl, w2⟩ := open_int Tryd.underlying3 (hval 2 3 v2 rfl rfl) h2
  clear hA0
  refine (lawWrong W a0 _ l1 a2 (steps_of hL) hl1 hO1 (i64_of w2)).mono fun e W' ⟨he, hm⟩ => ?_
  subst he
  have bel := hm.below
  exact ⟨_, rfl, _, _, _, [], _, [], hW', trodAll_mk1 (shut_bool Tryd.underlying4 _),
    (trodAll_cons_mk (shut_bool Tryd.underlying4 a0) (trodAll_cons_mk (Below.trod laidOut (by kernel_rfl) (of_decide_eq_true (by kernel_rfl)) k1 bel lt1) (trodAll_cons_mk (shut_int Tryd.underlying3 w2) trodAll_mk0))),
    rfl, bel.frame _, fun h => by cases h⟩
/-- a world for the witness: the settled one, the table (block 0) holding what its initialiser lays -/
noncomputable def laidWorld (os : Os) : World :=
  { World.holding Tryd.prog os ⟨#[], #[], []⟩ with heap := (World.holding Tryd.prog os ⟨#[], #[], []⟩).heap.modify 0 fun
      | .cells _ t frozen => .cells (sumTab.map (Value.int .u32)).toArray t frozen
      | o => o }
theorem laid_met (os : Os) : laidMet Tryd.prog Rows.inodeWrongRow.laid ((laidWorld os).forCall (fun _ _ => 0) ⟨#[], #[.bool false, .slice none 0 0, .int .i64 0], []⟩).memory :=
  laidMet_of_run' 8 (by kernel_rfl) (by kernel_rfl)
theorem reads (os : Os) {H : Type} (enc : TypeId × Value → H) : ∃ places, DataW.whole enc Tryd.prog ((laidWorld os).forCall (fun _ _ => 0) ⟨#[], #[.bool false, .slice none 0 0, .int .i64 0], []⟩).memory Tryd.f10.params.toList Rows.inodeWrongSpec.vars false #[Value.bool false, .slice none 0 0, .int .i64 0].toList 8 = some ([.lit (.bool false), .nil, .lit (.int .i64 0)], [], places) :=
  ⟨[], by kernel_rfl⟩
set_option maxRecDepth 100000 in
theorem lifted (os : Os) (started : os.Started) (H : Type) (enc : TypeId × Value → H) (F : Stop.Interp) :
    ReturnsInHanded {} Tryd.checked os 10 .any ((OpenSpec.ofChange Rows.inodeWrongSpec).preRow enc Tryd.prog Tryd.f10 Rows.inodeWrongRow.domain false Rows.inodeWrongRow.laid) (((OpenSpec.ofChange Rows.inodeWrongSpec).at F).post enc Tryd.prog Tryd.f10 false true false false) := by
  obtain ⟨places, hx⟩ := reads os enc
  refine returnsInHanded_of_row (C := Tryd.checked) (s := OpenSpec.ofChange Rows.inodeWrongSpec) ownG started (by kernel_rfl) Tryd.func10
    (witness_row_at (enc := enc) (C := Tryd.checked) false (laidWorld os) #[.bool false, .slice none 0 0, .int .i64 0] rfl (by kernel_rfl) (by kernel_rfl) (by kernel_rfl)
      (OpenSpec.preRow_of_cond 8 hx (by kernel_rfl) (fun k hk => by cases hk) (by kernel_rfl) (laid_met os))) ?_
  intro W base args ds gs before hval hW _ _ _ hL _ _
  exact contract H enc W base args ds gs before hval hW hL
theorem said : Rows.InodeWrongSaid :=
  OpenClaim.holds_of_cond 10 Tryd.f10 rfl rfl rfl rfl rfl rfl rfl ⟨rfl, rfl, rfl, rfl, rfl⟩ rfl rfl rfl rfl rfl (by kernel_rfl) Tryd.func10 (by kernel_rfl)
    (of_decide_eq_true (by kernel_rfl)) (by unfold Func.isWrapper; first | (rw [if_pos (by decide +kernel)]; kernel_rfl) | (rw [if_neg (by decide +kernel)]; exact ⟨rfl, rfl⟩))
    (fun os started H enc _ F => by rw [OpenClaim.pre_eq_preRow]; exact lifted os started H enc F)
theorem plain (f : FuncId) (fn : Func) (hf : Tryd.pinned.checked.prog.funcNamed "furrow/furrowlaw09.InodeWrong" = some f) (hfn : Tryd.pinned.checked.prog.funcs[f]? = some fn) :
    true = Tryd.pinned.checked.prog.looks [] ∧ ∀ (j : Nat) t, fn.params[j]? = some t → Tryd.pinned.checked.prog.wantsStandIn t = false := by
  obtain rfl : f = 10 := Option.some.inj ((show Tryd.prog.funcNamed "furrow/furrowlaw09.InodeWrong" = some 10 by kernel_rfl).symm.trans hf) |>.symm
  obtain rfl : fn = Tryd.f10 := (Option.some.inj (Tryd.func10.symm.trans hfn)).symm
  refine ⟨by kernel_rfl, fun j t ht => ?_⟩
  rw [Tryd.params10] at ht
  have hm := Array.mem_of_getElem? ht
  simp only [List.mem_toArray, List.mem_cons, List.not_mem_nil, or_false] at hm
  rcases hm with rfl | rfl | rfl
  · exact (show Tryd.prog.wantsStandIn 4 = false by kernel_rfl)
  · exact (show Tryd.prog.wantsStandIn 38 = false by kernel_rfl)
  · exact (show Tryd.prog.wantsStandIn 3 = false by kernel_rfl)
theorem card : Rows.InodeWrongCardSaid :=
  Claim7.holds_tied_plain_at .later [] _ _ _ _ said (fun _ h => by cases h) (by kernel_rfl) (fun _ h => by cases h) inodeWrong_row_tie rfl ⟨rfl, rfl⟩ (by kernel_rfl) rfl plain (by kernel_rfl)
end Go.Proofs.YtabebkffcmajkaaDoor.inodeWrong
namespace Go.Proofs.YtabebkffcmajkaaDoor
theorem inodeWrong_holds : Rows.InodeWrongCardSaid := inodeWrong.card
#print axioms inodeWrong_holds
end Go.Proofs.YtabebkffcmajkaaDoor
