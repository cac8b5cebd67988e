/-
  InodeCanonMeans: for every truth value and list of seeds the law returns true, and its arguments read as they did. (The table of the sums is laid by the program's text.)
-/
import Derived.Test.YtabebkffcmajkaaDoorCards
import Derived.Test.YtabebkffcmajkaaDoorTie
import Derived.WalkKit
import Derived.ProofKit
import Derived.OpenShut
import Derived.ShutString
import Derived.Deep.DeepHandedRow
import Derived.Lib.LaidTab
import Derived.Test.YtabebkffcmajkaaDoorG11
import Derived.Test.YtabebkffcmajkaaDoorG10
import Derived.Test.YtabebkffcmajkaaDoorG6
import Derived.Test.YtabebkffcmajkaaDoorG5
set_option linter.unusedVariables false
set_option linter.unusedSimpArgs false
/-! Plain law: the logs of either kind, their beginnings. -/
namespace Go.Proofs.YtabebkffcmajkaaDoor
open Go.RowKit Go.Maps Go.Shelf

def logOf (dir : Bool) (l : List SeedD) : List EntD := match dir with | true => namedL l | false => writtenL l
def kindOf (dir : Bool) : Int := match dir with | true => 2 | false => 1
theorem kindOf_two (dir : Bool) : kindOf dir = 1 ∨ kindOf dir = 2 := by cases dir <;> simp [kindOf]
theorem logOf_length (dir : Bool) (l : List SeedD) : (logOf dir l).length ≤ 60 := by
  cases dir
  · show (writtenL l).length ≤ 60; rw [writtenL_length]; omega
  · show (namedL l).length ≤ 60; rw [namedL_length]; omega
theorem log_play (dir : Bool) (l : List SeedD) : ∃ D, playD (zeroD (kindOf dir)) (logOf dir l) = (0, D) := by
  cases dir
  · obtain ⟨f, h, _⟩ := written_replay l; exact ⟨_, h⟩
  · obtain ⟨R, nm, h⟩ := named_replay l; exact ⟨_, h.play⟩
theorem play_take {L : List EntD} {D0 D : SenseD} (h : playD D0 L = (0, D)) (k : Nat) : ∃ Dk, playD D0 (L.take k) = (0, Dk) := by
  have hs := playD_stop (L.take k) (L.drop k) D0
  rw [List.take_append_drop, h] at hs
  by_cases h0 : (playD D0 (L.take k)).1 = 0
  · exact ⟨(playD D0 (L.take k)).2, by rw [← h0]⟩
  · exact absurd (hs h0).symm h0
theorem play_at {L : List EntD} {D0 D Dk : SenseD} (h : playD D0 L = (0, D)) {k : Nat} (hk : playD D0 (L.take k) = (0, Dk)) (hl : k < L.length) : stepErr Dk L[k] = 0 ∧ playD D0 (L.take (k + 1)) = (0, onD L[k] Dk) := by
  obtain ⟨D2, h2⟩ := play_take h (k + 1)
  have hs := playD_snoc (L.take k) D0 Dk L[k] hk
  rw [← List.take_succ_eq_append_getElem hl] at hs
  rw [hs] at h2
  by_cases h0 : stepErr Dk L[k] = 0
  · rw [if_pos h0] at hs
    exact ⟨h0, hs⟩
  · rw [if_neg h0, Prod.mk.injEq] at h2
    exact absurd h2.1 h0
theorem play_len : ∀ (L : List EntD) (D0 D : SenseD), playD D0 L = (0, D) → lenD D ≤ lenD D0 + L.length
  | [], D0, D, h => by
    have : D0 = D := by injection h
    subst this
    exact Nat.le_add_right _ _
  | e :: L, D0, D, h => by
    have e1 : playD D0 (e :: L) = if stepErr D0 e = 0 then playD (onD e D0) L else (stepErr D0 e, D0) := rfl
    rw [e1] at h
    by_cases h0 : stepErr D0 e = 0
    · rw [if_pos h0] at h
      have := play_len L _ _ h
      have := lenD_on e D0
      simp only [List.length_cons]; omega
    · rw [if_neg h0, Prod.mk.injEq] at h
      exact absurd h.1 h0
/-- a sense that a log of the laws gives -/
structure LogD (D : SenseD) : Prop where
  wf : WfD D
  fit : FitD D
  len : lenD D ≤ 100
theorem lenD_zero (k : Int) : lenD (zeroD k) = 0 := by
  unfold zeroD
  split <;> rfl
theorem log_ok {k : Int} {L : List EntD} {D : SenseD} (hk : k = 1 ∨ k = 2) (hl : L.length ≤ 60) (h : playD (zeroD k) L = (0, D)) : replayErr k L = 0 ∧ replayN k L = nodeOf D L.length ∧ LogD D := by
  obtain ⟨h1, h2, h3, h4⟩ := replay_ok hk h
  have h5 := play_len L _ _ h
  rw [lenD_zero] at h5
  exact ⟨h1, h2, h3, h4, by omega⟩
theorem LogD.small {D : SenseD} (h : LogD D) (j : Nat) : smallB (nodeOf D j) = true := node_small (by have := h.len; omega)
theorem LogD.apply {D : SenseD} (h : LogD D) {e : EntD} (q : Int) (he : stepErr D e = 0) {j : Nat} (hj : j ≤ 1000000) : applyErr (nodeOf D j) { e with seq := q } = 0 ∧ applyN (nodeOf D j) { e with seq := q } = nodeOf (onD e D) (j + 1) := by
  have he' : stepErr D { e with seq := q } = 0 := by rw [stepErr_seq]; exact he
  refine ⟨by rw [applyErr_node h.wf h.fit, he'], ?_⟩
  rw [applyN_node h.wf h.fit he' hj, onD_seq]
end Go.Proofs.YtabebkffcmajkaaDoor

/-! Plain law: the canonical entries mean the same. -/
namespace Go.Proofs.YtabebkffcmajkaaDoor
open Go.RowKit Go.Maps Go.Shelf

/-! ### pieces -/
theorem runItems_split {o p a b : Int} (ha : 0 ≤ a) (hb : 0 ≤ b) : runItems ⟨o, p, a + b⟩ = runItems ⟨o, p, a⟩ ++ runItems ⟨o + a, p + a, b⟩ := by
  unfold runItems
  show (List.range (a + b).toNat).map _ = (List.range a.toNat).map _ ++ (List.range b.toNat).map _
  rw [show (a + b).toNat = a.toNat + b.toNat by omega, List.range_add, List.map_append, List.map_map]
  congr 1
  refine List.map_congr_left fun i _ => ?_
  show ((o + ((a.toNat + i : Nat) : Int), p + ((a.toNat + i : Nat) : Int)) : Int × Int) = (o + a + (i : Int), p + a + (i : Int))
  rw [Prod.mk.injEq]; omega
structure PieceIn (r p : RunD) : Prop where
  count : 1 ≤ p.count ∧ p.count ≤ 16
  off : r.off ≤ p.off ∧ p.off + p.count ≤ r.off + r.count
  page : p.page - p.off = r.page - r.off
theorem pieces_each : ∀ (k : Nat) (r : RunD), 0 ≤ r.count → ∀ p ∈ pieces k r, PieceIn r p
  | 0, _, _, p, h => by cases h
  | k + 1, r, h0, p, h => by
    unfold pieces at h
    split at h
    · cases h
    · have hc := cut16_pos (c := r.count) (by omega)
      have hc16 : cut16 r.count ≤ 16 := by unfold cut16; split <;> omega
      rcases List.mem_cons.1 h with rfl | h
      · exact ⟨⟨by show 1 ≤ cut16 r.count; omega, hc16⟩, ⟨Int.le_refl _, by show r.off + cut16 r.count ≤ _; omega⟩, rfl⟩
      · have := pieces_each k _ (by show 0 ≤ r.count - cut16 r.count; omega) p h
        obtain ⟨h1, h2, h3⟩ := this
        simp only at h2 h3
        exact ⟨h1, by omega, by omega⟩
theorem pieces_items : ∀ (k : Nat) (r : RunD), 0 ≤ r.count → r.count.toNat ≤ k → (pieces k r).flatMap runItems = runItems r
  | 0, r, h0, hk => by
    have : r.count = 0 := by omega
    obtain ⟨o, p, c⟩ := r
    simp only at this
    subst this
    rfl
  | k + 1, r, h0, hk => by
    unfold pieces
    split
    · have : r.count = 0 := by omega
      obtain ⟨o, p, c⟩ := r
      simp only at this
      subst this
      rfl
    · have hc := cut16_pos (c := r.count) (by omega)
      rw [List.flatMap_cons, pieces_items k _ (by show 0 ≤ r.count - cut16 r.count; omega) (by show (r.count - cut16 r.count).toNat ≤ k; omega)]
      rw [← runItems_split (by omega) (by omega), show cut16 r.count + (r.count - cut16 r.count) = r.count by omega]
theorem pieces_rise : ∀ (k : Nat) (r : RunD), 0 ≤ r.count → (pieces k r).Pairwise fun a b => a.off + a.count ≤ b.off
  | 0, _, _ => .nil
  | k + 1, r, h0 => by
    unfold pieces
    split
    · exact .nil
    · have hc := cut16_pos (c := r.count) (by omega)
      rw [List.pairwise_cons]
      refine ⟨fun b hb => ?_, pieces_rise k _ (by show 0 ≤ r.count - cut16 r.count; omega)⟩
      exact (pieces_each k _ (by show 0 ≤ r.count - cut16 r.count; omega) b hb).off.1
def sumC (l : List RunD) : Int := l.foldl (fun s r => s + r.count) 0
theorem sumC_from (l : List RunD) (s : Int) : l.foldl (fun s r => s + r.count) s = s + sumC l := by
  unfold sumC
  induction l generalizing s with
  | nil => simp
  | cons r l ih => rw [List.foldl_cons, List.foldl_cons, ih, ih (0 + r.count)]; omega
theorem sumC_append (l m : List RunD) : sumC (l ++ m) = sumC l + sumC m := by
  conv => lhs; unfold sumC
  rw [List.foldl_append, sumC_from]; rfl
theorem sumC_cons (r : RunD) (l : List RunD) : sumC (r :: l) = r.count + sumC l := by
  conv => lhs; unfold sumC
  rw [List.foldl_cons, sumC_from]; omega
theorem pieces_sum : ∀ (k : Nat) (r : RunD), 0 ≤ r.count → r.count.toNat ≤ k → sumC (pieces k r) = r.count
  | 0, r, h0, hk => by show (0 : Int) = r.count; omega
  | k + 1, r, h0, hk => by
    unfold pieces
    split
    · show (0 : Int) = r.count; omega
    · have hc := cut16_pos (c := r.count) (by omega)
      rw [sumC_cons, pieces_sum k _ (by show 0 ≤ r.count - cut16 r.count; omega) (by show (r.count - cut16 r.count).toNat ≤ k; omega)]
      show cut16 r.count + (r.count - cut16 r.count) = r.count
      omega
def allPieces (l : List RunD) : List RunD := l.flatMap piecesOf
theorem allPieces_items (l : List RunD) (h : ∀ r ∈ l, 0 ≤ r.count) : (allPieces l).flatMap runItems = l.flatMap runItems := by
  unfold allPieces
  induction l with
  | nil => rfl
  | cons r l ih =>
    rw [List.flatMap_cons, List.flatMap_append, ih fun x hx => h x (by simp [hx]), List.flatMap_cons]
    unfold piecesOf
    rw [pieces_items _ r (h r (by simp)) (Nat.le_refl _)]
theorem allPieces_sum (l : List RunD) (h : ∀ r ∈ l, 0 ≤ r.count) : sumC (allPieces l) = sumC l := by
  unfold allPieces
  induction l with
  | nil => rfl
  | cons r l ih =>
    rw [List.flatMap_cons, sumC_append, ih fun x hx => h x (by simp [hx]), sumC_cons]
    unfold piecesOf
    rw [pieces_sum _ r (h r (by simp)) (Nat.le_refl _)]
theorem allPieces_mem {l : List RunD} (h : ∀ r ∈ l, 0 ≤ r.count) {p : RunD} (hp : p ∈ allPieces l) : ∃ r ∈ l, PieceIn r p := by
  obtain ⟨r, hr, hm⟩ := List.mem_flatMap.1 hp
  exact ⟨r, hr, pieces_each _ r (h r hr) p hm⟩
theorem allPieces_rise {l : List RunD} (h : ∀ r ∈ l, 0 ≤ r.count) (ha : l.Pairwise Apart2) : (allPieces l).Pairwise fun a b => a.off + a.count ≤ b.off := by
  unfold allPieces
  induction l with
  | nil => exact .nil
  | cons r l ih =>
    rw [List.pairwise_cons] at ha
    rw [List.flatMap_cons, List.pairwise_append]
    refine ⟨pieces_rise _ r (h r (by simp)), ih (fun x hx => h x (by simp [hx])) ha.2, fun a ha' b hb => ?_⟩
    have h1 := pieces_each _ r (h r (by simp)) a ha'
    obtain ⟨r2, hr2, h2⟩ := allPieces_mem (l := l) (fun x hx => h x (by simp [hx])) hb
    have := (ha.1 r2 hr2).1
    have := h1.off
    have := h2.off
    omega
theorem mapPages_len (l : List RunD) (h : ∀ r ∈ l, 0 ≤ r.count) : ((mapPages l).length : Int) = sumC l := by
  unfold mapPages
  induction l with
  | nil => rfl
  | cons r l ih =>
    rw [List.flatMap_cons, List.length_append, sumC_cons, ← ih fun x hx => h x (by simp [hx]), pagesN_length]
    have := h r (by simp)
    push_cast; omega
theorem mapSteps_eq (n : NodeD) : mapSteps n = (allPieces n.map).map fun p => .write p n.size := by
  unfold mapSteps allPieces
  rw [List.map_flatMap]
  rfl

/-! ### the entries -/
theorem ents_at : ∀ (l : List StepD) (q : Int) (i : Nat) (h : i < l.length), (entsFrom q l)[i]'(by rw [entsFrom_length]; exact h) = entOf (l[i]'h) (q + i)
  | s :: l, q, 0, _ => by show entOf s q = entOf s (q + 0); rw [Int.add_zero]
  | s :: l, q, i + 1, h => by
    have := ents_at l (q + 1) i (by simpa using h)
    show (entsFrom (q + 1) l)[i]'_ = entOf (l[i]'(by simpa using h)) _
    rw [this]
    congr 1
    push_cast; omega
theorem ents_mem {l : List StepD} {q : Int} {e : EntD} (h : e ∈ entsFrom q l) : ∃ s ∈ l, ∃ q', e = entOf s q' := by
  obtain ⟨i, hi, rfl⟩ := List.getElem_of_mem h
  rw [entsFrom_length] at hi
  exact ⟨l[i], List.getElem_mem hi, _, ents_at l q i hi⟩
/-- a piece's entry may stand in a file's log -/
theorem piece_file {p : RunD} {z q : Int} (hz : 0 ≤ z ∧ z ≤ 262144) (hr : refRun p = true) (hc : p.count ≤ 16) : FileE (entOf (.write p z) q) := by
  have h := (refRun_iff p).1 hr
  obtain ⟨h1, h2, h3, h4, h5, h6, h7⟩ := h
  refine ⟨?_, .inl rfl, hz, ⟨h1, by show p.off ≤ 512; omega⟩, ⟨by show 0 ≤ p.count; omega, hc⟩, ⟨by show 0 ≤ p.page; omega, by show p.page ≤ 1024; omega⟩, fun _ => hr⟩
  unfold goodEnt one seqB noPagesB sizeB noNameB roomB entOf
  simp [wi_iff', empty_toList]
  omega
theorem resize_file' {z q : Int} (hz : 0 ≤ z ∧ z ≤ 262144) : FileE (entOf (.resize z) q) :=
  ⟨file_size_ent hz, .inr rfl, hz, ⟨Int.le_refl _, by show (0 : Int) ≤ 512; omega⟩, ⟨Int.le_refl _, by show (0 : Int) ≤ 16; omega⟩, ⟨Int.le_refl _, by show (0 : Int) ≤ 1024; omega⟩, fun h => by simp [entOf] at h⟩
theorem add_dir {x : ByteArray × Int} {q : Int} (h : goodDent x = true) : DirE (entOf (addOf x) q) := by
  rw [goodDent_iff] at h
  exact ⟨add_good _ _ h.1 h.2, .inl rfl, h.1, ⟨by show 0 ≤ x.2; omega, h.2.2⟩, fun _ => h.2.1, fun h => by simp [entOf, addOf] at h⟩

/-! ### a file's -/
theorem nextF_write {p : RunD} {z q : Int} (hz : 0 ≤ z ∧ z ≤ 262144) (hr : refRun p = true) (hc : p.count ≤ 16) (he : p.off + p.count ≤ endOf z) {g : Nat → Int} (hg : ∀ x : Nat, endOf z ≤ x → g x = 0) : nextF (entOf (.write p z) q) g = setRun g p := by
  funext x
  rw [nextF_at (piece_file hz hr hc), setRun_at g hr]
  show (if endOf z ≤ x then 0 else if (1 : Int) = 1 ∧ p.off ≤ x ∧ (x : Int) < p.off + p.count then p.page + x - p.off else g x) = _
  by_cases hx : endOf z ≤ x
  · rw [if_pos hx, if_neg (by omega), hg x hx]
  · rw [if_neg hx]
    by_cases h2 : p.off ≤ x ∧ (x : Int) < p.off + p.count
    · rw [if_pos ⟨rfl, h2⟩, if_pos h2]; omega
    · rw [if_neg (fun h => h2 h.2), if_neg h2]
theorem playF_writes {z : Int} (hz : 0 ≤ z ∧ z ≤ 262144) : ∀ (P : List RunD) (q : Int) (g : Nat → Int), (∀ p ∈ P, refRun p = true ∧ p.count ≤ 16 ∧ p.off + p.count ≤ endOf z) → (∀ x : Nat, endOf z ≤ x → g x = 0) →
    playF g (entsFrom q (P.map fun p => .write p z)) = P.foldl setRun g
  | [], _, _, _, _ => rfl
  | p :: P, q, g, h, hg => by
    obtain ⟨h1, h2, h3⟩ := h p (by simp)
    show playF (nextF (entOf (.write p z) q) g) (entsFrom (q + 1) (P.map fun p => .write p z)) = P.foldl setRun (setRun g p)
    rw [nextF_write hz h1 h2 h3 hg]
    refine playF_writes hz P _ _ (fun p hp => h p (by simp [hp])) fun x hx => ?_
    rw [setRun_at g h1, if_neg (by omega), hg x hx]
structure CanonMeans (n : NodeD) (k : Int) : Prop where
  good : nodeGood n = true
  play : ∃ D, playD (zeroD k) (canonOf n) = (0, D) ∧ (nodeOf D (canonOf n).length).size = n.size ∧ (nodeOf D (canonOf n).length).map = n.map ∧ (nodeOf D (canonOf n).length).names = n.names
theorem canon_file {z : Int} {f : Nat → Int} {j : Nat} (hw : WfD (.file z f)) (hf : FitD (.file z f)) : CanonMeans (nodeOf (.file z f) j) 1 := by
  refine ⟨node_good hw hf, ?_⟩
  obtain ⟨n, hn⟩ : ∃ n, n = nodeOf (.file z f) j := ⟨_, rfl⟩
  have hmap : n.map = runsT f := by rw [hn, nodeOf_map]
  have hsz : n.size = z := by rw [hn]; rfl
  have hnm : n.names = [] := by rw [hn]; rfl
  rw [← hn]
  have hin := hw.2.inr
  have hr := runs_good hw.2
  have hc0 : ∀ r ∈ n.map, 0 ≤ r.count := fun r h => by rw [hmap] at h; have := (refRun_iff r).1 (hr r h); omega
  have hst : stepsOf n = sizeSteps n := by unfold stepsOf; rw [hnm]; simp
  have hi := (runs_items hin 512 (Nat.le_refl _)).1
  have htab : ∀ x : Nat, x < 512 → (allPieces n.map).foldl setRun (fun _ => 0) x = f x := fun x hx => by
    have hb : ∀ r ∈ allPieces n.map, 0 ≤ r.off ∧ r.off ≤ 100000 ∧ 0 ≤ r.page ∧ r.page ≤ 100000 ∧ 0 ≤ r.count ∧ r.count ≤ 100000 := fun p hp => by
      obtain ⟨r, hrm, h1, h2, h3⟩ := allPieces_mem hc0 hp
      rw [hmap] at hrm
      have := (refRun_iff r).1 (hr r hrm)
      omega
    have e := table_items (allPieces n.map) (fun _ => 0) hb
    rw [allPieces_items _ hc0, hmap] at e
    rw [show (runsT f).flatMap runItems = itemsTo f 512 from hi] at e
    have := congrFun e x
    rw [items_put f 512 x, if_pos hx] at this
    rw [hmap]
    exact this
  have hfin : ∀ g : Nat → Int, (∀ x : Nat, x < 512 → g x = f x) → ∀ q : Nat, (nodeOf (.file z g) q).size = n.size ∧ (nodeOf (.file z g) q).map = n.map ∧ (nodeOf (.file z g) q).names = n.names := fun g hg q => by
    rw [nodeOf_map, hmap, hsz, hnm]
    exact ⟨rfl, runsT_congr hg, rfl⟩
  by_cases h0 : mapSteps n = []
  · have hp : allPieces n.map = [] := by rw [mapSteps_eq, List.map_eq_nil_iff] at h0; exact h0
    rw [hp] at htab
    by_cases hz0 : 0 < n.size
    · have hc : canonOf n = [entOf (.resize z) 1] := by
        unfold canonOf; rw [hst]; unfold sizeSteps; rw [if_pos ⟨h0, hz0⟩, hsz]; rfl
      rw [hc]
      refine ⟨_, play_file _ 0 (fun _ => 0) fun e he => ?_, hfin _ (fun x hx => ?_) _⟩
      · obtain rfl := List.mem_singleton.1 he
        exact resize_file' hw.1
      · rw [← htab x hx]
        show nextF (entOf (.resize z) 1) (fun _ => 0) x = 0
        rw [nextF_at (resize_file' hw.1)]
        split
        · rfl
        · rw [if_neg (fun h => by simp [entOf] at h)]
    · have hc : canonOf n = [] := by
        unfold canonOf; rw [hst]; unfold sizeSteps; rw [if_neg (fun h => hz0 h.2), h0]; rfl
      rw [hc]
      have hz : z = 0 := by have := hw.1; omega
      refine ⟨.file 0 (fun _ => 0), rfl, ?_⟩
      have := hfin (fun _ => 0) (fun x hx => by rw [← htab x hx]; rfl) 0
      rw [hz] at this
      exact this
  · have hc : canonOf n = entsFrom 1 ((allPieces n.map).map fun p => .write p z) := by
      unfold canonOf; rw [hst]; unfold sizeSteps; rw [if_neg (fun h => h0 h.1), mapSteps_eq, hsz]
    have hP : ∀ p ∈ allPieces n.map, refRun p = true ∧ p.count ≤ 16 ∧ p.off + p.count ≤ endOf z := fun p hp => by
      obtain ⟨r, hrm, h1, h2, h3⟩ := allPieces_mem hc0 hp
      rw [hmap] at hrm
      have h4 := (refRun_iff r).1 (hr r hrm)
      have hg := (good_runs (node_good hw hf (j := j))).1
      have he : r.off + r.count ≤ endOf z := by
        have hg2 : refEnd z r = true := by
          have h5 := node_good hw hf (j := j)
          rw [← refGood_eq] at h5
          unfold refGood at h5
          rw [if_pos (show (nodeOf (.file z f) j).kind = 1 from rfl)] at h5
          unfold refFile at h5
          simp only [Bool.and_eq_true] at h5
          have h6 := List.all_eq_true.1 h5.1.2 r (by rw [nodeOf_map]; exact hrm)
          exact h6
        unfold refEnd at hg2
        simp only [Bool.and_eq_true, decide_eq_true_eq] at hg2
        exact hg2.2
      refine ⟨(refRun_iff p).2 ?_, h1.2, by omega⟩
      omega
    have hne : allPieces n.map ≠ [] := fun e => h0 (by rw [mapSteps_eq, e]; rfl)
    have hF : ∀ e ∈ canonOf n, FileE e := fun e he => by
      rw [hc] at he
      obtain ⟨s, hs, q', rfl⟩ := ents_mem he
      obtain ⟨p, hp, rfl⟩ := List.mem_map.1 hs
      obtain ⟨h1, h2, _⟩ := hP p hp
      exact piece_file hw.1 h1 h2
    have hsame : ∀ e ∈ canonOf n, e.size = z := fun e he => by
      rw [hc] at he
      obtain ⟨s, hs, q', rfl⟩ := ents_mem he
      obtain ⟨p, hp, rfl⟩ := List.mem_map.1 hs
      rfl
    have hls : lastSize 0 (canonOf n) = z := by
      unfold lastSize
      have hnn : canonOf n ≠ [] := fun e => by
        have := congrArg List.length e
        rw [hc, entsFrom_length, List.length_map, List.length_nil, List.length_eq_zero_iff] at this
        exact hne this
      rw [List.getLast?_eq_some_getLast hnn]
      exact hsame _ (List.getLast_mem hnn)
    refine ⟨_, play_file _ 0 (fun _ => 0) hF, ?_⟩
    rw [hls]
    refine hfin _ (fun x hx => ?_) _
    rw [hc, playF_writes hw.1 _ _ _ hP (fun _ _ => rfl)]
    exact htab x hx
/-! ### a directory's -/
theorem insRec_last {p : ByteArray × Int} : ∀ {l : List (ByteArray × Int)}, (∀ x ∈ l, strLt x.1 p.1 = true) → insRec p l = l ++ [p]
  | [], _ => rfl
  | x :: l, h => by
    unfold insRec
    rw [if_neg (by rw [strLt_asymm (h x (by simp))]; decide), insRec_last fun y hy => h y (by simp [hy])]
    rfl
theorem play_adds : ∀ (nm l : List (ByteArray × Int)) (q : Int) (R : List Row), DirIs R l → (∀ x ∈ nm, goodDent x = true) → Rises (l ++ nm) → ∃ R', playD (.dir R) (entsFrom q (nm.map addOf)) = (0, .dir R') ∧ DirIs R' (l ++ nm)
  | [], l, q, R, h, _, _ => ⟨R, rfl, by rw [List.append_nil]; exact h⟩
  | x :: nm, l, q, R, h, hg, hr => by
    have he := add_dir (q := q) (hg x (by simp))
    have hlt : ∀ y ∈ l, strLt y.1 x.1 = true := fun y hy => (List.pairwise_append.1 hr).2.2 y hy x (by simp)
    have hno : hadL l x.1 = false := by
      unfold hadL
      rw [List.any_eq_false]
      intro y hy
      simp only [decide_eq_true_eq]
      intro e
      have := hlt y hy
      rw [e, strLt_irrefl] at this
      cases this
    have hok : onOk (entOf (addOf x) q) (.dir R) = true := by
      rw [dir_ok_eq (n := { zeroN with names := l }) h he.good]
      unfold dirOk
      show (!decide ((3 : Int) ≤ 2) && (hadL l x.1 == decide ((3 : Int) = 4))) = true
      rw [hno]; decide
    obtain ⟨R', h1, h2⟩ := dir_next (n := { zeroN with names := l }) h he.good hok
    have hst : stepErr (.dir R) (entOf (addOf x) q) = 0 := by unfold stepErr; rw [if_neg (by rw [he.good]; decide), if_neg (by rw [hok]; decide)]
    have h3 : DirIs R' (l ++ [x]) := by
      unfold dirNames at h2
      rw [if_pos (show (entOf (addOf x) q).kind = 3 from rfl)] at h2
      have e : insL ((entOf (addOf x) q).name, (entOf (addOf x) q).ino) (dropL l (entOf (addOf x) q).name) = l ++ [x] := by
        show insL (x.1, x.2) (dropL l x.1) = _
        rw [dropL_no hno, insL_eq, insRec_last hlt]
      simp only at h2
      rw [e] at h2
      exact h2
    obtain ⟨R'', h4, h5⟩ := play_adds nm (l ++ [x]) (q + 1) R' h3 (fun y hy => hg y (by simp [hy])) (by rw [List.append_assoc]; exact hr)
    refine ⟨R'', ?_, by rw [List.append_assoc] at h5; exact h5⟩
    show (if stepErr (.dir R) (entOf (addOf x) q) = 0 then playD (onD (entOf (addOf x) q) (.dir R)) (entsFrom (q + 1) (nm.map addOf)) else _) = _
    rw [if_pos hst, h1, h4]
theorem canon_dir_eq {R : List Row} {nm : List (ByteArray × Int)} {j : Nat} (h : DirIs R nm) : canonOf (nodeOf (.dir R) j) = entsFrom 1 (nm.map addOf) := by
  unfold canonOf stepsOf sizeSteps
  have hn : (nodeOf (.dir R) j).names = nm := h.names
  have hm : mapSteps (nodeOf (.dir R) j) = [] := rfl
  rw [hm, hn, if_neg (fun h => by have h2 : (0 : Int) < 0 := h.2; omega)]
  rfl
theorem canon_dir {R : List Row} {j : Nat} (hw : WfD (.dir R)) : CanonMeans (nodeOf (.dir R) j) 2 := by
  refine ⟨node_good hw trivial, ?_⟩
  obtain ⟨nm, h⟩ := hw
  rw [canon_dir_eq h]
  obtain ⟨R', h1, h2⟩ := play_adds nm [] 1 [] ⟨.refl _, (fun _ h => by cases h), List.Pairwise.nil⟩ h.good h.rises
  refine ⟨.dir R', h1, rfl, rfl, ?_⟩
  show namesOf R' = namesOf R
  rw [h2.names, h.names]; rfl
end Go.Proofs.YtabebkffcmajkaaDoor

/-! Plain law: what InodeCanonMeans asks of the canonical entries. -/
namespace Go.Proofs.YtabebkffcmajkaaDoor
open Go.RowKit Go.Maps Go.Shelf

theorem canon_congr {n m : NodeD} (h1 : n.size = m.size) (h2 : n.map = m.map) (h3 : n.names = m.names) : canonOf n = canonOf m := by
  unfold canonOf stepsOf sizeSteps mapSteps
  rw [h1, h2, h3]
def sumE (s : Int) (L : List EntD) : Int := L.foldl (fun s e => s + e.count) s
theorem sumE_ents (z : Int) : ∀ (P : List RunD) (q s : Int), sumE s (entsFrom q (P.map fun p => .write p z)) = s + sumC P
  | [], _, s => by show s = s + 0; omega
  | p :: P, q, s => by
    show sumE (s + p.count) (entsFrom (q + 1) (P.map fun p => .write p z)) = s + sumC (p :: P)
    rw [sumE_ents z P, sumC_cons]; omega
theorem sumE_take {L : List EntD} {k : Nat} (h : k < L.length) : sumE 0 (L.take (k + 1)) = sumE 0 (L.take k) + L[k].count := by
  rw [List.take_succ_eq_append_getElem h]
  unfold sumE
  rw [List.foldl_append]; rfl
theorem sumE_bound : ∀ (L : List EntD) (s : Int), (∀ e ∈ L, 0 ≤ e.count ∧ e.count ≤ 16) → s ≤ sumE s L ∧ sumE s L ≤ s + 16 * L.length
  | [], s, _ => by show s ≤ s ∧ s ≤ s + 16 * ((0 : Nat) : Int); omega
  | e :: L, s, h => by
    have h1 := sumE_bound L (s + e.count) fun x hx => h x (by simp [hx])
    have h2 := h e (by simp)
    have e1 : sumE s (e :: L) = sumE (s + e.count) L := rfl
    rw [e1, List.length_cons]
    push_cast; omega
structure CanonE (dir : Bool) (n : NodeD) (C : List EntD) : Prop where
  each : ∀ (i : Nat) (h : i < C.length), C[i].seq = i + 1 ∧ C[i].size = n.size ∧ (0 ≤ C[i].count ∧ C[i].count ≤ 16) ∧ (0 ≤ C[i].off ∧ C[i].off ≤ 512)
  rise : dir = false → ∀ (i : Nat) (h : i + 1 < C.length), (C[i]'(by omega)).off + (C[i]'(by omega)).count ≤ C[i + 1].off
structure CanonL (dir : Bool) (n : NodeD) (C : List EntD) (D2 : SenseD) : Prop where
  kind : n.kind = kindOf dir
  size : 0 ≤ n.size ∧ n.size ≤ 262144
  good : nodeGood n = true
  eq : C = canonOf n
  play : playD (zeroD (kindOf dir)) C = (0, D2)
  size2 : (nodeOf D2 C.length).size = n.size
  map2 : (nodeOf D2 C.length).map = n.map
  names2 : (nodeOf D2 C.length).names = n.names
  same : canonOf (nodeOf D2 C.length) = C
  good2 : nodeGood (nodeOf D2 C.length) = true
  wf2 : WfD D2
  small2 : smallB (nodeOf D2 C.length) = true
  len : C.length ≤ 300000
  ents : CanonE dir n C
  dirLen : dir = true → C.length = n.names.length
  pages : dir = false → ((pagesOf n).length : Int) = sumE 0 C
theorem canonE_writes {n : NodeD} {P : List RunD} (hz : ∀ p ∈ P, 1 ≤ p.count ∧ p.count ≤ 16 ∧ 0 ≤ p.off ∧ p.off + p.count ≤ 512) (hr : P.Pairwise fun a b => a.off + a.count ≤ b.off) : CanonE false n (entsFrom 1 (P.map fun p => .write p n.size)) := by
  have hl : (entsFrom 1 (P.map fun p => StepD.write p n.size)).length = P.length := by rw [entsFrom_length, List.length_map]
  have hat : ∀ (i : Nat) (h : i < P.length), (entsFrom 1 (P.map fun p => StepD.write p n.size))[i]'(by omega) = entOf (.write P[i] n.size) (1 + i) := fun i h => by
    have := ents_at (P.map fun p => StepD.write p n.size) 1 i (by rw [List.length_map]; exact h)
    rw [this, List.getElem_map]
  refine ⟨fun i h => ?_, fun _ i h => ?_⟩
  · have hi : i < P.length := by omega
    rw [hat i hi]
    have := hz _ (List.getElem_mem hi)
    refine ⟨?_, rfl, ⟨by show 0 ≤ P[i].count; omega, by show P[i].count ≤ 16; omega⟩, ⟨by show 0 ≤ P[i].off; omega, by show P[i].off ≤ 512; omega⟩⟩
    show (1 : Int) + i = i + 1
    omega
  · have hi : i + 1 < P.length := by omega
    rw [hat i (by omega), hat (i + 1) hi]
    exact (List.pairwise_iff_getElem.1 hr) i (i + 1) (by omega) hi (by omega)
theorem small_of {D : SenseD} {j : Nat} {n : NodeD} (h2 : (nodeOf D j).map = n.map) (h3 : (nodeOf D j).names = n.names) (hs : smallB n = true) : smallB (nodeOf D j) = true := by
  simp only [smallB, Bool.and_eq_true, decide_eq_true_eq] at hs ⊢
  rw [h2, h3]
  exact ⟨hs.1, hs.2.1, Nat.zero_le _⟩
theorem canonL_file (l : List SeedD) : ∃ D D2, playD (zeroD 1) (writtenL l) = (0, D) ∧ LogD D ∧ CanonL false (nodeOf D (writtenL l).length) (canonOf (nodeOf D (writtenL l).length)) D2 := by
  obtain ⟨f, hp, _⟩ := written_replay l
  have hp' : playD (zeroD 1) (writtenL l) = (0, .file (lastSize 0 (writtenL l)) f) := hp
  obtain ⟨_, _, hL⟩ := log_ok (k := 1) (.inl rfl) (by have := writtenL_length l; omega) hp'
  obtain ⟨z, hz⟩ : ∃ z, z = lastSize 0 (writtenL l) := ⟨_, rfl⟩
  rw [← hz] at hp' hL
  obtain ⟨j, hj⟩ : ∃ j, j = (writtenL l).length := ⟨_, rfl⟩
  rw [← hj]
  have hC := canon_file (j := j) hL.wf hL.fit
  obtain ⟨hg, D2, hpl, h1, h2, h3⟩ := hC
  have hw2 := play_fit (canonOf (nodeOf (.file z f) j)) (zeroD 1) (wf_zero 1) (fit_zero 1) (by rw [hpl])
  rw [hpl] at hw2
  have hr := runs_good hL.wf.2
  have hmap : (nodeOf (.file z f) j).map = runsT f := nodeOf_map z f j
  have hc0 : ∀ r ∈ (nodeOf (.file z f) j).map, 0 ≤ r.count := fun r h => by rw [hmap] at h; have := (refRun_iff r).1 (hr r h); omega
  have hsm := hL.small j
  have hlen : (canonOf (nodeOf (.file z f) j)).length ≤ 300000 := by
    unfold canonOf
    rw [entsFrom_length]
    obtain ⟨g1, g2⟩ := good_tame hg
    have := stepsOf_length g2 g1
    have hn : (nodeOf (.file z f) j).names = [] := rfl
    rw [hn] at this
    simp only [List.length_nil] at this
    omega
  have hst : stepsOf (nodeOf (.file z f) j) = sizeSteps (nodeOf (.file z f) j) := by
    unfold stepsOf
    rw [show (nodeOf (.file z f) j).names = [] from rfl]; simp
  have hP : ∀ p ∈ allPieces (nodeOf (.file z f) j).map, 1 ≤ p.count ∧ p.count ≤ 16 ∧ 0 ≤ p.off ∧ p.off + p.count ≤ 512 := fun p hp => by
    obtain ⟨r, hrm, g1, g2, g3⟩ := allPieces_mem hc0 hp
    rw [hmap] at hrm
    have := (refRun_iff r).1 (hr r hrm)
    omega
  have hE : CanonE false (nodeOf (.file z f) j) (canonOf (nodeOf (.file z f) j)) ∧ ((pagesOf (nodeOf (.file z f) j)).length : Int) = sumE 0 (canonOf (nodeOf (.file z f) j)) := by
    have hpg : ((pagesOf (nodeOf (.file z f) j)).length : Int) = sumC (allPieces (nodeOf (.file z f) j).map) := by
      rw [pagesOf_good hg, mapPages_len _ hc0, allPieces_sum _ hc0]
    by_cases h0 : mapSteps (nodeOf (.file z f) j) = [] ∧ 0 < (nodeOf (.file z f) j).size
    · have hc : canonOf (nodeOf (.file z f) j) = [entOf (.resize (nodeOf (.file z f) j).size) 1] := by
        unfold canonOf; rw [hst]; unfold sizeSteps; rw [if_pos h0]; rfl
      have hp0 : allPieces (nodeOf (.file z f) j).map = [] := by have := h0.1; rw [mapSteps_eq, List.map_eq_nil_iff] at this; exact this
      rw [hpg, hp0, hc]
      refine ⟨⟨fun i h => ?_, fun _ i h => by simp at h⟩, rfl⟩
      have : i = 0 := by simpa using h
      subst this
      exact ⟨rfl, rfl, ⟨Int.le_refl _, by show (0 : Int) ≤ 16; omega⟩, ⟨Int.le_refl _, by show (0 : Int) ≤ 512; omega⟩⟩
    · have hc : canonOf (nodeOf (.file z f) j) = entsFrom 1 ((allPieces (nodeOf (.file z f) j).map).map fun p => .write p (nodeOf (.file z f) j).size) := by
        unfold canonOf; rw [hst]; unfold sizeSteps; rw [if_neg h0, mapSteps_eq]
      rw [hpg, hc]
      refine ⟨canonE_writes hP (allPieces_rise hc0 (by rw [hmap]; exact (runs_sep hL.wf.2.inr 512 (Nat.le_refl _)).apart)), ?_⟩
      rw [sumE_ents]; omega
  refine ⟨_, D2, hp', hL, rfl, hL.wf.1, hg, rfl, hpl, h1, h2, h3, canon_congr h1 h2 h3, node_good hw2.1 hw2.2, hw2.1, small_of h2 h3 hsm, hlen, hE.1, (fun h => by cases h), fun _ => hE.2⟩
theorem canonL_dir (l : List SeedD) : ∃ D D2, playD (zeroD 2) (namedL l) = (0, D) ∧ LogD D ∧ CanonL true (nodeOf D (namedL l).length) (canonOf (nodeOf D (namedL l).length)) D2 := by
  obtain ⟨R, nm, hD⟩ := named_replay l
  have hp' : playD (zeroD 2) (namedL l) = (0, .dir R) := hD.play
  obtain ⟨_, _, hL⟩ := log_ok (k := 2) (.inr rfl) (by have := namedL_length l; omega) hp'
  obtain ⟨j, hj⟩ : ∃ j, j = (namedL l).length := ⟨_, rfl⟩
  have hnl : nm.length ≤ 60 := by have := hD.len; have := namedL_length l; omega
  rw [← hj]
  have hC := canon_dir (j := j) hL.wf
  obtain ⟨hg, D2, hpl, h1, h2, h3⟩ := hC
  have hw2 := play_fit (canonOf (nodeOf (.dir R) j)) (zeroD 2) (wf_zero 2) (fit_zero 2) (by rw [hpl])
  rw [hpl] at hw2
  have hc := canon_dir_eq (j := j) hD.is
  have hcl : (canonOf (nodeOf (.dir R) j)).length = nm.length := by rw [hc, entsFrom_length, List.length_map]
  have hn : (nodeOf (.dir R) j).names = nm := hD.is.names
  refine ⟨_, D2, hp', hL, rfl, ⟨Int.le_refl _, by show (0 : Int) ≤ 262144; omega⟩, hg, rfl, hpl, h1, h2, h3, canon_congr h1 h2 h3, node_good hw2.1 hw2.2, hw2.1, small_of h2 h3 (hL.small j), by omega, ⟨fun i h => ?_, fun h => by cases h⟩, (fun _ => by rw [hcl, hn]), fun h => by cases h⟩
  have hi : i < (nm.map addOf).length := by rw [List.length_map]; omega
  have hat := ents_at (nm.map addOf) 1 i hi
  have e : (canonOf (nodeOf (.dir R) j))[i] = entOf ((nm.map addOf)[i]) (1 + i) := by
    rw [← hat]
    congr 1
  rw [e, List.getElem_map]
  refine ⟨?_, rfl, ⟨Int.le_refl _, by show (0 : Int) ≤ 16; omega⟩, ⟨Int.le_refl _, by show (0 : Int) ≤ 512; omega⟩⟩
  show (1 : Int) + i = i + 1
  omega
theorem canonL_log (dir : Bool) (l : List SeedD) : ∃ D D2, playD (zeroD (kindOf dir)) (logOf dir l) = (0, D) ∧ LogD D ∧ CanonL dir (nodeOf D (logOf dir l).length) (canonOf (nodeOf D (logOf dir l).length)) D2 := by
  cases dir
  · exact canonL_file l
  · exact canonL_dir l
end Go.Proofs.YtabebkffcmajkaaDoor

/-! What is alike in the laws over logs of either kind. -/
namespace Go.Proofs.YtabebkffcmajkaaDoor
open Go.RowKit Go.Maps Go.Shelf

theorem LogD.in_ {D : SenseD} (h : LogD D) {j : Nat} {b : Nat} {w : World} {vm vn vl : Value} (ho : NodeOwn b w (nodeOf D j) vm vn vl) : NodeIn w (nodeOf D j) vm vn vl := node_in h.wf ho
end Go.Proofs.YtabebkffcmajkaaDoor

/-! Law walk: InodeCanonMeans. (Printed by mk_LM1.py.) -/
namespace Go.Proofs.YtabebkffcmajkaaDoor
open Go.RowKit Go.Maps Go.Shelf
attribute [local go_sem] quietV loudUpon Oper.semAt_some

theorem pred_cast {k : Nat} (h : 0 < k) (h2 : k ≤ 1000000) : IntKind.i64.wrap ((k : Int) - 1) = ((k - 1 : Nat) : Int) := by rw [IntWalk.i64_in _ (by omega)]; omega
theorem sum_small {a b : Int} (h1 : 0 ≤ a ∧ a ≤ 512) (h2 : 0 ≤ b ∧ b ≤ 16) : IntKind.i64.wrap (a + b) = a + b := IntWalk.i64_in _ (by omega)

set_option maxRecDepth 100000 in
set_option maxHeartbeats 8000000 in
theorem lawCanonMeans (w : World) (dir : Bool) (v : Value) (l : List SeedD) (hs : Steps w) (h : ListAt encSeed 6 w v l) (hO : ∀ x ∈ l, x.Ok) : Calls Tryd.prog 9 #[.bool dir, v] w (BoolPost w true) := by
  have hv1 : v.oneCell' = true := by obtain ⟨A, c, rfl, _⟩ := h; rfl
  have HW := hide (written_any w v l h hO)
  have HWN := hide (fun w1 hm => named_any w1 v l (ListAt.kept h hm) hO)
  have HS := hide hs
  clear h hO hs
  go_enter Tryd.func9, Tryd.ntmps9
  go_wp2_with fail
  refine Calls.mono (HW.out) ?_
  rintro x w1 ⟨v1, rfl, hown1, hM⟩
  replace HS := hide (HS.out.kept hM)
  have HWN1 := hide (HWN.out w1 hM)
  have HM1 := hide hM
  clear HWN HW
  go_upto_if 19 with fail
  go_cut [5, 6] from 19 to 21 (fun s9 s10 wx => s9 = .int .i64 (kindOf dir) ∧ OwnE w wx s10 (logOf dir l) ∧ Mod None_ w1 wx)
  case first =>
    cases dir with
    | false =>
      go_wp2_with fail
      go_meet
      exact ⟨rfl, hown1, Mod.refl _ _⟩
    | true =>
      go_wp2_with fail
      refine Calls.mono HWN1.out ?_
      rintro x w2 ⟨v2, rfl, hown2, hm2⟩
      have hsz := HM1.out.size
      have HO2 : Hid (OwnE w w2 v2 (namedL l)) := hide (own_base hown2 hsz)
      clear hown2 hown1
      go_wp2_with fail
      go_meet
      exact ⟨rfl, HO2.out, hm2⟩
  obtain ⟨rfl, hown, hm⟩ := hcut
  clear hown1 HWN1
  have HM := hide (HM1.out.trans hm)
  replace HS := hide (HS.out.kept hm)
  clear hm HM1
  obtain ⟨D, D2, hpl, _, hCL⟩ := canonL_log dir l
  have hl60 := logOf_length dir l
  have hkd := kindOf_two dir
  obtain ⟨hre, hrn, hLD⟩ := log_ok hkd hl60 hpl
  obtain ⟨w2, hw2⟩ : ∃ x, x = wc := ⟨_, rfl⟩
  rw [← hw2] at HM HS hown ⊢
  clear hw2
  obtain ⟨kd, hkde⟩ : ∃ kd, kd = kindOf dir := ⟨_, rfl⟩
  have hck := hCL.kind
  have hcp := hCL.play
  rw [← hkde] at hpl hre hrn hkd hck hcp ⊢
  obtain ⟨E, hE⟩ : ∃ E, E = logOf dir l := ⟨_, rfl⟩
  rw [← hE] at hown hpl hl60 hre hrn hCL hck hcp
  clear hkde hE
  obtain ⟨A1, c1, rfl⟩ := own_slice hown
  have hl1 := list_of_ownRow (enc := encEntry) (fun _ => rfl) hown
  have HL1 := hide hl1
  have HLD := hide hLD
  have HKD := hide hkd
  have HCL := hide hCL
  clear hown hl1 hpl hLD hkd hCL
  go_wp2_with fail
  refine Calls.mono (copyEntries_any w2 _ E HL1.out (by omega)) ?_
  rintro x w3 ⟨v2, rfl, hown2, hm2⟩
  have hl2 := list_of_ownRow (enc := encEntry) (fun _ => rfl) hown2
  clear hown2
  replace HS := hide (HS.out.kept hm2)
  replace HM := hide (HM.out.trans hm2)
  replace HL1 := hide (HL1.out.kept hm2)
  clear hm2
  go_wp2_with fail
  refine Calls.mono (replay_any w3 kd v2 E HS.out hl2 (by omega)) ?_
  rintro x w4 ⟨vm, vn, vl, rfl, hO3, hm3⟩
  rw [hre, hrn]
  rw [hrn] at hO3
  have HN := hide (node_in HLD.out.wf hO3)
  have hnw := hO3.names
  have hsmall := HLD.out.small E.length
  clear hO3 hre hrn hl2
  replace HS := hide (HS.out.kept hm3)
  replace HM := hide (HM.out.trans hm3)
  replace HL1 := hide (HL1.out.kept hm3)
  clear hm3
  have HI1 := hide (infoNode (nodeOf D E.length) vm vn vl)
  have HO1 := hide (nodeIn_one HN.out)
  obtain ⟨n, hn⟩ : ∃ n, n = nodeOf D E.length := ⟨_, rfl⟩
  have n9 : n.entries = E.length := by rw [hn]; rfl
  have hlog : n.log.length = 0 := by rw [hn]; rfl
  rw [← hn] at HN HI1 HO1 HCL hck hcp hnw hsmall ⊢
  obtain ⟨An, cn, rfl⟩ := own_slice hnw
  have HSM := hide hsmall
  clear hn hnw hsmall
  obtain ⟨C, hC⟩ : ∃ C, C = canonOf n := ⟨_, rfl⟩
  rw [← hC] at HCL hcp
  have HC := hide hC
  have HCP := hide hcp
  clear hC hcp
  obtain ⟨q1_, hq⟩ : ∃ q, q = w4.heap.size := ⟨_, rfl⟩
  obtain ⟨w5, hw⟩ : ∃ y, y = w4.alloc (.cells (nodeC n vm (.slice An n.names.length cn) vl) 31) := ⟨_, rfl⟩
  have hm5_ : Mod None_ w4 w5 := by rw [hw]; exact (Mod.refl _ w4).alloc _
  have b2_ := hide (show Blk w5 q1_ 31 (nodeC n vm (.slice An n.names.length cn) vl) by rw [hw, hq]; exact Blk.new w4 _ _)
  have HW3_ := hide hw
  have HQ4_ := hide hq
  clear hw hq
  replace HS := hide (HS.out.kept hm5_)
  replace HM := hide (HM.out.trans hm5_)
  replace HL1 := hide (HL1.out.kept hm5_)
  replace HN := hide (HN.out.kept hm5_)
  clear hm5_
  go_upto_region 5 with ((with_reducible refine at_slot 7 ?_); refine wpList_declare rfl rfl 31 7 (.tmp 27) rfl rfl rfl zeroNode (nodeC n vm (.slice An n.names.length cn) vl) zeroNodeV HI1.out (nodeC_size _ _ _ _) HO1.out (by simp) rfl ?_; go_frame; rw [← HW3_.out, ← HQ4_.out])
  clear HW3_ HQ4_
  go_wp2_with ((with_reducible refine at_slot 30 ?_); refine wpList_val rfl (ex_load rfl (run_loadRow b2_.out Tryd.underlying31 rfl HI1.out)) ?_; go_frame)
  have HCY := hide (lawCopy w5 n vm (.slice An n.names.length cn) vl HN.out HSM.out)
  refine Calls.mono (HCY.out) ?_
  rintro x w6 ⟨uma, una, ula, rfl, hO, hm⟩
  have hNc := hO.in_ HN.out
  clear hO HCY
  replace HS := hide (HS.out.kept hm)
  replace HM := hide (HM.out.trans hm)
  replace HL1 := hide (HL1.out.kept hm)
  replace HN := hide (HN.out.kept hm)
  replace b2_ := hide (b2_.out.mod hm id)
  clear hm
  go_wp2_with fail
  have HCA := hide (canon_any w6 n uma una ula (hNc.at_ HSM.out))
  refine Calls.mono (HCA.out) ?_
  rintro x w7 ⟨hm, hp⟩
  rw [if_pos HCL.out.good] at hp
  obtain ⟨vC, rfl, hla⟩ := hp
  clear hNc HCA
  replace HS := hide (HS.out.kept hm)
  replace HM := hide (HM.out.trans hm)
  replace HL1 := hide (HL1.out.kept hm)
  replace HN := hide (HN.out.kept hm)
  replace b2_ := hide (b2_.out.mod hm id)
  clear hm
  rw [← HC.out] at hla
  have HLC := hide hla
  clear hla
  have x1 : w7.cell? ⟨q1_, 1, none⟩ = some (.int .i64 kd) := by rw [← hck]; exact b2_.out.cell 1
  have x9 : w7.cell? ⟨q1_, 9, none⟩ = some (.int .i64 E.length) := by rw [← n9]; exact b2_.out.cell 9
  have hle : ∀ w A (n c : Nat), (Builtin.len_ #[22] 3 #[.slice A n c]).run Tryd.prog w = .ok (.int .i64 n) w := fun w A n c => by simp [Builtin.len_, run_underlying Tryd.underlying22]; rfl
  have hld : ∀ w A (n c : Nat), (Builtin.len_ #[28] 3 #[.slice A n c]).run Tryd.prog w = .ok (.int .i64 n) w := fun w A n c => by simp [Builtin.len_, run_underlying Tryd.underlying28]; rfl
  have hli : ∀ w A (n c : Nat), (Builtin.len_ #[29] 3 #[.slice A n c]).run Tryd.prog w = .ok (.int .i64 n) w := fun w A n c => by simp [Builtin.len_, run_underlying Tryd.underlying29]; rfl
  obtain ⟨Ac, cc, hvc, _, _, _⟩ := HLC.out
  subst hvc
  go_wp2_with fail
  have HCE := hide (copyEntries_any w7 _ C HLC.out (by have := HCL.out.len; omega))
  refine Calls.mono (HCE.out) ?_
  rintro x w8 ⟨v5, rfl, hown5, hm⟩
  have hl5 := list_of_ownRow (enc := encEntry) (fun _ => rfl) hown5
  clear hown5 HCE x1 x9 n9 hck
  replace HS := hide (HS.out.kept hm)
  replace HM := hide (HM.out.trans hm)
  replace HL1 := hide (HL1.out.kept hm)
  replace HN := hide (HN.out.kept hm)
  replace b2_ := hide (b2_.out.mod hm id)
  replace HLC := hide (HLC.out.kept hm)
  clear hm
  obtain ⟨hre2, hrn2, _, _⟩ := replay_ok HKD.out HCP.out
  go_wp2_with fail
  have HRE := hide (replay_any w8 kd v5 C HS.out hl5 (by have := HCL.out.len; omega))
  refine Calls.mono (HRE.out) ?_
  rintro x w9 ⟨ym, yn, yl, rfl, hO4, hm⟩
  rw [hre2, hrn2]
  rw [hrn2] at hO4
  have HNm := hide (node_in HCL.out.wf2 hO4)
  clear hO4 hre2 hrn2 hl5 HRE
  replace HS := hide (HS.out.kept hm)
  replace HM := hide (HM.out.trans hm)
  replace HL1 := hide (HL1.out.kept hm)
  replace HN := hide (HN.out.kept hm)
  replace b2_ := hide (b2_.out.mod hm id)
  replace HLC := hide (HLC.out.kept hm)
  clear hm
  have HI2 := hide (infoNode (nodeOf D2 C.length) ym yn yl)
  have HO2 := hide (nodeIn_one HNm.out)
  have HS2 := hide HCL.out.size2
  have HM2 := hide HCL.out.map2
  have HN2 := hide HCL.out.names2
  have HSA := hide HCL.out.same
  have HG2 := hide HCL.out.good2
  have HSM2 := hide HCL.out.small2
  obtain ⟨m, hm⟩ : ∃ m, m = nodeOf D2 C.length := ⟨_, rfl⟩
  have m9 : m.entries = C.length := by rw [hm]; rfl
  rw [← hm] at HNm HI2 HO2 HS2 HM2 HN2 HSA HG2 HSM2 ⊢
  clear hm
  obtain ⟨q6_, hq⟩ : ∃ q, q = w9.heap.size := ⟨_, rfl⟩
  obtain ⟨w10, hw⟩ : ∃ y, y = w9.alloc (.cells (nodeC m ym yn yl) 31) := ⟨_, rfl⟩
  have hm10_ : Mod None_ w9 w10 := by rw [hw]; exact (Mod.refl _ w9).alloc _
  have b7_ := hide (show Blk w10 q6_ 31 (nodeC m ym yn yl) by rw [hw, hq]; exact Blk.new w9 _ _)
  have HW8_ := hide hw
  have HQ9_ := hide hq
  clear hw hq
  replace HS := hide (HS.out.kept hm10_)
  replace HM := hide (HM.out.trans hm10_)
  replace HL1 := hide (HL1.out.kept hm10_)
  replace HN := hide (HN.out.kept hm10_)
  replace b2_ := hide (b2_.out.mod hm10_ id)
  replace HLC := hide (HLC.out.kept hm10_)
  replace HNm := hide (HNm.out.kept hm10_)
  clear hm10_
  go_upto_region 9 with ((with_reducible refine at_slot 11 ?_); refine wpList_declare rfl rfl 31 11 (.tmp 59) rfl rfl rfl zeroNode (nodeC m ym yn yl) zeroNodeV HI2.out (nodeC_size _ _ _ _) HO2.out (by simp) rfl ?_; go_frame; rw [← HW8_.out, ← HQ9_.out])
  clear HW8_ HQ9_
  obtain ⟨z, hz⟩ : ∃ z, z = n.size := ⟨_, rfl⟩
  rw [← hz] at HS2
  have y9 : w10.cell? ⟨q6_, 9, none⟩ = some (.int .i64 C.length) := by rw [← m9]; exact b7_.out.cell 9
  have y3 : w10.cell? ⟨q6_, 3, none⟩ = some (.int .i64 z) := by rw [← HS2.out]; exact b7_.out.cell 3
  have y4 : w10.cell? ⟨q6_, 4, none⟩ = some ym := b7_.out.cell 4
  have y5 : w10.cell? ⟨q6_, 5, none⟩ = some yn := b7_.out.cell 5
  have x3 : w10.cell? ⟨q1_, 3, none⟩ = some (.int .i64 z) := by rw [hz]; exact b2_.out.cell 3
  have x4 : w10.cell? ⟨q1_, 4, none⟩ = some vm := b2_.out.cell 4
  have x5 : w10.cell? ⟨q1_, 5, none⟩ = some (.slice An n.names.length cn) := b2_.out.cell 5
  have HZ := hide hz
  clear hz
  go_wp2_with fail
  have HSR := hide (lawSameRuns w10 ym vm _ _ HNm.out.map HN.out.map)
  rw [decide_eq_true HM2.out] at HSR
  refine Calls.mono (HSR.out) ?_
  rintro x w11 ⟨rfl, hm⟩
  replace y5 := (World.cell?_of_block (hm.block q6_ b7_.out.lt id)).trans y5
  replace x5 := (World.cell?_of_block (hm.block q1_ b2_.out.lt id)).trans x5
  clear HSR m9 y9 y3 y4 x3 x4
  replace HS := hide (HS.out.kept hm)
  replace HM := hide (HM.out.trans hm)
  replace HL1 := hide (HL1.out.kept hm)
  replace HN := hide (HN.out.kept hm)
  replace b2_ := hide (b2_.out.mod hm id)
  replace HLC := hide (HLC.out.kept hm)
  replace HNm := hide (HNm.out.kept hm)
  replace b7_ := hide (b7_.out.mod hm id)
  clear hm
  go_wp2_with fail
  have HSR := hide (lawSameDents w11 yn (.slice An n.names.length cn) _ _ HNm.out.names HN.out.names)
  rw [decide_eq_true HN2.out] at HSR
  refine Calls.mono (HSR.out) ?_
  rintro x w12 ⟨rfl, hm⟩
  clear HSR x5 y5
  replace HS := hide (HS.out.kept hm)
  replace HM := hide (HM.out.trans hm)
  replace HL1 := hide (HL1.out.kept hm)
  replace HN := hide (HN.out.kept hm)
  replace b2_ := hide (b2_.out.mod hm id)
  replace HLC := hide (HLC.out.kept hm)
  replace HNm := hide (HNm.out.kept hm)
  replace b7_ := hide (b7_.out.mod hm id)
  clear hm
  go_wp2_with ((with_reducible refine at_slot 94 ?_); refine wpList_val rfl (ex_load rfl (run_loadRow b7_.out Tryd.underlying31 rfl HI2.out)) ?_; go_frame)
  have HCY := hide (lawCopy w12 m ym yn yl HNm.out HSM2.out)
  refine Calls.mono (HCY.out) ?_
  rintro x w13 ⟨umb, unb, ulb, rfl, hO, hm⟩
  have hNc := hO.in_ HNm.out
  clear hO HCY
  replace HS := hide (HS.out.kept hm)
  replace HM := hide (HM.out.trans hm)
  replace HL1 := hide (HL1.out.kept hm)
  replace HN := hide (HN.out.kept hm)
  replace b2_ := hide (b2_.out.mod hm id)
  replace HLC := hide (HLC.out.kept hm)
  replace HNm := hide (HNm.out.kept hm)
  replace b7_ := hide (b7_.out.mod hm id)
  clear hm
  go_wp2_with fail
  have HCA := hide (canon_any w13 m umb unb ulb (hNc.at_ HSM2.out))
  refine Calls.mono (HCA.out) ?_
  rintro x w14 ⟨hm, hp⟩
  rw [if_pos HG2.out] at hp
  obtain ⟨vD, rfl, hlb⟩ := hp
  clear hNc HCA
  replace HS := hide (HS.out.kept hm)
  replace HM := hide (HM.out.trans hm)
  replace HL1 := hide (HL1.out.kept hm)
  replace HN := hide (HN.out.kept hm)
  replace b2_ := hide (b2_.out.mod hm id)
  replace HLC := hide (HLC.out.kept hm)
  replace HNm := hide (HNm.out.kept hm)
  replace b7_ := hide (b7_.out.mod hm id)
  clear hm
  rw [HSA.out] at hlb
  have HLE := hide hlb
  have hvd : vD.oneCell' = true := by obtain ⟨_, _, rfl, _⟩ := hlb; rfl
  clear hlb
  go_wp2_with fail
  have HSR := hide (lawSameEntries w14 (.slice Ac C.length cc) vD _ _ HLC.out HLE.out)
  rw [decide_eq_true rfl] at HSR
  refine Calls.mono (HSR.out) ?_
  rintro x w15 ⟨rfl, hm⟩
  clear HSR
  replace HS := hide (HS.out.kept hm)
  replace HM := hide (HM.out.trans hm)
  replace HL1 := hide (HL1.out.kept hm)
  replace HN := hide (HN.out.kept hm)
  replace b2_ := hide (b2_.out.mod hm id)
  replace HLC := hide (HLC.out.kept hm)
  replace HNm := hide (HNm.out.kept hm)
  replace b7_ := hide (b7_.out.mod hm id)
  replace HLE := hide (HLE.out.kept hm)
  clear hm
  go_wp2_with fail
  obtain ⟨_, _, hcv, _, _, hcell⟩ := HLC.out
  simp only [Value.slice.injEq, true_and] at hcv
  obtain ⟨rfl, rfl⟩ := hcv
  have HCC := hide hcell
  clear hcell
  have HEA := hide HCL.out.ents
  have hCl := HCL.out.len
  go_loopw [16, 15] (fun s16 s15 wr => ∃ k : Nat, k ≤ C.length ∧ s16 = .int .i64 k ∧ s15 = .int .i64 (sumE 0 (C.take k)) ∧ Mod None_ w15 wr) (fun s16 _ _ => C.length - (intOf s16).toNat)
  case atStart => exact ⟨0, Nat.zero_le _, rfl, rfl, Mod.refl _ _⟩
  obtain ⟨k, hk, rfl, rfl, hMr⟩ := hrel
  have bn := b2_.out.mod hMr id
  by_cases hkl : k < C.length
  · have hki : (k : Int) < C.length := by omega
    have hkm : k - 1 < C.length := Nat.lt_of_le_of_lt (Nat.sub_le k 1) hkl
    obtain ⟨gb, o, rfl, hgb, hcell⟩ := HCC.out (by omega)
    have hc := hcell k hkl
    have hpc : ∀ h0 : 0 < k, w15.cell? ⟨gb, o + (k - 1) * 8 + 2, none⟩ = some (.int .i64 (C[k - 1]'hkm).off) ∧ w15.cell? ⟨gb, o + (k - 1) * 8 + 3, none⟩ = some (.int .i64 (C[k - 1]'hkm).count) := fun h0 => ⟨hcell (k - 1) hkm 2 _ rfl, hcell (k - 1) hkm 3 _ rfl⟩
    obtain ⟨hsq, hsz, ⟨hco0, hco1⟩, ⟨hof0, hof1⟩⟩ := HEA.out.each k hkl
    have hpe : ∀ h0 : 0 < k, (0 ≤ (C[k - 1]'hkm).count ∧ (C[k - 1]'hkm).count ≤ 16) ∧ (0 ≤ (C[k - 1]'hkm).off ∧ (C[k - 1]'hkm).off ≤ 512) := fun h0 => (HEA.out.each (k - 1) hkm).2.2
    have hri : dir = false → ∀ h0 : 0 < k, (C[k - 1]'hkm).off + (C[k - 1]'hkm).count ≤ C[k].off := fun hd h0 => by
      have h2 : k - 1 + 1 = k := Nat.sub_add_cancel h0
      have h3 := HEA.out.rise hd (k - 1) (by rw [h2]; exact hkl)
      simp only [h2] at h3
      exact h3
    have hst := sumE_take hkl
    have hsb := sumE_bound (C.take k) 0 (fun e he => by
      obtain ⟨i, hi, rfl⟩ := List.getElem_of_mem (List.mem_of_mem_take he)
      exact (HEA.out.each i hi).2.2.1)
    rw [List.length_take] at hsb
    obtain ⟨e, he⟩ : ∃ e, e = C[k] := ⟨_, rfl⟩
    rw [← he] at hc hsq hsz hco0 hco1 hof0 hof1 hst
    simp only [← he] at hri
    obtain ⟨t, ht⟩ : ∃ t, t = sumE 0 (C.take k) := ⟨_, rfl⟩
    rw [← ht] at hst hsb ⊢
    have HST := hide hst
    have c1 : wr.cell? ⟨gb, o + k * 8 + 1, none⟩ = some (.int .u64 ((k : Int) + 1)) := (World.cell?_of_block (hMr.block gb hgb id)).trans (by rw [← hsq]; exact hc 1 _ rfl)
    have c2 : wr.cell? ⟨gb, o + k * 8 + 2, none⟩ = some (.int .i64 e.off) := (World.cell?_of_block (hMr.block gb hgb id)).trans (hc 2 _ rfl)
    have c3 : wr.cell? ⟨gb, o + k * 8 + 3, none⟩ = some (.int .i64 e.count) := (World.cell?_of_block (hMr.block gb hgb id)).trans (hc 3 _ rfl)
    have c5 : wr.cell? ⟨gb, o + k * 8 + 5, none⟩ = some (.int .i64 z) := (World.cell?_of_block (hMr.block gb hgb id)).trans (by rw [HZ.out, ← hsz]; exact hc 5 _ rfl)
    have hpc2 : ∀ h0 : 0 < k, wr.cell? ⟨gb, o + (k - 1) * 8 + 2, none⟩ = some (.int .i64 (C[k - 1]'hkm).off) ∧ wr.cell? ⟨gb, o + (k - 1) * 8 + 3, none⟩ = some (.int .i64 (C[k - 1]'hkm).count) := fun h0 => ⟨(World.cell?_of_block (hMr.block gb hgb id)).trans (hpc h0).1, (World.cell?_of_block (hMr.block gb hgb id)).trans (hpc h0).2⟩
    have hgr : gb < wr.heap.size := Nat.lt_of_lt_of_le hgb hMr.size
    have htb : -1 ≤ t ∧ t ≤ 10000000 := by omega
    obtain ⟨ht0, ht1⟩ := htb
    have ewk : IntKind.u64.wrap ((k : Int) + 1) = k + 1 := IntWalk.u64_in _ (by omega)
    have ewk1 : IntKind.i64.wrap ((k : Int) + 1) = k + 1 := IntWalk.i64_in _ (by omega)
    have d16 : decide (16 < e.count) = false := decide_eq_false (by omega)
    clear hc hcell hpc hsq hsz hst hsb he ht hgb
    go_upto_region 19 with fail
    have bn3 : wr.cell? ⟨q1_, 3, none⟩ = some (.int .i64 z) := by rw [HZ.out]; exact bn.cell 3
    rcases Nat.eq_zero_or_pos k with h0 | h0
    · have k0 : decide (0 < k) = false := decide_eq_false (by omega)
      clear h0 hpc2 hpe hri
      refine region_stw (by kernel_rfl) (by kernel_rfl) ?_
      rintro w3 hw3
      have hm3 : Mod None_ wr w3 := by rw [hw3]; exact (Mod.refl _ wr).drew
      replace c1 := (World.cell?_of_block (hm3.block gb hgr id)).trans c1
      replace c2 := (World.cell?_of_block (hm3.block gb hgr id)).trans c2
      replace c3 := (World.cell?_of_block (hm3.block gb hgr id)).trans c3
      replace c5 := (World.cell?_of_block (hm3.block gb hgr id)).trans c5
      replace bn3 := (World.cell?_of_block (hm3.block q1_ (bn.lt) id)).trans bn3
      have hM3 := hMr.trans hm3
      clear hw3 hMr hm3 bn
      repeat (refine stw_step (fun K hK => ?_); go_simp; refine hK _ ?_; clear hK K)
      refine stw_nil ?_
      go_wp2_with fail
      go_roundw
      case rel => exact ⟨k + 1, by omega, by simp, by rw [HST.out], hM3⟩
      case measure => simp [intOf]; omega
    · have k0 : decide (0 < k) = true := decide_eq_true h0
      cases dir with
      | true =>
        clear h0 hpc2 hpe hri
        refine region_stw (by kernel_rfl) (by kernel_rfl) ?_
        rintro w3 hw3
        have hm3 : Mod None_ wr w3 := by rw [hw3]; exact (Mod.refl _ wr).drew
        replace c1 := (World.cell?_of_block (hm3.block gb hgr id)).trans c1
        replace c2 := (World.cell?_of_block (hm3.block gb hgr id)).trans c2
        replace c3 := (World.cell?_of_block (hm3.block gb hgr id)).trans c3
        replace c5 := (World.cell?_of_block (hm3.block gb hgr id)).trans c5
        replace bn3 := (World.cell?_of_block (hm3.block q1_ (bn.lt) id)).trans bn3
        have hM3 := hMr.trans hm3
        clear hw3 hMr hm3 bn
        repeat (refine stw_step (fun K hK => ?_); go_simp; refine hK _ ?_; clear hK K)
        refine stw_nil ?_
        go_wp2_with fail
        go_roundw
        case rel => exact ⟨k + 1, by omega, by simp, by rw [HST.out], hM3⟩
        case measure => simp [intOf]; omega
      | false =>
        obtain ⟨y2, y3⟩ := hpc2 h0
        obtain ⟨⟨pc0, pc1⟩, po0, po1⟩ := hpe h0
        have hrr := hri rfl h0
        obtain ⟨pe, hpe_⟩ : ∃ pe, pe = C[k - 1]'hkm := ⟨_, rfl⟩
        rw [← hpe_] at y2 y3 pc0 pc1 po0 po1 hrr
        have ew1 : IntKind.i64.wrap ((k : Int) - 1) = ((k - 1 : Nat) : Int) := pred_cast h0 (Nat.le_trans hk (Nat.le_trans hCl (by decide)))
        have hk1 : ((k - 1 : Nat) : Int) < C.length := Int.ofNat_lt.2 hkm
        have ewp : IntKind.i64.wrap (pe.off + pe.count) = pe.off + pe.count := sum_small ⟨po0, po1⟩ ⟨pc0, pc1⟩
        have dr2 : ¬ e.off < pe.off + pe.count := Int.not_lt.2 hrr
        have dr : decide (e.off < pe.off + pe.count) = false := decide_eq_false dr2
        clear hpe_ hrr hpc2 hpe hri
        refine region_stw (by kernel_rfl) (by kernel_rfl) ?_
        rintro w3 hw3
        have hm3 : Mod None_ wr w3 := by rw [hw3]; exact (Mod.refl _ wr).drew
        replace c1 := (World.cell?_of_block (hm3.block gb hgr id)).trans c1
        replace c2 := (World.cell?_of_block (hm3.block gb hgr id)).trans c2
        replace c3 := (World.cell?_of_block (hm3.block gb hgr id)).trans c3
        replace c5 := (World.cell?_of_block (hm3.block gb hgr id)).trans c5
        replace y2 := (World.cell?_of_block (hm3.block gb hgr id)).trans y2
        replace y3 := (World.cell?_of_block (hm3.block gb hgr id)).trans y3
        replace bn3 := (World.cell?_of_block (hm3.block q1_ (bn.lt) id)).trans bn3
        have hM3 := hMr.trans hm3
        clear hw3 hMr hm3 bn
        repeat (refine stw_step (fun K hK => ?_); go_simp; refine hK _ ?_; clear hK K)
        refine stw_nil ?_
        go_wp2_with fail
        go_roundw
        case rel => exact ⟨k + 1, by omega, by simp, by rw [HST.out], hM3⟩
        case measure => simp [intOf]; omega
  · obtain rfl : k = C.length := by omega
    rw [List.take_length]
    have HB := hide bn
    have x5 : wr.cell? ⟨q1_, 5, none⟩ = some (.slice An n.names.length cn) := bn.cell 5
    have HMF := hide (HM.out.trans hMr)
    have HNF := hide (HN.out.kept hMr)
    cases dir with
    | true =>
      have hcn : C.length = n.names.length := HCL.out.dirLen rfl
      have HCN : Hid (C.length = n.names.length) := hide hcn
      have d4 : ((C.length : Int) == n.names.length) = true := by rw [beq_iff_eq]; omega
      clear hkl hk bn hMr hcn
      go_wp2
      go_ret
      exact ⟨rfl, HMF.out⟩
    | false =>
      have hpg := HCL.out.pages rfl
      have HPG := hide hpg
      obtain ⟨t, ht⟩ : ∃ t, t = sumE 0 C := ⟨_, rfl⟩
      rw [← ht] at HPG ⊢
      clear hkl hk bn hMr hpg ht x5
      go_wp2_with ((with_reducible refine at_slot 183 ?_); refine wpList_val rfl (ex_load rfl (run_loadRow HB.out Tryd.underlying31 rfl HI1.out)) ?_; go_frame)
      refine Calls.mono (pages_any wr n vm (.slice An n.names.length cn) vl (HNF.out.at_ HSM.out)) ?_
      rintro x wz ⟨v9, rfl, hpl, hm⟩
      obtain ⟨A9, c9, rfl, _, _, _⟩ := hpl
      have d4 : (((pagesOf n).length : Int) == t) = true := by rw [beq_iff_eq]; exact HPG.out
      have HF := hide (HMF.out.trans hm)
      clear hm
      go_wp2
      go_ret
      exact ⟨rfl, HF.out⟩
end Go.Proofs.YtabebkffcmajkaaDoor

namespace Go.Proofs.YtabebkffcmajkaaDoor.inodeCanonMeans
open Go.ChangeShapes Go.WideShapes Go.ChangeAt Go.RowKit
open Go.ChangeMaps (open_string shut_string)
set_option linter.unusedVariables false
theorem ownG : ownKnob Tryd.prog.godebug = none := by kernel_rfl
theorem gSteps : Tryd.prog.globalNamed "furrow/codec.steps" = some 0 := by kernel_rfl
theorem gStepsType : (Tryd.prog.globals[0]?).map (·.type) = some 170 := by kernel_rfl
theorem cellsT16 : Tryd.prog.cellsOf 170 = 16 := by kernel_rfl
theorem cellsU32 : Tryd.prog.cellsOf 150 = 1 := by kernel_rfl
theorem steps_tab {W : World} (h : laidMetH Tryd.prog Rows.inodeCanonMeansRow.laid W) : Lib.TabIs Tryd.prog W "furrow/codec.steps" .u32 sumTab :=
  Lib.tabIs_of_head (rest := []) gSteps gStepsType Tryd.underlying170 Tryd.underlying150 cellsU32 cellsT16 h
theorem steps_of {W : World} (h : laidMetH Tryd.prog Rows.inodeCanonMeansRow.laid W) : Steps W := by
  have ht := steps_tab h
  have hc : ∀ i : Nat, i < 16 → W.cell? ⟨0, i, none⟩ = some (.int .u32 (sumTab.getD i 0)) := fun i hi => ht.cell gSteps i hi
  exact ⟨block_lt_of_cell (hc 0 (by omega)), hc⟩
set_option maxRecDepth 100000 in
theorem contract (H : Type) (enc : TypeId × Value → H) (W : World) (base : Nat) (args : Array Value) (ds gs : List (DataW H)) (before : List MemPlace)
    (hval : ∀ (j : Nat) t v, Tryd.f9.params[j]? = some t → args[j]? = some v → Value.okWide Tryd.prog W .any base t v)
    (hW : DataW.Whole enc Tryd.prog Tryd.f9.params.toList Rows.inodeCanonMeansSpec.vars false W args.toList ds gs before) (hL : laidMetH Tryd.prog Rows.inodeCanonMeansRow.laid W) :
    Calls Tryd.prog 9 args W fun e W' => ∃ v, e = .returned v ∧ Rows.inodeCanonMeansSpec.post enc Tryd.prog Tryd.f9 false true false false W args v W' := by
  have hW' := hW
  obtain ⟨p, q, hA0, hV, rfl, hfz, hnd⟩ := hW
  have hA : DataW.TrodAll enc Tryd.prog W 0 (fun _ => true) true Tryd.f9.params.toList args.toList ds p := hA0
  rw [Tryd.params9] at hA hval
  obtain ⟨v0, vs0, d0, ds0, p0, q0, hargs, rfl, rfl, h0, r0⟩ := trodAll_cons hA
  obtain ⟨v1, vs1, d1, ds1, p1, q1, rfl, rfl, rfl, h1, r1⟩ := trodAll_cons r0
  obtain ⟨rfl, rfl, rfl⟩ := trodAll_nil r1
  obtain rfl : args = #[v0, v1] := by cases args; simp_all
  obtain ⟨rfl, rfl⟩ := trodVars_none hV
  obtain ⟨a0, rfl, rfl, rfl⟩ := open_bool Tryd.underlying4 (hval 0 4 v0 rfl rfl) h0
  have k1 := h1
  have lt1 : ∀ x ∈ p1, x.block < W.heap.size := by obtain ⟨m, hm⟩ := k1; exact DataW.trod_lt m _ _ _ hm
  obtain ⟨sa1, sl1, sc1, rfl⟩ := okWide_slice Tryd.underlying38 (hval 1 38 v1 rfl rfl)
  obtain ⟨l1, hl1, hO1⟩ := open_seeds h1 rfl
  clear hA0
  refine (lawCanonMeans W a0 _ l1 (steps_of hL) hl1 hO1).mono fun e W' ⟨he, hm⟩ => ?_
  subst he
  have bel := hm.below
  exact ⟨_, rfl, _, _, _, [], _, [], hW', trodAll_mk1 (shut_bool Tryd.underlying4 _),
    (trodAll_cons_mk (shut_bool Tryd.underlying4 a0) (trodAll_cons_mk (Below.trod laidOut (by kernel_rfl) (of_decide_eq_true (by kernel_rfl)) k1 bel lt1) trodAll_mk0)),
    rfl, bel.frame _, fun h => by cases h⟩
/-- a world for the witness: the settled one, the table (block 0) holding what its initialiser lays -/
noncomputable def laidWorld (os : Os) : World :=
  { World.holding Tryd.prog os ⟨#[], #[], []⟩ with heap := (World.holding Tryd.prog os ⟨#[], #[], []⟩).heap.modify 0 fun
      | .cells _ t frozen => .cells (sumTab.map (Value.int .u32)).toArray t frozen
      | o => o }
theorem laid_met (os : Os) : laidMet Tryd.prog Rows.inodeCanonMeansRow.laid ((laidWorld os).forCall (fun _ _ => 0) ⟨#[], #[.bool false, .slice none 0 0], []⟩).memory :=
  laidMet_of_run' 8 (by kernel_rfl) (by kernel_rfl)
theorem reads (os : Os) {H : Type} (enc : TypeId × Value → H) : ∃ places, DataW.whole enc Tryd.prog ((laidWorld os).forCall (fun _ _ => 0) ⟨#[], #[.bool false, .slice none 0 0], []⟩).memory Tryd.f9.params.toList Rows.inodeCanonMeansSpec.vars false #[Value.bool false, .slice none 0 0].toList 8 = some ([.lit (.bool false), .nil], [], places) :=
  ⟨[], by kernel_rfl⟩
set_option maxRecDepth 100000 in
theorem lifted (os : Os) (started : os.Started) (H : Type) (enc : TypeId × Value → H) (F : Stop.Interp) :
    ReturnsInHanded {} Tryd.checked os 9 .any ((OpenSpec.ofChange Rows.inodeCanonMeansSpec).preRow enc Tryd.prog Tryd.f9 Rows.inodeCanonMeansRow.domain false Rows.inodeCanonMeansRow.laid) (((OpenSpec.ofChange Rows.inodeCanonMeansSpec).at F).post enc Tryd.prog Tryd.f9 false true false false) := by
  obtain ⟨places, hx⟩ := reads os enc
  refine returnsInHanded_of_row (C := Tryd.checked) (s := OpenSpec.ofChange Rows.inodeCanonMeansSpec) ownG started (by kernel_rfl) Tryd.func9
    (witness_row_at (enc := enc) (C := Tryd.checked) false (laidWorld os) #[.bool false, .slice none 0 0] rfl (by kernel_rfl) (by kernel_rfl) (by kernel_rfl)
      (OpenSpec.preRow_of_cond 8 hx (by kernel_rfl) (fun k hk => by cases hk) (by kernel_rfl) (laid_met os))) ?_
  intro W base args ds gs before hval hW _ _ _ hL _ _
  exact contract H enc W base args ds gs before hval hW hL
theorem said : Rows.InodeCanonMeansSaid :=
  OpenClaim.holds_of_cond 9 Tryd.f9 rfl rfl rfl rfl rfl rfl rfl ⟨rfl, rfl, rfl, rfl, rfl⟩ rfl rfl rfl rfl rfl (by kernel_rfl) Tryd.func9 (by kernel_rfl)
    (of_decide_eq_true (by kernel_rfl)) (by unfold Func.isWrapper; first | (rw [if_pos (by decide +kernel)]; kernel_rfl) | (rw [if_neg (by decide +kernel)]; exact ⟨rfl, rfl⟩))
    (fun os started H enc _ F => by rw [OpenClaim.pre_eq_preRow]; exact lifted os started H enc F)
theorem plain (f : FuncId) (fn : Func) (hf : Tryd.pinned.checked.prog.funcNamed "furrow/furrowlaw09.InodeCanonMeans" = some f) (hfn : Tryd.pinned.checked.prog.funcs[f]? = some fn) :
    true = Tryd.pinned.checked.prog.looks [] ∧ ∀ (j : Nat) t, fn.params[j]? = some t → Tryd.pinned.checked.prog.wantsStandIn t = false := by
  obtain rfl : f = 9 := Option.some.inj ((show Tryd.prog.funcNamed "furrow/furrowlaw09.InodeCanonMeans" = some 9 by kernel_rfl).symm.trans hf) |>.symm
  obtain rfl : fn = Tryd.f9 := (Option.some.inj (Tryd.func9.symm.trans hfn)).symm
  refine ⟨by kernel_rfl, fun j t ht => ?_⟩
  rw [Tryd.params9] at ht
  have hm := Array.mem_of_getElem? ht
  simp only [List.mem_toArray, List.mem_cons, List.not_mem_nil, or_false] at hm
  rcases hm with rfl | rfl
  · exact (show Tryd.prog.wantsStandIn 4 = false by kernel_rfl)
  · exact (show Tryd.prog.wantsStandIn 38 = false by kernel_rfl)
theorem card : Rows.InodeCanonMeansCardSaid :=
  Claim7.holds_tied_plain_at .later [] _ _ _ _ said (fun _ h => by cases h) (by kernel_rfl) (fun _ h => by cases h) inodeCanonMeans_row_tie rfl ⟨rfl, rfl⟩ (by kernel_rfl) rfl plain (by kernel_rfl)
end Go.Proofs.YtabebkffcmajkaaDoor.inodeCanonMeans
namespace Go.Proofs.YtabebkffcmajkaaDoor
theorem inodeCanonMeans_holds : Rows.InodeCanonMeansCardSaid := inodeCanonMeans.card
#print axioms inodeCanonMeans_holds
end Go.Proofs.YtabebkffcmajkaaDoor
