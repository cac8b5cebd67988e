import Derived.Test.YtabebkffcmajkaaRG3
/-! Plain law: what the reference asks of a file, and its runs, are the code's. No memory in it. -/
namespace Go.Proofs.Ytabebkffcmajkaa
open Go.RowKit Go.Maps Go.Shelf

theorem refRun_iff (r : RunD) : refRun r = true ↔ (0 ≤ r.off ∧ r.off < 512 ∧ 1 ≤ r.count ∧ r.count ≤ 512 - r.off ∧ 5 ≤ r.page ∧ r.page < 1024 ∧ r.page ≤ 1024 - r.count) := by
  simp only [refRun, dataB, Bool.and_eq_true, decide_eq_true_eq]
  constructor
  · rintro ⟨⟨⟨⟨⟨a, b⟩, c⟩, d⟩, e, f⟩, g⟩; exact ⟨a, b, c, d, e, f, g⟩
  · rintro ⟨a, b, c, d, e, f, g⟩; exact ⟨⟨⟨⟨⟨a, b⟩, c⟩, d⟩, e, f⟩, g⟩
theorem okPage_iff (r : RunD) : (okRun r = true ∧ pageOk r = true) ↔ refRun r = true := by
  rw [refRun_iff]
  simp only [okRun, pageOk, Bool.and_eq_true, decide_eq_true_eq, Bool.not_eq_true', Bool.or_eq_false_iff, decide_eq_false_iff_not]
  constructor
  · rintro ⟨⟨⟨⟨a, b⟩, c, d⟩, e⟩, f, g⟩; refine ⟨?_, ?_, ?_, ?_, ?_, ?_, ?_⟩ <;> omega
  · rintro ⟨a, b, c, d, e, f, g⟩; refine ⟨⟨⟨⟨?_, ?_⟩, ?_, ?_⟩, ?_⟩, ?_, ?_⟩ <;> omega

/-! ### tables -/
def InR (f : Nat → Int) : Prop := ∀ x, f x = 0 ∨ (1 ≤ f x ∧ f x ≤ 100000)
theorem wrap_small {n : Int} (h0 : -1000000000 ≤ n) (h1 : n ≤ 1000000000) : wrap64 n = n := by unfold wrap64; omega
theorem setN_at (f : Nat → Int) (o : Nat) (p : Int) (x : Nat) (hp : 0 ≤ p) : ∀ n : Nat, p + n ≤ 1000000 → setN f o p n x = if o ≤ x ∧ x < o + n then p + ((x - o : Nat) : Int) else f x
  | 0, _ => by
    rw [if_neg (by omega)]; rfl
  | n + 1, hn => by
    have ih := setN_at f o p x hp n (by omega)
    show setAt (setN f o p n) (o + n) (wrap64 (p + n)) x = _
    rw [wrap_small (by omega) (by omega)]
    by_cases e : x = o + n
    · subst e
      rw [setAt_same, if_pos (by omega)]
      congr 2; omega
    · rw [setAt_ne _ _ e, ih]
      by_cases h : o ≤ x ∧ x < o + n
      · rw [if_pos h, if_pos (by omega)]
      · rw [if_neg h, if_neg (by omega)]
def setRun (f : Nat → Int) (r : RunD) : Nat → Int := setN f r.off.toNat r.page r.count.toNat
theorem setRun_at (f : Nat → Int) {r : RunD} (h : refRun r = true) (x : Nat) : setRun f r x = if r.off ≤ x ∧ (x : Int) < r.off + r.count then r.page + (x - r.off) else f x := by
  rw [refRun_iff] at h
  obtain ⟨h1, h2, h3, h4, h5, h6, h7⟩ := h
  unfold setRun
  rw [setN_at f _ _ x (by omega) _ (by omega)]
  by_cases h : r.off ≤ x ∧ (x : Int) < r.off + r.count
  · rw [if_pos h, if_pos (by omega)]
    congr 1; omega
  · rw [if_neg h, if_neg (by omega)]
theorem fold_in : ∀ (l : List RunD) (f : Nat → Int), (∀ r ∈ l, refRun r = true) → InR f → InR (l.foldl setRun f)
  | [], _, _, h => h
  | r :: l, f, hl, h => fold_in l _ (fun x hx => hl x (by simp [hx])) fun x => by
    have hr := hl r (by simp)
    rw [setRun_at f hr]
    rw [refRun_iff] at hr
    split
    · right; omega
    · exact h x
theorem fold_keep (x : Nat) : ∀ (l : List RunD) (f : Nat → Int), (∀ r ∈ l, refRun r = true) → f x ≠ 0 → l.foldl setRun f x ≠ 0
  | [], _, _, h => h
  | r :: l, f, hl, h => fold_keep x l _ (fun x hx => hl x (by simp [hx])) (by
    have hr := hl r (by simp)
    rw [setRun_at f hr]
    rw [refRun_iff] at hr
    split
    · omega
    · exact h)
theorem fold_nz (x : Nat) (r : RunD) (hx : r.off ≤ x ∧ (x : Int) < r.off + r.count) : ∀ (l : List RunD) (f : Nat → Int), (∀ r ∈ l, refRun r = true) → r ∈ l → l.foldl setRun f x ≠ 0
  | y :: l, f, hl, hr => by
    rcases List.mem_cons.1 hr with rfl | hr
    · refine fold_keep x l _ (fun z hz => hl z (by simp [hz])) ?_
      have hq := hl r (by simp)
      rw [setRun_at f hq, if_pos hx]
      rw [refRun_iff] at hq
      omega
    · exact fold_nz x r hx l _ (fun z hz => hl z (by simp [hz])) hr
theorem fold_zero (x : Nat) : ∀ (l : List RunD) (f : Nat → Int), (∀ r ∈ l, refRun r = true) → (∀ r ∈ l, r.off + r.count ≤ x) → f x = 0 → l.foldl setRun f x = 0
  | [], _, _, _, h => h
  | r :: l, f, hl, hz, h => fold_zero x l _ (fun z hz => hl z (by simp [hz])) (fun z hz' => hz z (by simp [hz'])) (by
    rw [setRun_at f (hl r (by simp)), if_neg (by have := hz r (by simp); omega)]; exact h)
theorem table_in {l : List RunD} (h : ∀ r ∈ l, refRun r = true) : InR (tableOf l) := fold_in l _ h fun _ => .inl rfl
theorem table_nz {l : List RunD} (h : ∀ r ∈ l, refRun r = true) {r : RunD} (hr : r ∈ l) {x : Nat} (hx : r.off ≤ x ∧ (x : Int) < r.off + r.count) : tableOf l x ≠ 0 := fold_nz x r hx l _ h hr
theorem table_zero {l : List RunD} (h : ∀ r ∈ l, refRun r = true) {x : Nat} (hx : ∀ r ∈ l, r.off + r.count ≤ x) : tableOf l x = 0 := fold_zero x l _ h hx rfl
theorem items_nil {f : Nat → Int} {N : Nat} {off : Int} (h : itemsOf f 0 N off = []) {x : Nat} (hx : x < N) (ho : off ≤ x) : f x = 0 := by
  unfold itemsOf at h
  rw [List.map_eq_nil_iff, List.filter_eq_nil_iff] at h
  have := h x (List.mem_range.2 hx)
  simp only [decide_eq_true_eq] at this
  rcases Decidable.em (f x = 0) with e | e
  · exact e
  · exact absurd ⟨e, by omega⟩ this

/-! ### the reference's good file -/
def endOf (z : Int) : Int := (z + 511) / 512
def refEnd (z : Int) (r : RunD) : Bool := refRun r && decide (r.off + r.count ≤ endOf z)
def runsT (f : Nat → Int) : List RunD := runsOf (itemsOf f 0 512 0)
def refFile (n : NodeD) : Bool := decide (0 ≤ n.size ∧ n.size ≤ 262144) && decide (n.names.length = 0) && n.map.all (refEnd n.size) && decide (n.map = runsT (tableOf n.map))
theorem refFile_eq (n : NodeD) : refFile n = fileGood n := by
  rw [Bool.eq_iff_iff]
  unfold refFile fileGood runsT
  simp only [Bool.and_eq_true, decide_eq_true_eq, List.all_eq_true]
  constructor
  · rintro ⟨⟨⟨hz, hn⟩, ha⟩, hr⟩
    have hq : ∀ r ∈ n.map, refRun r = true ∧ r.off + r.count ≤ endOf n.size := fun r hm => by
      have := ha r hm
      simpa only [refEnd, Bool.and_eq_true, decide_eq_true_eq] using this
    refine ⟨⟨⟨⟨⟨hz, hn⟩, fun r hm => ((okPage_iff r).2 (hq r hm).1).1⟩, hr.symm⟩, fun r hm => ((okPage_iff r).2 (hq r hm).1).2⟩, ?_⟩
    refine itemsOf_none fun x _ => ?_
    by_cases hx : (x : Int) < (n.size + 511) / 512
    · right; omega
    · left
      refine table_zero (fun r hm => (hq r hm).1) fun r hm => ?_
      have := (hq r hm).2
      unfold endOf at this
      omega
  · rintro ⟨⟨⟨⟨⟨hz, hn⟩, h1⟩, h2⟩, h3⟩, h4⟩
    have hq : ∀ r ∈ n.map, refRun r = true := fun r hm => (okPage_iff r).1 ⟨h1 r hm, h3 r hm⟩
    refine ⟨⟨⟨hz, hn⟩, fun r hm => ?_⟩, h2.symm⟩
    simp only [refEnd, Bool.and_eq_true, decide_eq_true_eq]
    refine ⟨hq r hm, ?_⟩
    have hr := (refRun_iff r).1 (hq r hm)
    rcases Int.lt_or_le (endOf n.size) (r.off + r.count) with hlt | hle
    · exfalso
      have hnz := table_nz hq hm (x := (r.off + r.count - 1).toNat) ⟨by omega, by omega⟩
      exact hnz (items_nil h4 (by omega) (by unfold endOf at hlt; omega))
    · exact hle

/-! ### the runs of a table, one page more at a time -/
def itemsTo (f : Nat → Int) (k : Nat) : List (Int × Int) := itemsOf f 0 k 0
def runsTo (f : Nat → Int) (k : Nat) : List RunD := runsOf (itemsTo f k)
theorem itemsTo_zero {f : Nat → Int} {k : Nat} (h : f k = 0) : itemsTo f (k + 1) = itemsTo f k := by
  unfold itemsTo
  rw [itemsOf_add, itemsOf_none (N := 1) (fun x hx => .inl (by rw [show x = 0 by omega]; exact h)), List.append_nil]
theorem itemsTo_some {f : Nat → Int} {k : Nat} (h : f k ≠ 0) : itemsTo f (k + 1) = itemsTo f k ++ [((k : Int), f k)] := by
  unfold itemsTo
  rw [itemsOf_add, itemsOf_one h (by omega)]
  simp
structure RunsCl (f : Nat → Int) (k : Nat) (L : List RunD) : Prop where
  eq : runsTo f k = L
  last : ∀ r, L.getLast? = some r → 0 ≤ r.off ∧ 0 ≤ r.page ∧ r.page ≤ 100000 ∧ 1 ≤ r.count ∧ r.off + r.count ≤ k ∧ (k < 512 → ¬ (r.off + r.count = k ∧ r.page + r.count = f k))
  len : L.length ≤ k
theorem RunsCl.start (f : Nat → Int) : RunsCl f 0 [] := ⟨rfl, (fun r h => by simp at h), Nat.zero_le _⟩
theorem RunsCl.zero {f : Nat → Int} {k : Nat} {L : List RunD} (h : RunsCl f k L) (h0 : f k = 0) : RunsCl f (k + 1) L :=
  ⟨by unfold runsTo; rw [itemsTo_zero h0]; exact h.eq, fun r hr => by
    obtain ⟨a, b, c, d, e, _⟩ := h.last r hr
    exact ⟨a, b, c, d, by omega, fun _ g => by have := g.1; omega⟩, by have := h.len; omega⟩
theorem RunsCl.one {f : Nat → Int} {k : Nat} {L : List RunD} (h : RunsCl f k L) (hin : InR f) (hk : k < 512) (h0 : f k ≠ 0) : runsTo f (k + 1) = L ++ [⟨k, f k, 1⟩] := by
  unfold runsTo
  rw [itemsTo_some h0, runsOf_snoc]
  have e : runsOf (itemsTo f k) = L := h.eq
  rw [e]
  rcases List.eq_nil_or_concat L with rfl | ⟨L', r, rfl⟩
  · exact addRun_nil _
  · rw [List.concat_eq_append] at h ⊢
    have hl := h.last r (by simp)
    rw [addRun_no]
    rintro ⟨g1, g2⟩
    have hi := hin k
    have hlen := h.len
    rw [wrap_small (by omega) (by omega)] at g1 g2
    exact hl.2.2.2.2.2 hk ⟨g1, g2⟩
theorem run_more {f : Nat → Int} {k n : Nat} {L : List RunD} (h : runsTo f (k + n) = L ++ [⟨k, f k, n⟩]) (hin : InR f) (h0 : f k ≠ 0) (hk : k + n < 512) (hf : f (k + n) = f k + n) : runsTo f (k + (n + 1)) = L ++ [⟨k, f k, ((n + 1 : Nat) : Int)⟩] := by
  have hi := hin k
  unfold runsTo at h ⊢
  rw [show k + (n + 1) = k + n + 1 by omega, itemsTo_some (by omega), runsOf_snoc, h, addRun_yes]
  · rw [wrap_small (by show -1000000000 ≤ (n : Int) + 1; omega) (by show (n : Int) + 1 ≤ 1000000000; omega)]
    push_cast; rfl
  · show wrap64 ((k : Int) + n) = ((k + n : Nat) : Int)
    rw [wrap_small (by omega) (by omega)]; push_cast; rfl
  · show wrap64 (f k + n) = f (k + n)
    rw [wrap_small (by omega) (by omega), hf]
theorem run_end {f : Nat → Int} {k n : Nat} {L : List RunD} (hc : RunsCl f k L) (hin : InR f) (h : runsTo f (k + n) = L ++ [⟨k, f k, n⟩]) (h0 : f k ≠ 0) (hn : 1 ≤ n) (he : k + n < 512 → f (k + n) ≠ f k + n) : RunsCl f (k + n) (L ++ [⟨k, f k, n⟩]) := by
  refine ⟨h, fun r hr => ?_, ?_⟩
  · obtain rfl : (⟨k, f k, n⟩ : RunD) = r := by simpa using hr
    have hi := hin k
    refine ⟨by show (0 : Int) ≤ k; omega, by show 0 ≤ f k; omega, by show f k ≤ 100000; omega, by show (1 : Int) ≤ n; omega, by show (k : Int) + n ≤ ((k + n : Nat) : Int); omega, fun hk g => ?_⟩
    exact he hk g.2.symm
  · have := hc.len
    simp only [List.length_append, List.length_singleton]; omega
theorem RunsCl.done {f : Nat → Int} {L : List RunD} (h : RunsCl f 512 L) : runsT f = L := h.eq

/-! ### the pages of runs -/
def runItems (r : RunD) : List (Int × Int) := (List.range r.count.toNat).map fun i : Nat => (r.off + (i : Int), r.page + (i : Int))
theorem runItems_one (o p : Int) : runItems ⟨o, p, 1⟩ = [(o, p)] := by
  show (List.range 1).map _ = _
  simp [List.range_succ]
theorem runItems_more {o p c : Int} (hc : 0 ≤ c) : runItems ⟨o, p, c + 1⟩ = runItems ⟨o, p, c⟩ ++ [(o + c, p + c)] := by
  unfold runItems
  have e : (c + 1).toNat = c.toNat + 1 := by omega
  show (List.range (c + 1).toNat).map _ = (List.range c.toNat).map _ ++ _
  rw [e, List.range_succ, List.map_append]
  simp only [List.map_cons, List.map_nil]
  rw [Int.toNat_of_nonneg hc]
/-- runs that no sum over overflows -/
def Mild (L : List RunD) : Prop := ∀ r ∈ L, 0 ≤ r.off ∧ r.off ≤ 100000 ∧ 0 ≤ r.page ∧ r.page ≤ 100000 ∧ 0 ≤ r.count ∧ r.count ≤ 100000
theorem add_items {L : List RunD} {x : Int × Int} (h : Mild L) : (addRun L x).flatMap runItems = L.flatMap runItems ++ [x] := by
  rcases List.eq_nil_or_concat L with rfl | ⟨L', r, rfl⟩
  · rw [addRun_nil]
    simp only [List.flatMap_cons, List.flatMap_nil, List.append_nil, List.nil_append]
    rw [runItems_one]
  · rw [List.concat_eq_append] at h ⊢
    have hm := h r (by simp)
    by_cases hc : wrap64 (r.off + r.count) = x.1 ∧ wrap64 (r.page + r.count) = x.2
    · rw [addRun_yes hc.1 hc.2]
      obtain ⟨h1, h2⟩ := hc
      rw [wrap_small (by omega) (by omega)] at h1 h2
      rw [wrap_small (by omega) (by omega), List.flatMap_append, List.flatMap_append, List.append_assoc]
      congr 1
      simp only [List.flatMap_cons, List.flatMap_nil, List.append_nil]
      rw [runItems_more hm.2.2.2.2.1, h1, h2]
    · rw [addRun_no hc, List.flatMap_append]
      congr 1
      simp only [List.flatMap_cons, List.flatMap_nil, List.append_nil]
      rw [runItems_one]
theorem add_mild {L : List RunD} {x : Int × Int} {k : Int} (h : ∀ r ∈ L, 0 ≤ r.off ∧ r.off ≤ 100000 ∧ 0 ≤ r.page ∧ r.page ≤ 100000 ∧ 0 ≤ r.count ∧ r.count ≤ k) (hk : 0 ≤ k ∧ k ≤ 10000) (hx : 0 ≤ x.1 ∧ x.1 ≤ 100000 ∧ 0 ≤ x.2 ∧ x.2 ≤ 100000) :
    ∀ r ∈ addRun L x, 0 ≤ r.off ∧ r.off ≤ 100000 ∧ 0 ≤ r.page ∧ r.page ≤ 100000 ∧ 0 ≤ r.count ∧ r.count ≤ k + 1 := by
  have hnew : ∀ r ∈ [(⟨x.1, x.2, 1⟩ : RunD)], 0 ≤ r.off ∧ r.off ≤ 100000 ∧ 0 ≤ r.page ∧ r.page ≤ 100000 ∧ 0 ≤ r.count ∧ r.count ≤ k + 1 := by
    intro r hr
    obtain rfl := List.mem_singleton.1 hr
    exact ⟨hx.1, hx.2.1, hx.2.2.1, hx.2.2.2, by show (0 : Int) ≤ 1; omega, by show (1 : Int) ≤ k + 1; omega⟩
  have hold : ∀ r ∈ L, 0 ≤ r.off ∧ r.off ≤ 100000 ∧ 0 ≤ r.page ∧ r.page ≤ 100000 ∧ 0 ≤ r.count ∧ r.count ≤ k + 1 := fun r hr => by have := h r hr; omega
  rcases List.eq_nil_or_concat L with rfl | ⟨L', r, rfl⟩
  · rw [addRun_nil]; exact hnew
  · rw [List.concat_eq_append] at h hold ⊢
    by_cases hc : wrap64 (r.off + r.count) = x.1 ∧ wrap64 (r.page + r.count) = x.2
    · rw [addRun_yes hc.1 hc.2]
      intro y hy
      rcases List.mem_append.1 hy with hy | hy
      · exact hold y (by simp [hy])
      · obtain rfl := List.mem_singleton.1 hy
        have hm := h r (by simp)
        show 0 ≤ r.off ∧ r.off ≤ 100000 ∧ 0 ≤ r.page ∧ r.page ≤ 100000 ∧ 0 ≤ wrap64 (r.count + 1) ∧ wrap64 (r.count + 1) ≤ k + 1
        rw [wrap_small (by omega) (by omega)]
        omega
    · rw [addRun_no hc]
      intro y hy
      rcases List.mem_append.1 hy with hy | hy
      · exact hold y hy
      · exact hnew y hy
theorem items_in {f : Nat → Int} (hin : InR f) {k : Nat} (hk : k ≤ 100000) {x : Int × Int} (hx : x ∈ itemsTo f k) : 0 ≤ x.1 ∧ x.1 ≤ 100000 ∧ 0 ≤ x.2 ∧ x.2 ≤ 100000 := by
  unfold itemsTo itemsOf at hx
  obtain ⟨y, hy, rfl⟩ := List.mem_map.1 hx
  have hy2 := List.mem_range.1 (List.mem_filter.1 hy).1
  have := hin y
  show 0 ≤ 0 + (y : Int) ∧ 0 + (y : Int) ≤ 100000 ∧ 0 ≤ f y ∧ f y ≤ 100000
  omega
theorem runs_items {f : Nat → Int} (hin : InR f) : ∀ k : Nat, k ≤ 512 → (runsTo f k).flatMap runItems = itemsTo f k ∧ ∀ r ∈ runsTo f k, 0 ≤ r.off ∧ r.off ≤ 100000 ∧ 0 ≤ r.page ∧ r.page ≤ 100000 ∧ 0 ≤ r.count ∧ r.count ≤ k
  | 0, _ => ⟨rfl, fun r hr => by cases hr⟩
  | k + 1, hk => by
    obtain ⟨h1, h2⟩ := runs_items hin k (by omega)
    by_cases h0 : f k = 0
    · unfold runsTo at *
      rw [itemsTo_zero h0]
      exact ⟨h1, fun r hr => by have := h2 r hr; omega⟩
    · have hx : ((k : Int), f k) ∈ itemsTo f (k + 1) := by rw [itemsTo_some h0]; simp
      have hxi := items_in hin (by omega) hx
      unfold runsTo at *
      rw [itemsTo_some h0, runsOf_snoc]
      refine ⟨?_, ?_⟩
      · rw [add_items (fun r hr => by have := h2 r hr; omega), h1]
      · have := add_mild h2 (by omega) hxi
        push_cast
        exact this
theorem pages_runs {l : List RunD} (hq : ∀ r ∈ l, refRun r = true) (h : l = runsT (tableOf l)) : (itemsOf (tableOf l) 0 512 0).map Prod.snd = l.flatMap (fun r => (runItems r).map Prod.snd) := by
  have := (runs_items (table_in hq) 512 (Nat.le_refl _)).1
  have e : runsTo (tableOf l) 512 = l := h.symm
  rw [e] at this
  have e2 : itemsOf (tableOf l) 0 512 0 = l.flatMap runItems := this.symm
  rw [e2, List.map_flatMap]
end Go.Proofs.Ytabebkffcmajkaa

/-! Plain law: what the reference asks of a directory is what the code asks. No memory in it. -/
namespace Go.Proofs.Ytabebkffcmajkaa
open Go.RowKit Go.Maps Go.Shelf

def goodDent (x : ByteArray × Int) : Bool := goodName x.1 && decide (2 ≤ x.2 ∧ x.2 ≤ 256)
def Rises (l : List (ByteArray × Int)) : Prop := l.Pairwise fun a b => strLt a.1 b.1 = true
instance (l : List (ByteArray × Int)) : Decidable (Rises l) := inferInstanceAs (Decidable (List.Pairwise _ l))
theorem rises_snoc {l : List (ByteArray × Int)} {k : Nat} (h : Rises (l.take k)) (hk : k < l.length) (hs : ∀ h0 : 0 < k, strLt (l[k - 1]'(by omega)).1 l[k].1 = true) : Rises (l.take (k + 1)) := by
  unfold Rises at *
  rw [List.take_succ_eq_append_getElem hk, List.pairwise_append]
  refine ⟨h, by simp, ?_⟩
  intro a ha b hb
  obtain rfl := List.mem_singleton.1 hb
  obtain ⟨j, hj, rfl⟩ := List.getElem_of_mem ha
  have hj2 : j < k := by have := hj; simp only [List.length_take] at this; omega
  have hjl : j < l.length := by omega
  have ej : (l.take k)[j] = l[j] := by simp
  rw [ej]
  by_cases e : j = k - 1
  · subst e; exact hs (by omega)
  · have hlast := hs (by omega)
    have := (List.pairwise_iff_getElem.1 h) j (k - 1) hj (by simp only [List.length_take]; omega) (by omega)
    rw [ej] at this
    have e2 : (l.take k)[k - 1]'(by simp only [List.length_take]; omega) = l[k - 1]'(by omega) := by simp
    rw [e2] at this
    exact strLt_trans this hlast
theorem rises_not {l : List (ByteArray × Int)} {k : Nat} (hk : k < l.length) (h0 : 0 < k) (hs : strLt (l[k - 1]'(by omega)).1 l[k].1 = false) : ¬ Rises l := by
  intro h
  have := (List.pairwise_iff_getElem.1 h) (k - 1) k (by omega) hk (by omega)
  rw [hs] at this; cases this
def refDir (n : NodeD) : Bool := decide (n.size = 0) && decide (n.map.length = 0) && (n.names.all goodDent && decide (Rises n.names))

def rowIn1 (x : ByteArray × Int) : Row := ⟨1, x.1, x.2⟩
theorem goodDent_iff (x : ByteArray × Int) : goodDent x = true ↔ goodName x.1 = true ∧ 2 ≤ x.2 ∧ x.2 ≤ 256 := by simp [goodDent]
theorem rowIn1_ok {x : ByteArray × Int} (h : goodDent x = true) : (rowIn1 x).Ok := by
  rw [goodDent_iff] at h
  exact ⟨⟨by show (1 : Int) ≤ 1; omega, by show (1 : Int) ≤ 256; omega⟩, ⟨by show 1 ≤ x.2; omega, by show x.2 ≤ 256; omega⟩, h.1⟩
theorem findIno_no {R : List Row} {s : ByteArray} (h : ∀ r ∈ R, ¬ (r.dir = 1 ∧ r.name = s)) : findIno R 1 s = 0 := by
  unfold findIno
  rw [List.find?_eq_none.2 (by simpa using h)]; rfl
theorem dirStep_yes {R : List Row} {x : ByteArray × Int} (hg : goodDent x = true) (h : ∀ r ∈ R, ¬ (r.dir = 1 ∧ r.name = x.1)) : dirStep (some R) x = some (rowIn1 x :: R) := by
  rw [goodDent_iff] at hg
  have h1 : isInodeB 1 = true := by decide
  have h2 : isInodeB x.2 = true := by simp [isInodeB]; omega
  have he : putErr R 1 x.1 x.2 = 0 := by
    unfold putErr
    rw [if_neg (by rw [h1, h2]; simp), if_neg (by rw [hg.1]; simp), if_neg (by rw [findIno_no h]; simp)]
  simp only [dirStep, Option.bind_some]
  rw [if_neg (by rintro (h | h); · omega
                 · exact h he)]
  rfl
theorem fold_dir : ∀ (l : List (ByteArray × Int)) (R : List Row), (∀ x ∈ l, goodDent x = true) → (l.map Prod.fst).Nodup → (∀ x ∈ l, ∀ r ∈ R, ¬ (r.dir = 1 ∧ r.name = x.1)) → l.foldl dirStep (some R) = some ((l.map rowIn1).reverse ++ R)
  | [], R, _, _, _ => rfl
  | x :: l, R, hg, hn, hR => by
    rw [List.foldl_cons, dirStep_yes (hg x (by simp)) (hR x (by simp))]
    rw [List.map_cons, List.nodup_cons] at hn
    rw [fold_dir l _ (fun y hy => hg y (by simp [hy])) hn.2 ?_]
    · simp
    · intro y hy r hr
      rcases List.mem_cons.1 hr with rfl | hr
      · rintro ⟨_, e⟩
        exact hn.1 (by rw [show x.1 = y.1 from e]; exact List.mem_map_of_mem hy)
      · exact hR y (by simp [hy]) r hr
theorem fold_of : ∀ (l : List (ByteArray × Int)) (R rows : List Row), (∀ r ∈ R, r.Ok) → l.foldl dirStep (some R) = some rows → (∀ x ∈ l, goodDent x = true) ∧ (l.map Prod.fst).Nodup ∧ (∀ x ∈ l, ∀ r ∈ R, ¬ (r.dir = 1 ∧ r.name = x.1))
  | [], R, _, _, _ => ⟨by simp, by simp, by simp⟩
  | x :: l, R, rows, hok, h => by
    rw [List.foldl_cons] at h
    by_cases hc : x.2 = 1 ∨ putErr R 1 x.1 x.2 ≠ 0
    · have e : dirStep (some R) x = none := by simp only [dirStep, Option.bind_some]; rw [if_pos hc]
      rw [e, dirStep_none] at h; cases h
    · have e : dirStep (some R) x = some (rowIn1 x :: R) := by simp only [dirStep, Option.bind_some]; rw [if_neg hc]; rfl
      rw [e] at h
      have hc1 : x.2 ≠ 1 := fun h => hc (.inl h)
      have hc2 : putErr R 1 x.1 x.2 = 0 := by
        rcases Decidable.em (putErr R 1 x.1 x.2 = 0) with e | e
        · exact e
        · exact absurd (.inr e) hc
      unfold putErr at hc2
      split at hc2
      · cases hc2
      · rename_i hi
        split at hc2
        · cases hc2
        · rename_i hg
          split at hc2
          · cases hc2
          · rename_i hf
            have hi2 : isInodeB x.2 = true := by
              cases hb : isInodeB x.2
              · exact absurd (.inr hb) hi
              · rfl
            have hg2 : goodName x.1 = true := by simpa using hg
            have hf2 : findIno R 1 x.1 = 0 := by
              rcases Decidable.em (findIno R 1 x.1 = 0) with e | e
              · exact e
              · exact absurd e hf
            have hgd : goodDent x = true := by
              rw [goodDent_iff]
              simp only [isInodeB, decide_eq_true_eq] at hi2
              exact ⟨hg2, by omega, by omega⟩
            have hno := findIno_zero hok hf2
            rw [List.find?_eq_none] at hno
            obtain ⟨i1, i2, i3⟩ := fold_of l (rowIn1 x :: R) rows (fun r hr => by
              rcases List.mem_cons.1 hr with rfl | hr
              · exact rowIn1_ok hgd
              · exact hok r hr) h
            refine ⟨fun y hy => ?_, ?_, fun y hy r hr => ?_⟩
            · rcases List.mem_cons.1 hy with rfl | hy
              · exact hgd
              · exact i1 y hy
            · rw [List.map_cons, List.nodup_cons]
              refine ⟨fun hin => ?_, i2⟩
              obtain ⟨y, hy, e⟩ := List.mem_map.1 hin
              exact i3 y hy (rowIn1 x) (by simp) ⟨rfl, e.symm⟩
            · rcases List.mem_cons.1 hy with rfl | hy
              · have := hno r hr; simpa using this
              · exact i3 y hy r (by simp [hr])
def dirList (l : List (ByteArray × Int)) : List Row := (l.map rowIn1).reverse
theorem dirRows_ok {l : List (ByteArray × Int)} (h : ∀ x ∈ l, goodDent x = true) (hn : (l.map Prod.fst).Nodup) : dirRows l = some (dirList l) := by
  have := fold_dir l [] h hn (by simp)
  rw [List.append_nil] at this
  exact this
theorem dirRows_of {l : List (ByteArray × Int)} {rows : List Row} (h : dirRows l = some rows) : (∀ x ∈ l, goodDent x = true) ∧ (l.map Prod.fst).Nodup ∧ rows = dirList l := by
  obtain ⟨h1, h2, _⟩ := fold_of l [] rows (by simp) h
  refine ⟨h1, h2, ?_⟩
  have := dirRows_ok h1 h2
  rw [h] at this
  exact Option.some.inj this
theorem dirList_nodup {l : List (ByteArray × Int)} (hn : (l.map Prod.fst).Nodup) : ((dirList l).map (fun r => (r.dir, r.name))).Nodup := by
  unfold dirList
  rw [List.map_reverse, List.map_map]
  refine (List.reverse_perm _).nodup_iff.2 ?_
  have e : (l.map ((fun r : Row => (r.dir, r.name)) ∘ rowIn1)) = (l.map Prod.fst).map fun s => ((1 : Int), s) := by rw [List.map_map]; rfl
  rw [e]
  exact List.Pairwise.map _ (fun a b hab h => hab (Prod.mk.inj h).2) hn
theorem namesIn_dir (l : List (ByteArray × Int)) : namesIn (dirList l) 1 = (l.map Prod.fst).reverse := by
  unfold namesIn dirList
  rw [List.filter_eq_self.2 ?_, List.map_reverse, List.map_map]
  · rfl
  · intro r hr
    obtain ⟨x, _, rfl⟩ := List.mem_map.1 (List.mem_reverse.1 hr)
    simp [rowIn1]
theorem listNames_dir (l : List (ByteArray × Int)) : listNames (dirList l) 1 = sortNames (l.map Prod.fst) := by
  unfold listNames
  rw [namesIn_dir]
  exact sortNames_perm (List.reverse_perm _)
theorem sortNames_of_rises {l : List ByteArray} (h : l.Pairwise fun a b => strLt a b = true) : sortNames l = l :=
  eq_of_perm_pairwise (le := fun x y => (!strLt y x) = true) (fun a b h1 h2 => by
      simp only [Bool.not_eq_true'] at h1 h2
      exact strLt_tri h2 h1) (List.mergeSort_perm _ _) (sortNames_sorted l) (h.imp fun {a b} hab => by rw [strLt_asymm hab]; rfl)
theorem pairs_dir {l : List (ByteArray × Int)} (hn : (l.map Prod.fst).Nodup) : pairsOf (findIno (dirList l) 1) (l.map Prod.fst) = l := by
  unfold pairsOf
  rw [List.map_map]
  conv => rhs; rw [← List.map_id l]
  refine List.map_congr_left fun x hx => ?_
  have hm : rowIn1 x ∈ dirList l := by unfold dirList; rw [List.mem_reverse]; exact List.mem_map_of_mem hx
  have := findIno_mem (dirList_nodup hn) hm
  show (x.1, findIno (dirList l) 1 x.1) = x
  rw [show findIno (dirList l) 1 x.1 = x.2 from this]
theorem rises_nodup {l : List (ByteArray × Int)} (h : Rises l) : (l.map Prod.fst).Nodup := by
  unfold List.Nodup
  rw [List.pairwise_map]
  refine List.Pairwise.imp (fun {a b} hab e => ?_) h
  rw [e, strLt_irrefl] at hab; cases hab
theorem pairsOf_fst (f : ByteArray → Int) (ns : List ByteArray) : (pairsOf f ns).map Prod.fst = ns := by
  unfold pairsOf
  rw [List.map_map]
  exact List.map_id ns
theorem namesOf_dir {l : List (ByteArray × Int)} (hn : (l.map Prod.fst).Nodup) : namesOf (dirList l) = l ↔ Rises l := by
  unfold namesOf
  rw [listNames_dir]
  constructor
  · intro h
    have e : sortNames (l.map Prod.fst) = l.map Prod.fst := by
      have := congrArg (List.map Prod.fst) h
      rw [pairsOf_fst] at this
      exact this
    have hs := sortNames_sorted (l.map Prod.fst)
    rw [e] at hs
    have hb : (l.map Prod.fst).Pairwise fun a b => strLt a b = true := by
      refine List.Pairwise.imp₂ (R := fun a b => (!strLt b a) = true) (S := fun a b => a ≠ b) ?_ hs hn
      intro a b h1 h2
      simp only [Bool.not_eq_true'] at h1
      cases h3 : strLt a b
      · exact absurd (strLt_tri h3 h1) h2
      · rfl
    rw [List.pairwise_map] at hb
    exact hb
  · intro h
    have hb : (l.map Prod.fst).Pairwise fun a b => strLt a b = true := by rw [List.pairwise_map]; exact h
    rw [sortNames_of_rises hb]
    exact pairs_dir hn
theorem refDir_eq (n : NodeD) : refDir n = dirGood n := by
  unfold refDir dirGood
  congr 1
  cases h : dirRows n.names with
  | none =>
    show _ = false
    rw [Bool.eq_false_iff]
    intro hb
    simp only [Bool.and_eq_true, List.all_eq_true, decide_eq_true_eq] at hb
    rw [dirRows_ok hb.1 (rises_nodup hb.2)] at h
    cases h
  | some rows =>
    obtain ⟨h1, h2, rfl⟩ := dirRows_of h
    show _ = decide (namesOf (dirList n.names) = n.names)
    rw [List.all_eq_true.2 h1, Bool.true_and]
    exact decide_eq_decide.2 (namesOf_dir h2).symm
def refGood (n : NodeD) : Bool := if n.kind = 1 then refFile n else if n.kind = 2 then refDir n else false
theorem refGood_eq (n : NodeD) : refGood n = nodeGood n := by unfold refGood nodeGood; rw [refFile_eq, refDir_eq]
end Go.Proofs.Ytabebkffcmajkaa
