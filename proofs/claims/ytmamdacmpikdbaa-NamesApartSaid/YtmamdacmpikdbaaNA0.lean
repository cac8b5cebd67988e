import Derived.Test.YtmamdacmpikdbaaP7
import Derived.Test.YtmamdacmpikdbaaC2
import Derived.Test.YtmamdacmpikdbaaNK1
import Derived.Test.YtmamdacmpikdbaaSt
import Derived.Test.YtmamdacmpikdbaaA2
/-! Lists that are written into, and appended to. -/
namespace Go.Proofs.Ytmamdacmpikdbaa
open Go.RowKit Go.Maps Go.Shelf

/-- a slice of pairs whose block lies from lo on, below hi -/
def DAt (w : World) (lo hi : Nat) (v : Value) (l : List (ByteArray × Int)) : Prop :=
  ∃ A c, v = .slice A l.length c ∧ l.length ≤ c ∧ c ≤ maxLen ∧ (0 < l.length → ∃ g, A = some ⟨g, 0, none⟩ ∧ lo ≤ g ∧ g < hi ∧ g < w.heap.size ∧ ∀ j u, (pairCells l)[j]? = some u → w.cell? ⟨g, j, none⟩ = some u)
theorem DAt.dents {w : World} {lo hi : Nat} {v : Value} {l : List (ByteArray × Int)} (h : DAt w lo hi v l) : Dents w lo v l := by
  obtain ⟨A, c, h1, h2, h3, h4⟩ := h
  exact ⟨A, c, h1, h2, h3, fun hp => by obtain ⟨g, e, g1, _, g3, g4⟩ := h4 hp; exact ⟨g, e, g1, g3, g4⟩⟩
theorem Dents.at_ {w : World} {lo : Nat} {v : Value} {l : List (ByteArray × Int)} (h : Dents w lo v l) : DAt w lo w.heap.size v l := by
  obtain ⟨A, c, h1, h2, h3, h4⟩ := h
  exact ⟨A, c, h1, h2, h3, fun hp => by obtain ⟨g, e, g1, g3, g4⟩ := h4 hp; exact ⟨g, e, g1, g3, g3, g4⟩⟩
theorem DAt.mod {S : Nat → Prop} {w w' : World} {lo hi : Nat} {v : Value} {l : List (ByteArray × Int)} (h : DAt w lo hi v l) (hm : Mod S w w') (hs : ∀ k, lo ≤ k → k < hi → ¬ S k) : DAt w' lo hi v l := by
  obtain ⟨A, c, h1, h2, h3, h4⟩ := h
  exact ⟨A, c, h1, h2, h3, fun hp => by
    obtain ⟨g, e, g1, g2, g3, g4⟩ := h4 hp
    exact ⟨g, e, g1, g2, Nat.lt_of_lt_of_le g3 hm.size, fun j u hj => (World.cell?_of_block (hm.block g g3 (hs g g1 g2))).trans (g4 j u hj)⟩⟩
theorem DAt.shape {w : World} {lo hi : Nat} {v : Value} {l : List (ByteArray × Int)} (h : DAt w lo hi v l) : ∃ A c, v = .slice A l.length c ∧ l.length ≤ c ∧ c ≤ maxLen := by
  obtain ⟨A, c, h1, h2, h3, _⟩ := h
  exact ⟨A, c, h1, h2, h3⟩

/-- the first k pairs written over with marks -/
def marked (s : ByteArray) (f : Nat → Int) (l : List (ByteArray × Int)) (k : Nat) : List (ByteArray × Int) := ((List.range k).map fun i => (s, f i)) ++ l.drop k
theorem marked_zero (s : ByteArray) (f : Nat → Int) (l : List (ByteArray × Int)) : marked s f l 0 = l := by simp [marked]
theorem marked_length (s : ByteArray) (f : Nat → Int) (l : List (ByteArray × Int)) {k : Nat} (hk : k ≤ l.length) : (marked s f l k).length = l.length := by
  unfold marked; rw [List.length_append, List.length_map, List.length_range, List.length_drop]; omega
theorem marked_succ (s : ByteArray) (f : Nat → Int) (l : List (ByteArray × Int)) {k : Nat} (hk : k < l.length) : (marked s f l k).set k (s, f k) = marked s f l (k + 1) := by
  unfold marked
  rw [List.set_append_right _ _ (by simp), List.range_succ, List.map_append, List.append_assoc]
  congr 1
  rw [List.length_map, List.length_range, Nat.sub_self, List.drop_eq_getElem_cons hk]
  rfl
theorem marked_at (s : ByteArray) (f : Nat → Int) (l : List (ByteArray × Int)) {i : Nat} (_hi : i < l.length) (h : i < (marked s f l l.length).length) : (marked s f l l.length)[i] = (s, f i) := by
  have e : marked s f l l.length = (List.range l.length).map fun i => (s, f i) := by simp [marked]
  simp [e]
theorem pairCells_set (l : List (ByteArray × Int)) (k : Nat) (p : ByteArray × Int) (hk : k < l.length) : pairCells (l.set k p) = ((pairCells l).set (k * 2) (.string p.1)).set (k * 2 + 1) (.int .i64 p.2) := by
  induction l generalizing k with
  | nil => simp at hk
  | cons q l ih =>
    cases k with
    | zero => simp [pairCells]
    | succ k =>
      have e1 : (k + 1) * 2 = k * 2 + 1 + 1 := by omega
      have := ih k (by simpa using hk)
      unfold pairCells at this ⊢
      simp only [e1, List.set_cons_succ, List.flatMap_cons, List.cons_append, List.nil_append, this]
theorem list_own (w : World) (b : Nat) (rows : List Row) (d : Int) (hlen : rows.length ≤ 5000000000000) (hd : (Lit.int .i64 d).wf = true) (h : IndexAt w b rows) :
    Calls Try.prog 19 #[.pointer (some ⟨b + 3, 0, none⟩), .int .i64 d] w fun e w' => ∃ v, e = .returned v ∧ w'.ownsRow w.heap.size 36 2 v (listPairs rows d).length (pairCells (listPairs rows d)) ∧ Mod None_ w w' := by
  refine (list_any w b rows d hlen hd h).mono ?_
  rintro e w' ⟨v, rfl, ho, hm⟩
  refine ⟨v, rfl, ?_, hm⟩
  unfold listPairs
  rw [pairsOf_cells, pairsOf_length]
  exact ho
/-- a row of pairs, and in what blocks it may lie -/
structure OAt (w : World) (lo : Nat) (S : Nat → Prop) (A : Option Addr) (c : Nat) (l : List (ByteArray × Int)) : Prop where
  own : w.ownsRow lo 36 2 (.slice A l.length c) l.length (pairCells l)
  blk : ∀ g, (Value.slice A l.length c).ownBlock = some g → S g
theorem OAt.mod {S T : Nat → Prop} {w w' : World} {lo : Nat} {A : Option Addr} {c : Nat} {l : List (ByteArray × Int)} (h : OAt w lo T A c l) (hm : Mod S w w') (hs : ∀ k, T k → ¬ S k) : OAt w' lo T A c l :=
  ⟨own_mod h.own hm fun g hg => hs g (h.blk g hg), h.blk⟩
theorem OAt.dents {w : World} {lo : Nat} {S : Nat → Prop} {A : Option Addr} {c : Nat} {l : List (ByteArray × Int)} (h : OAt w lo S A c l) : Dents w lo (.slice A l.length c) l := Dents.of_own h.own
theorem OAt.at_ {w : World} {lo : Nat} {S : Nat → Prop} {A : Option Addr} {c : Nat} {l : List (ByteArray × Int)} (h : OAt w lo S A c l) {k : Nat} (hk : k < l.length) : ∃ g, A = some ⟨g, 0, none⟩ ∧ S g ∧ g < w.heap.size ∧
    w.cell? ⟨g, k * 2, none⟩ = some (.string l[k].1) ∧ w.cell? ⟨g, k * 2 + 1, none⟩ = some (.int .i64 l[k].2) ∧ (∀ i, w.frozen? ⟨g, i, none⟩ = false) ∧ l.length ≤ c ∧ c ≤ maxLen := by
  rcases h.own.2 with ⟨_, h0⟩ | ⟨g, cap, cur, hv, hb, hg, hn, hc, hs, ht⟩
  · omega
  · simp only [Value.slice.injEq, true_and] at hv
    obtain ⟨rfl, rfl⟩ := hv
    have hB : Blk w g 36 cur := hg
    have hcell := h.own.cells (g := g) rfl
    have c1 := hcell _ _ (pairCells_fst l k hk)
    have c2 := hcell _ _ (pairCells_snd l k hk)
    simp only [Addr.add_lit, Nat.zero_add] at c1 c2
    exact ⟨g, rfl, h.blk g rfl, hB.lt, c1, c2, fun i => hB.frozen i, hn, hc⟩
/-- a pair is stored into the row -/
theorem OAt.set_ {w : World} {lo g : Nat} {S : Nat → Prop} {c : Nat} {l : List (ByteArray × Int)} (h : OAt w lo S (some ⟨g, 0, none⟩) c l) {k : Nat} (hk : k < l.length) (p : ByteArray × Int) :
    OAt ((w.setCell ⟨g, k * 2, none⟩ (.string p.1)).setCell ⟨g, k * 2 + 1, none⟩ (.int .i64 p.2)) lo S (some ⟨g, 0, none⟩) c (l.set k p) ∧
    Mod (· = g) w ((w.setCell ⟨g, k * 2, none⟩ (.string p.1)).setCell ⟨g, k * 2 + 1, none⟩ (.int .i64 p.2)) := by
  have el : (l.set k p).length = l.length := by simp
  refine ⟨⟨?_, by rw [el]; exact h.blk⟩, ((Mod.refl (· = g) w).setCell (p := ⟨g, k * 2, none⟩) (.inr rfl) _).setCell (p := ⟨g, k * 2 + 1, none⟩) (.inr rfl) _⟩
  rw [el]
  rcases h.own.2 with ⟨h0, _⟩ | ⟨g', cap, cur, hv, hb, hg, hn, hc, hs, ht⟩
  · cases h0
  · simp only [Value.slice.injEq, Option.some.injEq, Addr.mk.injEq, true_and, and_true] at hv
    obtain ⟨rfl, rfl⟩ := hv
    have hB : Blk w g 36 cur := hg
    have hB2 := (hB.set_ (k * 2) (.string p.1)).set_ (k * 2 + 1) (.int .i64 p.2)
    refine ⟨by rw [pairCells_length, el], .inr ⟨g, c, _, rfl, hb, hB2, hn, hc, by simpa using hs, ?_⟩⟩
    rw [pairCells_set l k p hk]
    simp only [Array.toList_setIfInBounds]
    rw [List.take_set, List.take_set, ht]
/-- a slice that reads as these pairs, and in what blocks it may lie -/
def RAt (w : World) (S : Nat → Prop) (A : Option Addr) (l : List (ByteArray × Int)) : Prop :=
  0 < l.length → ∃ g, A = some ⟨g, 0, none⟩ ∧ S g ∧ g < w.heap.size ∧ ∀ j u, (pairCells l)[j]? = some u → w.cell? ⟨g, j, none⟩ = some u
theorem RAt.mod {S T : Nat → Prop} {w w' : World} {A : Option Addr} {l : List (ByteArray × Int)} (h : RAt w T A l) (hm : Mod S w w') (hs : ∀ k, T k → ¬ S k) : RAt w' T A l := fun hp => by
  obtain ⟨g, e, h1, h2, h3⟩ := h hp
  exact ⟨g, e, h1, Nat.lt_of_lt_of_le h2 hm.size, fun j u hj => (World.cell?_of_block (hm.block g h2 (hs g h1))).trans (h3 j u hj)⟩
theorem OAt.mono {S T : Nat → Prop} {w : World} {lo : Nat} {A : Option Addr} {c : Nat} {l : List (ByteArray × Int)} (h : OAt w lo S A c l) (hs : ∀ k, S k → T k) : OAt w lo T A c l := ⟨h.own, fun g hg => hs g (h.blk g hg)⟩
set_option maxRecDepth 100000 in
theorem append_own (W : World) (lo : Nat) (S : Nat → Prop) (A : Option Addr) (c n : Nat) (l : List (ByteArray × Int)) (p : ByteArray × Int) (ty : TypeId) (hn : l.length = n) (h : OAt W lo S A c l) (hlo : lo ≤ W.heap.size) (hl : l.length ≤ 5000000000000) :
    ∃ A' c' w', (Builtin.append_ #[28, 28] ty #[.slice A n c, .slice (some ⟨W.heap.size, 0, none⟩) 1 1]).run Try.prog (W.alloc (.cells #[.string p.1, .int .i64 p.2] 36)) = .ok (.slice A' (n + 1) c') w' ∧
      OAt w' lo (fun g => S g ∨ W.heap.size ≤ g) A' c' (l ++ [p]) ∧ RAt w' S A l ∧ Mod S W w' := by
  subst hn
  obtain ⟨i0, hi, hz, hsz, hby⟩ := info_parts info36
  obtain ⟨w, hw⟩ : ∃ w, w = W.alloc (.cells #[.string p.1, .int .i64 p.2] 36) := ⟨_, rfl⟩
  have hM : Mod None_ W w := by rw [hw]; exact (Mod.refl _ W).alloc _
  have h1 := h.mod hM (fun _ _ f => f)
  have hsw : w.heap.size = W.heap.size + 1 := by rw [hw, alloc_size]
  have hB : Blk w W.heap.size 36 #[.string p.1, .int .i64 p.2] := by rw [hw]; exact Blk.new _ _ _
  rw [← hw]
  have hnews : ∀ (j : Nat) (u : Value), [Value.string p.1, Value.int .i64 p.2][j]? = some u → w.cell? ((⟨W.heap.size, 0, none⟩ : Addr).add j) = some u := by
    intro j u hj
    rw [Addr.add_lit, Nat.zero_add, hB.cell]
    match j, hj with
    | 0, hj => simpa using hj
    | 1, hj => simpa using hj
  have hone : ∀ u ∈ [Value.string p.1, Value.int .i64 p.2], u.oneCell' = true := by
    intro u hu
    rcases List.mem_cons.1 hu with rfl | hu
    · rfl
    · rcases List.mem_cons.1 hu with rfl | hu
      · rfl
      · cases hu
  obtain ⟨v', w', hrun, hown', hgr, _, hat⟩ := run_append_own_at (P := Try.prog) w lo 28 ty 36 i0 _ 2 24 Try.underlying28 hi hz hsz hby rfl (by decide) _ l.length _ h1.own ⟨W.heap.size, 0, none⟩ 1 1 [.string p.1, .int .i64 p.2] rfl hnews hone (by unfold maxLen; omega) (by omega) (by omega)
  have epc : pairCells l ++ [Value.string p.1, Value.int .i64 p.2] = pairCells (l ++ [p]) := by simp [pairCells]
  rw [epc] at hown'
  have ell : (l ++ [p]).length = l.length + 1 := by simp
  obtain ⟨A', c', rfl⟩ := own_slice hown'
  have hm' : Mod S W w' := hM.none.trans' (Mod.of_grown hgr) (fun k hk e => h.blk k e.symm)
  refine ⟨A', c', w', hrun, ⟨by rw [ell]; exact hown', fun g hg => ?_⟩, fun hp => ?_, hm'⟩
  · rw [ell] at hg
    rcases hat with e | e
    · exact .inl (h.blk g (by rw [← hg]; cases A <;> cases A' <;> simp_all [Value.ownBlock]))
    · right
      rw [hg] at e
      injection e with e
      omega
  · rcases h1.own.2 with ⟨_, h0⟩ | ⟨g, cap, cur, hv, hb, hg, hn, hc, hs, ht⟩
    · omega
    · simp only [Value.slice.injEq, true_and] at hv
      obtain ⟨rfl, rfl⟩ := hv
      have hgl : g < w.heap.size := (Array.getElem?_eq_some_iff.1 hg).1
      have hSg : S g := h.blk g rfl
      have holds := h1.own.cells (g := g) rfl
      refine ⟨g, rfl, hSg, Nat.lt_of_lt_of_le hgl hgr.size, fun j u hj => ?_⟩
      by_cases hroom : l.length + 1 ≤ c
      · have hr := run_append_room (P := Try.prog) w 28 ty 36 i0 Try.underlying28 hi g l.length c cur hg ⟨W.heap.size, 0, none⟩ 1 1 [.string p.1, .int .i64 p.2] (by rw [hsz]; rfl) hnews hone hroom (by rw [hsz, hs]; simp; omega)
        obtain ⟨e1, e2⟩ := Result.ok.inj (hrun.symm.trans hr)
        simp only [Value.slice.injEq, true_and] at e1
        obtain ⟨rfl, rfl⟩ := e1
        have hcells := hown'.cells (g := g) rfl
        have := hcells j u (by rw [← epc, List.getElem?_append_left (Array.getElem?_eq_some_iff.1 (by simpa using hj)).1]; exact hj)
        rwa [Addr.add_lit, Nat.zero_add] at this
      · have hr := run_append_grow (P := Try.prog) w 28 ty 36 i0 _ Try.underlying28 hi hz ⟨g, 0, none⟩ l.length c _ (by rw [hsz]; exact h1.own.1) holds ⟨W.heap.size, 0, none⟩ 1 1 [.string p.1, .int .i64 p.2] (by rw [hsz]; rfl) hnews (by omega) (by omega) (by rw [hby]; exact growslice_fits (by omega) (by omega))
        obtain ⟨e1, e2⟩ := Result.ok.inj (hrun.symm.trans hr)
        rw [e2]
        have := holds j u hj
        rw [Addr.add_lit, Nat.zero_add] at this
        exact (World.cell?_of_block (Below.heap_alloc w.drew _ g hgl)).trans this
end Go.Proofs.Ytmamdacmpikdbaa
