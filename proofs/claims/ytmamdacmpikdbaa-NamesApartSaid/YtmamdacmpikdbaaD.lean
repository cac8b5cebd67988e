import Derived.Test.YtmamdacmpikdbaaW11
import Derived.Maps.AppendAt
/-! Lists of entries as pairs; sameDents, copyDents. -/
namespace Go.Proofs.Ytmamdacmpikdbaa
open Go.RowKit Go.Maps

def pairCells (l : List (ByteArray × Int)) : List Value := l.flatMap fun p => [.string p.1, .int .i64 p.2]
def pairsOf (f : ByteArray → Int) (ns : List ByteArray) : List (ByteArray × Int) := ns.map fun s => (s, f s)
theorem pairsOf_cells (f : ByteArray → Int) (ns : List ByteArray) : pairCells (pairsOf f ns) = dentCells f ns := by
  unfold pairCells pairsOf dentCells
  rw [List.flatMap_map]; rfl
theorem pairsOf_length (f : ByteArray → Int) (ns : List ByteArray) : (pairsOf f ns).length = ns.length := by simp [pairsOf]
theorem pairCells_length (l : List (ByteArray × Int)) : (pairCells l).length = l.length * 2 := by
  induction l with
  | nil => rfl
  | cons x l ih => unfold pairCells at *; rw [List.flatMap_cons, List.length_append, ih]; simp; omega
theorem pairCells_fst : ∀ (l : List (ByteArray × Int)) (i : Nat) (h : i < l.length), (pairCells l)[i * 2]? = some (.string l[i].1)
  | x :: l, 0, _ => by simp [pairCells]
  | x :: l, i + 1, h => by
    have ih := pairCells_fst l i (by simpa using h)
    have : (pairCells (x :: l))[(i + 1) * 2]? = (pairCells l)[i * 2]? := by
      unfold pairCells
      rw [List.flatMap_cons, show (i + 1) * 2 = i * 2 + 2 from by omega]
      simp
    rw [this, ih]; rfl
theorem pairCells_snd : ∀ (l : List (ByteArray × Int)) (i : Nat) (h : i < l.length), (pairCells l)[i * 2 + 1]? = some (.int .i64 l[i].2)
  | x :: l, 0, _ => by simp [pairCells]
  | x :: l, i + 1, h => by
    have ih := pairCells_snd l i (by simpa using h)
    have : (pairCells (x :: l))[(i + 1) * 2 + 1]? = (pairCells l)[i * 2 + 1]? := by
      unfold pairCells
      rw [List.flatMap_cons, show (i + 1) * 2 + 1 = i * 2 + 1 + 2 from by omega]
      simp
    rw [this, ih]; rfl

/-- a slice of entries that reads as l; where it is not empty its row lies from block lo on -/
def Dents (w : World) (lo : Nat) (v : Value) (l : List (ByteArray × Int)) : Prop :=
  ∃ A c, v = .slice A l.length c ∧ l.length ≤ c ∧ c ≤ maxLen ∧ (0 < l.length → ∃ g, A = some ⟨g, 0, none⟩ ∧ lo ≤ g ∧ g < w.heap.size ∧ ∀ j u, (pairCells l)[j]? = some u → w.cell? ⟨g, j, none⟩ = some u)
theorem Dents.mod {S : Nat → Prop} {w w' : World} {lo : Nat} {v : Value} {l : List (ByteArray × Int)} (h : Dents w lo v l) (hm : Mod S w w') (hs : ∀ k, lo ≤ k → ¬ S k) : Dents w' lo v l := by
  obtain ⟨A, c, h1, h2, h3, h4⟩ := h
  refine ⟨A, c, h1, h2, h3, fun h0 => ?_⟩
  obtain ⟨g, e, hl, hg, hc⟩ := h4 h0
  refine ⟨g, e, hl, Nat.lt_of_lt_of_le hg hm.size, fun j u hj => ?_⟩
  exact (World.cell?_of_block (hm.block g hg (hs g hl))).trans (hc j u hj)
theorem Dents.lo {w : World} {lo lo' : Nat} {v : Value} {l : List (ByteArray × Int)} (h : Dents w lo v l) (hl : lo' ≤ lo) : Dents w lo' v l := by
  obtain ⟨A, c, h1, h2, h3, h4⟩ := h
  exact ⟨A, c, h1, h2, h3, fun h0 => by obtain ⟨g, e, hg, r⟩ := h4 h0; exact ⟨g, e, by omega, r⟩⟩
theorem Dents.of_own {w : World} {base : Nat} {v : Value} {l : List (ByteArray × Int)} (h : w.ownsRow base 36 2 v l.length (pairCells l)) : Dents w base v l := by
  rcases h.2 with ⟨rfl, h0⟩ | ⟨g, cap, cur, rfl, hb, hh, h1, h2, h3, h4⟩
  · exact ⟨none, 0, by rw [h0], by omega, Nat.zero_le _, fun hp => by omega⟩
  · refine ⟨_, cap, rfl, h1, h2, fun h0 => ?_⟩
    obtain ⟨g', cap', e, hb', hlt, _, _, hc⟩ := own_cells h h0
    simp only [Value.slice.injEq, Option.some.injEq, Addr.mk.injEq, true_and, and_true] at e
    exact ⟨g', by rw [e.1], hb', hlt, hc⟩

/-- List's answer, as pairs -/
def listPairs (rows : List Row) (d : Int) : List (ByteArray × Int) := pairsOf (findIno rows d) (listNames rows d)
theorem listPairs_length (rows : List Row) (d : Int) : (listPairs rows d).length = cntDir rows d := by
  unfold listPairs listNames
  rw [pairsOf_length, sortNames_length, namesIn_length]
theorem list_dents (w : World) (b : Nat) (rows : List Row) (d : Int) (hlen : rows.length ≤ 5000000000000) (hd : (Lit.int .i64 d).wf = true) (h : IndexAt w b rows) :
    Calls Try.prog 19 #[.pointer (some ⟨b + 3, 0, none⟩), .int .i64 d] w fun e w' => ∃ v, e = .returned v ∧ Dents w' w.heap.size v (listPairs rows d) ∧ Mod None_ w w' :=
  (list_any w b rows d hlen hd h).mono fun e w' ⟨v, h1, h2, h3⟩ => ⟨v, h1, Dents.of_own (by unfold listPairs; rw [pairsOf_cells, pairsOf_length]; exact h2), h3⟩

set_option maxRecDepth 100000 in
set_option maxHeartbeats 1000000 in
theorem same_any (w : World) (lo lo' : Nat) (v v' : Value) (l l' : List (ByteArray × Int)) (h : Dents w lo v l) (h' : Dents w lo' v' l') :
    Calls Try.prog 23 #[v, v'] w fun e w' => e = .returned (.bool (decide (l = l'))) ∧ Mod None_ w w' := by
  obtain ⟨A, c, rfl, hc1, hc2, hA⟩ := h
  obtain ⟨A', c', rfl, hc1', hc2', hA'⟩ := h'
  unfold maxLen at hc2 hc2'
  by_cases hlen : l.length = l'.length
  · have hb : ((l.length : Int) != l'.length) = false := by rw [bne_eq_false_iff_eq]; omega
    have HL := hide hlen
    have HA := hide hA
    have HA' := hide hA'
    clear hlen hA hA'
    go_enter Try.func23, Try.ntmps23
    go_wp2
    go_loopg [5] l.length (fun n i wr => ∃ k : Nat, k + n = l.length ∧ i = .int .i64 k ∧ l.take k = l'.take k ∧ Mod None_ w wr)
    case atStart => exact ⟨0, by omega, rfl, rfl, Mod.refl _ _⟩
    case round =>
      obtain ⟨k, hk, rfl, ht, hm⟩ := hrel
      have HT := hide ht
      clear ht
      by_cases hlt : k < l.length
      · have hlt' : k < l'.length := by rw [← HL.out]; exact hlt
        obtain ⟨g, rfl, _, hg, hc⟩ := HA.out (by omega)
        obtain ⟨g', rfl, _, hg', hc'⟩ := HA'.out (by omega)
        have hm3 : Mod None_ w wr.drew := hm.drew
        have x0 : wr.drew.cell? ⟨g, k * 2, none⟩ = some (.string l[k].1) := (World.cell?_of_block (hm3.block g hg id)).trans (hc _ _ (pairCells_fst l k hlt))
        have x1 : wr.drew.cell? ⟨g, k * 2 + 1, none⟩ = some (.int .i64 l[k].2) := (World.cell?_of_block (hm3.block g hg id)).trans (hc _ _ (pairCells_snd l k hlt))
        have y0 : wr.drew.cell? ⟨g', k * 2, none⟩ = some (.string l'[k].1) := (World.cell?_of_block (hm3.block g' hg' id)).trans (hc' _ _ (pairCells_fst l' k hlt'))
        have y1 : wr.drew.cell? ⟨g', k * 2 + 1, none⟩ = some (.int .i64 l'[k].2) := (World.cell?_of_block (hm3.block g' hg' id)).trans (hc' _ _ (pairCells_snd l' k hlt'))
        obtain ⟨p, hp⟩ : ∃ p, p = l[k] := ⟨_, rfl⟩
        obtain ⟨q, hq⟩ : ∃ q, q = l'[k] := ⟨_, rfl⟩
        rw [← hp] at x0 x1
        rw [← hq] at y0 y1
        have HP := hide hp
        have HQ := hide hq
        clear hc hc' hp hq hm
        have hkl : (k : Int) < l.length := by omega
        have hkl' : (k : Int) < l'.length := by omega
        by_cases he : p = q
        · subst he
          have ex : (p.1.toList == p.1.toList) = true := by simp
          have HE : Hid (l.take (k + 1) = l'.take (k + 1)) := by
            refine hide ?_
            rw [List.take_succ_eq_append_getElem hlt, List.take_succ_eq_append_getElem hlt', HT.out, ← HP.out, ← HQ.out]
          go_wp2
          refine region_still (by kernel_rfl) (by kernel_rfl) ?_
          rintro w3 hw3
          rw [← hw3] at hm3 x0 x1 y0 y1
          clear hw3
          repeat still_step
          refine wpStill_nil ?_
          go_wp2
          go_roundg (gk - 1)
          case measure => omega
          case rel => exact ⟨k + 1, by omega, by go_num, HE.out, hm3⟩
        · have hne : decide (l = l') = false := by
            rw [decide_eq_false_iff_not]
            rintro rfl
            exact he (HP.out.trans HQ.out.symm)
          have HN := hide hne
          clear hne
          by_cases hx : p.1 = q.1
          · have ex : (p.1.toList == q.1.toList) = true := by rw [hx]; simp
            have ey : ((p.2 : Int) == q.2) = false := by
              rw [beq_eq_false_iff_ne]
              intro e
              exact he (Prod.ext hx e)
            clear hx he
            go_wp2
            refine region_still (by kernel_rfl) (by kernel_rfl) ?_
            rintro w3 hw3
            rw [← hw3] at hm3 x0 x1 y0 y1
            clear hw3
            repeat still_step
            refine wpStill_nil ?_
            go_wp2
            go_ret
            exact ⟨by rw [HN.out]; rfl, hm3⟩
          · have ex : (p.1.toList == q.1.toList) = false := by
              rw [beq_eq_false_iff_ne]
              intro e
              rw [Go.Lib.toList_data, Go.Lib.toList_data] at e
              exact hx (Go.WideShapes.bytes_inj e)
            clear hx he
            go_wp2
            refine region_still (by kernel_rfl) (by kernel_rfl) ?_
            rintro w3 hw3
            rw [← hw3] at hm3 x0 x1 y0 y1
            clear hw3
            repeat still_step
            refine wpStill_nil ?_
            go_wp2
            go_ret
            exact ⟨by rw [HN.out]; rfl, hm3⟩
      · have he : decide (l = l') = true := by
          rw [decide_eq_true_eq]
          have := HT.out
          rwa [List.take_of_length_le (by omega), List.take_of_length_le (by have := HL.out; omega)] at this
        have HE := hide he
        have hkl : ¬ (k : Int) < l.length := by omega
        clear he
        go_wp2
        go_ret
        exact ⟨by rw [HE.out]; rfl, hm⟩
  · have hb : ((l.length : Int) != l'.length) = true := by rw [bne_iff_ne]; omega
    have hne : decide (l = l') = false := by rw [decide_eq_false_iff_not]; rintro rfl; exact hlen rfl
    have HN := hide hne
    clear hne hlen hA hA'
    go_enter Try.func23, Try.ntmps23
    go_wp2
    go_ret
    exact ⟨by rw [HN.out]; rfl, Mod.refl _ _⟩
end Go.Proofs.Ytmamdacmpikdbaa
