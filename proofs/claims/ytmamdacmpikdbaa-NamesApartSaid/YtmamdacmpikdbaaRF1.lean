import Derived.Test.YtmamdacmpikdbaaP3
import Derived.Test.YtmamdacmpikdbaaSt
/-! The reference's index: a list of rows in memory. Walks: New, number, GoodName, Find. -/
namespace Go.Proofs.Ytmamdacmpikdbaa
open Go.RowKit Go.Maps

def row3 (r : Row) : List Value := [.int .i64 r.dir, .string r.name, .int .i64 r.ino]
def rowCells (l : List Row) : List Value := l.flatMap row3
theorem rowCells_length (l : List Row) : (rowCells l).length = l.length * 3 := by
  induction l with
  | nil => rfl
  | cons x l ih => unfold rowCells at *; rw [List.flatMap_cons, List.length_append, ih]; simp [row3]; omega
theorem rowCells_snoc (l : List Row) (x : Row) : rowCells (l ++ [x]) = rowCells l ++ row3 x := by unfold rowCells; rw [List.flatMap_append]; simp
theorem rowCells_get : ∀ (l : List Row) (i t : Nat) (h : i < l.length) (_ : t < 3), (rowCells l)[i * 3 + t]? = (row3 l[i])[t]?
  | x :: l, 0, t, _, ht => by
    unfold rowCells
    rw [List.flatMap_cons, List.getElem?_append_left (by simp [row3]; omega)]
    simp
  | x :: l, i + 1, t, h, ht => by
    have ih := rowCells_get l i t (by simpa using h) ht
    unfold rowCells at ih ⊢
    rw [List.flatMap_cons, List.getElem?_append_right (by simp [row3]; omega)]
    have e : (i + 1) * 3 + t - (row3 x).length = i * 3 + t := by simp [row3]; omega
    rw [e, ih]; rfl
theorem rowCells_one (l : List Row) : ∀ u ∈ rowCells l, u.oneCell' = true := by
  intro u hu
  unfold rowCells at hu
  obtain ⟨p, _, hp⟩ := List.mem_flatMap.1 hu
  simp only [row3, List.mem_cons, List.not_mem_nil, or_false] at hp
  rcases hp with rfl | rfl | rfl <;> rfl

/-- a slice of rows that reads as L; where it is not empty it lies in a block of rows -/
def RowsIs (w : World) (v : Value) (L : List Row) : Prop :=
  ∃ A c, v = .slice A L.length c ∧ L.length ≤ c ∧ c ≤ maxLen ∧ L.length ≤ 2600000000000 ∧ (0 < L.length → ∃ g, A = some ⟨g, 0, none⟩ ∧ (∃ cs, w.heap[g]? = some (.cells cs 95 (0, 0))) ∧ ∀ j u, (rowCells L)[j]? = some u → w.cell? ⟨g, j, none⟩ = some u)
structure RefAt (w : World) (y : Nat) (L : List Row) : Prop where
  ex : ∃ v, Blk w y 81 #[v] ∧ RowsIs w v L
/-- blocks that hold no rows -/
def NoRows (w : World) (S : Nat → Prop) : Prop := ∀ k, S k → ∀ cs, w.heap[k]? ≠ some (.cells cs 95 (0, 0))
theorem RowsIs.mod {S : Nat → Prop} {w w' : World} {v : Value} {L : List Row} (h : RowsIs w v L) (hm : Mod S w w') (hs : NoRows w S) : RowsIs w' v L := by
  obtain ⟨A, c, h1, h2, h3, h4, h5⟩ := h
  refine ⟨A, c, h1, h2, h3, h4, fun h0 => ?_⟩
  obtain ⟨g, e, ⟨cs, hg⟩, hc⟩ := h5 h0
  have hb := hm.block g (Array.getElem?_eq_some_iff.1 hg).1 (fun hS => hs g hS cs hg)
  exact ⟨g, e, ⟨cs, hb.trans hg⟩, fun j u hj => (World.cell?_of_block hb).trans (hc j u hj)⟩
theorem RefAt.mod {S : Nat → Prop} {w w' : World} {y : Nat} {L : List Row} (h : RefAt w y L) (hm : Mod S w w') (hs : NoRows w S) (hy : ¬ S y) : RefAt w' y L := by
  obtain ⟨v, h1, h2⟩ := h.ex
  exact ⟨v, h1.mod hm hy, h2.mod hm hs⟩
theorem NoRows.none (w : World) : NoRows w None_ := fun _ f => f.elim
theorem RefAt.kept {w w' : World} {y : Nat} {L : List Row} (h : RefAt w y L) (hm : Mod None_ w w') : RefAt w' y L := h.mod hm (NoRows.none w) id
theorem RefAt.noRows {w : World} {y : Nat} {L : List Row} (h : RefAt w y L) : NoRows w (· = y) := by
  rintro k rfl cs hk
  obtain ⟨v, h1, _⟩ := h.ex
  unfold Blk at h1
  rw [hk] at h1
  cases h1
theorem IndexAt.noRows {w : World} {b : Nat} {R : List Row} (h : IndexAt w b R) : NoRows w (Ix b) := by
  intro k hk cs hb
  unfold Ix at hk
  obtain ⟨es, c, h0, _⟩ := h.inos.ex
  obtain ⟨l1, hl1, _⟩ := h.names
  obtain ⟨es1, c1, h1, _⟩ := hl1.ex
  obtain ⟨l2, hl2, _⟩ := h.links
  obtain ⟨es2, c2, h2, _⟩ := hl2.ex
  have h3 := h.blk
  unfold Blk at h3
  have : k = b ∨ k = b + 1 ∨ k = b + 2 ∨ k = b + 3 := by omega
  rcases this with rfl | rfl | rfl | rfl
  · rw [hb] at h0; cases h0
  · rw [hb] at h1; cases h1
  · rw [hb] at h2; cases h2
  · rw [hb] at h3; cases h3
theorem RefAt.notIx {w : World} {y b : Nat} {L R : List Row} (h : RefAt w y L) (hI : IndexAt w b R) : ¬ Ix b y := by
  intro hk
  obtain ⟨v, hb, _⟩ := h.ex
  unfold Blk at hb
  unfold Ix at hk
  obtain ⟨es, c, h0, _⟩ := hI.inos.ex
  obtain ⟨l1, hl1, _⟩ := hI.names
  obtain ⟨es1, c1, h1, _⟩ := hl1.ex
  obtain ⟨l2, hl2, _⟩ := hI.links
  obtain ⟨es2, c2, h2, _⟩ := hl2.ex
  have h3 := hI.blk
  unfold Blk at h3
  have : y = b ∨ y = b + 1 ∨ y = b + 2 ∨ y = b + 3 := by omega
  rcases this with rfl | rfl | rfl | rfl
  · rw [hb] at h0; cases h0
  · rw [hb] at h1; cases h1
  · rw [hb] at h2; cases h2
  · rw [hb] at h3; cases h3
theorem RefAt.lt {w : World} {y : Nat} {L : List Row} (h : RefAt w y L) : y < w.heap.size := by obtain ⟨v, h1, _⟩ := h.ex; exact h1.lt
theorem RefAt.len {w : World} {y : Nat} {L : List Row} (h : RefAt w y L) : L.length ≤ 2600000000000 := by obtain ⟨v, _, A, c, _, _, _, h4, _⟩ := h.ex; exact h4

set_option maxRecDepth 100000 in
set_option maxHeartbeats 400000 in
theorem refNew_any (w : World) : Calls Try.prog 43 #[] w fun e w' => e = .returned (.pointer (some ⟨w.heap.size, 0, none⟩)) ∧ RefAt w' w.heap.size [] ∧ Mod None_ w w' := by
  go_enter Try.func43, Try.ntmps43
  go_wp2
  go_ret
  refine ⟨rfl, ⟨_, Blk.new w 81 #[.slice none 0 0], none, 0, rfl, Nat.le_refl _, Nat.zero_le _, Nat.zero_le _, fun h => absurd h (Nat.lt_irrefl 0)⟩, (Mod.refl _ w).alloc _⟩

theorem refNumber_any (n : Int) (w : World) : Calls Try.prog 66 #[.int .i64 n] w fun e w' => e = .returned (.bool (isInodeB n)) ∧ w = w' := by
  go_enter Try.func66, Try.ntmps66
  go_wp2
  all_goals (go_ret; simp [isInodeB]; try omega)

/-- where a row is; -1: nowhere -/
def findAt (L : List Row) (d : Int) (s : ByteArray) : Int := match L.findIdx? (fun r => decide (r.dir = d ∧ r.name = s)) with | some i => i | none => -1

set_option maxRecDepth 100000 in
set_option maxHeartbeats 2000000 in
theorem refFind_any (w : World) (y : Nat) (L : List Row) (d : Int) (s : ByteArray) (h : RefAt w y L) :
    Calls Try.prog 68 #[.pointer (some ⟨y, 0, none⟩), .int .i64 d, .string s] w fun e w' => e = .returned (.int .i64 (findAt L d s)) ∧ w = w' := by
  obtain ⟨v, hB, A, c, rfl, hc1, hc2, hlen, hA⟩ := h.ex
  have cy : w.cell? ⟨y, 0, none⟩ = some (.slice A L.length c) := hB.cell 0
  have HA := hide hA
  clear hB hA h
  go_enter Try.func68, Try.ntmps68
  go_wp2
  go_loop [7] (fun i => ∃ k : Nat, k ≤ L.length ∧ i = .int .i64 k ∧ ∀ r ∈ L.take k, ¬ (r.dir = d ∧ r.name = s)) (fun i => L.length - (intOf i).toNat)
  case atStart => exact ⟨0, Nat.zero_le _, rfl, by simp⟩
  case round =>
    obtain ⟨k, hk, rfl, hno⟩ := hrel
    have HN := hide hno
    clear hno
    by_cases hlt : k < L.length
    · have hki : (k : Int) < L.length := by omega
      obtain ⟨g, rfl, _, hcc⟩ := HA.out (by omega)
      have x0 : w.cell? ⟨g, k * 3, none⟩ = some (.int .i64 L[k].dir) := hcc _ _ ((rowCells_get L k 0 hlt (by omega)).trans rfl)
      have x1 : w.cell? ⟨g, k * 3 + 1, none⟩ = some (.string L[k].name) := hcc _ _ ((rowCells_get L k 1 hlt (by omega)).trans rfl)
      obtain ⟨r, hr⟩ : ∃ r, r = L[k] := ⟨_, rfl⟩
      rw [← hr] at x0 x1
      have htk : L.take (k + 1) = L.take k ++ [r] := by rw [List.take_succ_eq_append_getElem hlt, hr]
      have HT := hide htk
      have HR := hide hr
      clear hcc hr htk
      by_cases hd : r.dir = d
      · have ed : ((r.dir : Int) == d) = true := by rw [hd]; exact beq_self_eq_true d
        have HD := hide hd
        clear hd
        by_cases hs : r.name = s
        · have es : (r.name.toList == s.toList) = true := by rw [hs]; simp
          have hf : findAt L d s = k := by
            unfold findAt
            have : L.findIdx? (fun r => decide (r.dir = d ∧ r.name = s)) = some k := by
              rw [List.findIdx?_eq_some_iff_getElem]
              refine ⟨hlt, by rw [← HR.out]; simp [HD.out, hs], fun j hj => ?_⟩
              have := HN.out L[j] (List.mem_take_iff_getElem.2 ⟨j, by omega, rfl⟩)
              simpa using this
            rw [this]
          have HF := hide hf
          clear hs hf
          go_wp2
          go_ret
          exact ⟨by rw [HF.out]; rfl, rfl⟩
        · have es : (r.name.toList == s.toList) = false := by
            rw [beq_eq_false_iff_ne]
            intro e
            rw [Go.Lib.toList_data, Go.Lib.toList_data] at e
            exact hs (Go.WideShapes.bytes_inj e)
          have HS := hide hs
          clear hs
          go_wp2
          go_round
          case rel =>
            refine ⟨k + 1, by omega, by go_num, fun x hx => ?_⟩
            rw [HT.out] at hx
            rcases List.mem_append.1 hx with hx | hx
            · exact HN.out x hx
            · rw [List.mem_singleton.1 hx]; exact fun e => HS.out e.2
          case measure => simp [intOf]; omega
      · have ed : ((r.dir : Int) == d) = false := by rw [beq_eq_false_iff_ne]; exact hd
        have HD := hide hd
        clear hd
        go_wp2
        go_round
        case rel =>
          refine ⟨k + 1, by omega, by go_num, fun x hx => ?_⟩
          rw [HT.out] at hx
          rcases List.mem_append.1 hx with hx | hx
          · exact HN.out x hx
          · rw [List.mem_singleton.1 hx]; exact fun e => HD.out e.1
        case measure => simp [intOf]; omega
    · have hki : ¬ (k : Int) < L.length := by omega
      have hf : findAt L d s = -1 := by
        have ht : L.take k = L := List.take_of_length_le (by omega)
        unfold findAt
        rw [List.findIdx?_eq_none_iff.2 (fun r hr => by
          have := HN.out r (by rw [ht]; exact hr)
          simpa using this)]
      have HF := hide hf
      clear hf
      go_wp2
      go_ret
      exact ⟨by rw [HF.out]; rfl, rfl⟩
end Go.Proofs.Ytmamdacmpikdbaa
