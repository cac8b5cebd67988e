import Derived.Test.YtmamdacmpikdbaaRF2
/-! Walks of the reference's index: Get, Links, List, Len, Drop, Clear. -/
namespace Go.Proofs.Ytmamdacmpikdbaa
open Go.RowKit Go.Maps
attribute [local go_sem] quietV loudUpon

theorem cell_alloc {w : World} {g i : Nat} {v : Value} (o : Obj) (h : w.cell? ⟨g, i, none⟩ = some v) : (w.alloc o).cell? ⟨g, i, none⟩ = some v :=
  (World.cell?_of_block (Below.heap_alloc w o g (block_lt_of_cell h))).trans h

theorem RowsIs.cells {w : World} {v : Value} {L : List Row} (h : RowsIs w v L) : ∃ A c, v = .slice A L.length c ∧ Hid (0 < L.length → ∃ g, A = some ⟨g, 0, none⟩ ∧ g < w.heap.size ∧
    ∀ i (hi : i < L.length), w.cell? ⟨g, i * 3, none⟩ = some (.int .i64 L[i].dir) ∧ w.cell? ⟨g, i * 3 + 1, none⟩ = some (.string L[i].name) ∧ w.cell? ⟨g, i * 3 + 2, none⟩ = some (.int .i64 L[i].ino)) := by
  obtain ⟨A, c, h1, h2, h3, h4, h5⟩ := h
  refine ⟨A, c, h1, hide fun h0 => ?_⟩
  obtain ⟨g, e, ⟨cs, hg⟩, hc⟩ := h5 h0
  refine ⟨g, e, (Array.getElem?_eq_some_iff.1 hg).1, fun i hi => ⟨?_, ?_, ?_⟩⟩
  · exact hc _ _ ((rowCells_get L i 0 hi (by omega)).trans rfl)
  · exact hc _ _ ((rowCells_get L i 1 hi (by omega)).trans rfl)
  · exact hc _ _ ((rowCells_get L i 2 hi (by omega)).trans rfl)

/-- where the row is, if it is -/
def idxOf (L : List Row) (d : Int) (s : ByteArray) : Option Nat := L.findIdx? (fun r => decide (r.dir = d ∧ r.name = s))
def refIno (L : List Row) (d : Int) (s : ByteArray) : Int := match idxOf L d s with | none => 0 | some i => (L[i]?.map (·.ino)).getD 0
theorem findAt_none {L : List Row} {d : Int} {s : ByteArray} (h : idxOf L d s = none) : findAt L d s = -1 := by unfold idxOf at h; unfold findAt; rw [h]
theorem findAt_some {L : List Row} {d : Int} {s : ByteArray} {i : Nat} (h : idxOf L d s = some i) : findAt L d s = i := by unfold idxOf at h; unfold findAt; rw [h]
theorem idxOf_lt {L : List Row} {d : Int} {s : ByteArray} {i : Nat} (h : idxOf L d s = some i) : i < L.length := by
  unfold idxOf at h
  exact (List.findIdx?_eq_some_iff_getElem.1 h).1

set_option maxRecDepth 100000 in
set_option maxHeartbeats 400000 in
theorem refGet_any (w : World) (y : Nat) (L : List Row) (d : Int) (s : ByteArray) (h : RefAt w y L) :
    Calls Try.prog 51 #[.pointer (some ⟨y, 0, none⟩), .int .i64 d, .string s] w fun e w' => e = .returned (.int .i64 (refIno L d s)) ∧ w = w' := by
  have hF := refFind_any w y L d s h
  obtain ⟨v, hB, hR⟩ := h.ex
  obtain ⟨A, c, rfl, HA⟩ := hR.cells
  have cy : w.cell? ⟨y, 0, none⟩ = some (.slice A L.length c) := hB.cell 0
  cases hi : idxOf L d s with
  | none =>
    rw [findAt_none hi] at hF
    have HF := hide hF
    have HI := hide hi
    clear hF hi
    go_enter Try.func51, Try.ntmps51
    go_wp2_with (go_at_call 68; refine Calls.mono HF.out ?_; rintro e w1 ⟨rfl, rfl⟩)
    go_ret
    exact ⟨by unfold refIno; rw [HI.out]; rfl, rfl⟩
  | some i =>
    rw [findAt_some hi] at hF
    have hlt := idxOf_lt hi
    obtain ⟨g, rfl, _, hcc⟩ := HA.out (by omega)
    obtain ⟨_, _, x2⟩ := hcc i hlt
    have hil : (i : Int) < L.length := by omega
    have hr : refIno L d s = L[i].ino := by unfold refIno; rw [hi]; simp [hlt]
    have HF := hide hF
    have HR := hide hr
    clear hF hi hcc hr
    go_enter Try.func51, Try.ntmps51
    go_wp2_with (go_at_call 68; refine Calls.mono HF.out ?_; rintro e w1 ⟨rfl, rfl⟩)
    go_ret
    exact ⟨by rw [HR.out]; rfl, rfl⟩

theorem cntIno_snoc (L : List Row) (r : Row) (n : Int) : cntIno (L ++ [r]) n = cntIno L n + if r.ino = n then 1 else 0 := by
  unfold cntIno
  rw [List.filter_append, List.length_append]
  by_cases h : r.ino = n <;> simp [h]
set_option maxRecDepth 100000 in
set_option maxHeartbeats 1000000 in
theorem refLinks_any (w : World) (y : Nat) (L : List Row) (n : Int) (h : RefAt w y L) :
    Calls Try.prog 53 #[.pointer (some ⟨y, 0, none⟩), .int .i64 n] w fun e w' => e = .returned (.int .i64 (cntIno L n)) ∧ w = w' := by
  have hlen := h.len
  obtain ⟨v, hB, hR⟩ := h.ex
  obtain ⟨A, c, rfl, HA⟩ := hR.cells
  have cy : w.cell? ⟨y, 0, none⟩ = some (.slice A L.length c) := hB.cell 0
  clear hB hR h
  go_enter Try.func53, Try.ntmps53
  go_wp2
  go_loop [5, 6] (fun m i => ∃ k : Nat, k ≤ L.length ∧ i = .int .i64 k ∧ m = .int .i64 (cntIno (L.take k) n : Nat)) (fun _ i => L.length - (intOf i).toNat)
  case atStart => exact ⟨0, Nat.zero_le _, rfl, rfl⟩
  case round =>
    obtain ⟨k, hk, rfl, rfl⟩ := hrel
    by_cases hlt : k < L.length
    · have hki : (k : Int) < L.length := by omega
      obtain ⟨g, rfl, _, hcc⟩ := HA.out (by omega)
      obtain ⟨_, _, x2⟩ := hcc k hlt
      have hs := cntIno_snoc (L.take k) L[k] n
      rw [← List.take_succ_eq_append_getElem hlt] at hs
      have hcl := cntIno_le (L.take k) n
      have htl := List.length_take_le k L
      obtain ⟨r, hr⟩ : ∃ r, r = L[k] := ⟨_, rfl⟩
      rw [← hr] at x2 hs
      obtain ⟨m, hm⟩ : ∃ m, m = cntIno (L.take k) n := ⟨_, rfl⟩
      rw [← hm] at hs hcl ⊢
      have hmb : (m : Int) ≤ 2600000000000 := by omega
      have HS := hide hs
      clear hcc hr hs hm hcl htl
      by_cases he : r.ino = n
      · have ee : ((r.ino : Int) == n) = true := by rw [he]; exact beq_self_eq_true n
        have HE := hide he
        clear he
        go_wp2
        go_round
        case rel => exact ⟨k + 1, by omega, by go_num, by rw [HS.out, if_pos HE.out]; go_num⟩
        case measure => simp [intOf]; omega
      · have ee : ((r.ino : Int) == n) = false := by rw [beq_eq_false_iff_ne]; exact he
        have HE := hide he
        clear he
        go_wp2
        go_round
        case rel => exact ⟨k + 1, by omega, by go_num, by rw [HS.out, if_neg HE.out]; rfl⟩
        case measure => simp [intOf]; omega
    · have hki : ¬ (k : Int) < L.length := by omega
      have ht : L.take k = L := List.take_of_length_le (by omega)
      rw [ht]
      clear ht
      go_wp2
      go_ret
      exact ⟨rfl, rfl⟩

/-- append(l, d) of one entry -/
theorem wpList_append_dent {ops : Array Oper} {rest : List Oper} {o : Oper} {a : Act} {w : World} {Q : Exit → Act → World → Prop} (hg : o.guard = none) (s x : Operand)
    (ho : o.op = .call { callee := .builtin .append, args := #[s, x], argTypes := #[28, 28] }) (W : World) (base : Nat) (v : Value) (acc : List (ByteArray × Int)) (p : ByteArray × Int)
    (hw : w = W.alloc (.cells #[.string p.1, .int .i64 p.2] 36)) (hs : a.eval s = v) (gx : Nat) (hgx : gx = W.heap.size) (hx : a.eval x = .slice (some ⟨gx, 0, none⟩) 1 1)
    (hown : W.ownsRow base 36 2 v acc.length (pairCells acc)) (hb : base ≤ W.heap.size) (hl : acc.length ≤ 5000000000000)
    (h : ∀ v' w', w'.ownsRow base 36 2 v' (acc ++ [p]).length (pairCells (acc ++ [p])) → Mod (fun k => some k = v.ownBlock) W w' → wpList Try.prog ops Q rest (a.put o.dst v') w') : wpList Try.prog ops Q (o :: rest) a w := by
  subst hgx
  obtain ⟨i0, hi, hz, hsz, hby⟩ := info_parts info36
  have hM : Mod None_ W w := by rw [hw]; exact (Mod.refl _ W).alloc _
  have hown1 := own_mod hown hM (fun _ _ f => f)
  have hB : Blk w W.heap.size 36 #[.string p.1, .int .i64 p.2] := by rw [hw]; exact Blk.new _ _ _
  refine wpList_append_own w hg s x 28 ho base 36 i0 _ 2 24 Try.underlying28 hi hz hsz hby rfl (by decide) v acc.length _ hs hown1 ⟨W.heap.size, 0, none⟩ 1 1 [.string p.1, .int .i64 p.2] hx rfl (fun t u ht => ?_) (pairCells_one [p]) (by simp only [maxLen]; omega) (by omega) (by rw [hw, alloc_size]; omega) ?_
  · rw [add_none, hB.cell]; simpa using ht
  · intro v' w' hown' hgr _
    have e : pairCells (acc ++ [p]) = pairCells acc ++ [.string p.1, .int .i64 p.2] := by unfold pairCells; rw [List.flatMap_append]; simp
    exact h v' w' (by rw [List.length_append, e]; exact hown') (hM.none.trans' (Mod.of_grown hgr) fun k hk e => e)

theorem run_append_dent {w : World} (W : World) (base : Nat) (v : Value) (acc : List (ByteArray × Int)) (p : ByteArray × Int) (ty : TypeId)
    (hw : w = W.alloc (.cells #[.string p.1, .int .i64 p.2] 36)) (gx : Nat) (hgx : gx = W.heap.size)
    (hown : W.ownsRow base 36 2 v acc.length (pairCells acc)) (hb : base ≤ W.heap.size) (hl : acc.length ≤ 5000000000000) :
    ∃ v' w', (Builtin.append_ #[28, 28] ty #[v, .slice (some ⟨gx, 0, none⟩) 1 1]).run Try.prog w = .ok v' w' ∧ w'.ownsRow base 36 2 v' (acc ++ [p]).length (pairCells (acc ++ [p])) ∧ Mod (fun k => some k = v.ownBlock) W w' := by
  subst hgx
  obtain ⟨i0, hi, hz, hsz, hby⟩ := info_parts info36
  have hM : Mod None_ W w := by rw [hw]; exact (Mod.refl _ W).alloc _
  have hown1 := own_mod hown hM (fun _ _ f => f)
  have hB : Blk w W.heap.size 36 #[.string p.1, .int .i64 p.2] := by rw [hw]; exact Blk.new _ _ _
  obtain ⟨v', w', hrun, hown', hgr, _⟩ := run_append_own (P := Try.prog) w base 28 ty 36 i0 _ 2 24 Try.underlying28 hi hz hsz hby rfl (by decide) v acc.length _ hown1 ⟨W.heap.size, 0, none⟩ 1 1 [.string p.1, .int .i64 p.2] rfl
    (fun t u ht => by rw [add_none, hB.cell]; simpa using ht) (pairCells_one [p]) (by simp only [maxLen]; omega) (by omega) (by rw [hw, alloc_size]; omega)
  have e : pairCells (acc ++ [p]) = pairCells acc ++ [.string p.1, .int .i64 p.2] := by unfold pairCells; rw [List.flatMap_append]; simp
  exact ⟨v', w', hrun, by rw [List.length_append, e]; exact hown', hM.none.trans' (Mod.of_grown hgr) fun k hk e => e⟩

/-- the rows of a directory as pairs, in their order -/
def pairsIn (L : List Row) (d : Int) : List (ByteArray × Int) := (L.filter (fun r => decide (r.dir = d))).map fun r => (r.name, r.ino)
theorem pairsIn_snoc (L : List Row) (r : Row) (d : Int) : pairsIn (L ++ [r]) d = if r.dir = d then pairsIn L d ++ [(r.name, r.ino)] else pairsIn L d := by
  unfold pairsIn
  rw [List.filter_append]
  by_cases h : r.dir = d <;> simp [h]
theorem pairsIn_length (L : List Row) (d : Int) : (pairsIn L d).length = cntDir L d := by simp [pairsIn, cntDir]

set_option maxRecDepth 100000 in
set_option maxHeartbeats 2000000 in
theorem refList_any (w : World) (y : Nat) (L : List Row) (d : Int) (h : RefAt w y L) :
    Calls Try.prog 54 #[.pointer (some ⟨y, 0, none⟩), .int .i64 d] w fun e w' => ∃ v, e = .returned v ∧ Dents w' w.heap.size v (pairsIn L d) ∧ Mod None_ w w' := by
  have hlen := h.len
  have hy := h.lt
  obtain ⟨v, hB, hR⟩ := h.ex
  obtain ⟨A, c, rfl, HA⟩ := hR.cells
  have cy : w.cell? ⟨y, 0, none⟩ = some (.slice A L.length c) := hB.cell 0
  clear hB hR h
  go_enter Try.func54, Try.ntmps54
  go_wp2
  go_loopg [5, 6] L.length (fun n l i wr => ∃ k : Nat, k + n = L.length ∧ i = .int .i64 k ∧ wr.ownsRow w.heap.size 36 2 l (pairsIn (L.take k) d).length (pairCells (pairsIn (L.take k) d)) ∧ Mod None_ w wr)
  case atStart => exact ⟨0, by omega, rfl, ⟨rfl, .inl ⟨rfl, rfl⟩⟩, Mod.refl _ _⟩
  case round =>
    obtain ⟨k, hk, rfl, hown, hM⟩ := hrel
    have cy' : wr.cell? ⟨y, 0, none⟩ = some (.slice A L.length c) := (World.cell?_of_block (hM.block y hy id)).trans cy
    have hbase := hM.size
    by_cases hlt : k < L.length
    · have hki : (k : Int) < L.length := by omega
      obtain ⟨g, rfl, hg, hcc⟩ := HA.out (by omega)
      obtain ⟨x0, x1, x2⟩ := hcc k hlt
      replace x0 := (World.cell?_of_block (hM.block g hg id)).trans x0
      replace x1 := (World.cell?_of_block (hM.block g hg id)).trans x1
      replace x2 := (World.cell?_of_block (hM.block g hg id)).trans x2
      have hsn := pairsIn_snoc (L.take k) L[k] d
      rw [← List.take_succ_eq_append_getElem hlt] at hsn
      have hal : (pairsIn (L.take k) d).length ≤ 2600000000000 := by
        rw [pairsIn_length]
        have := cntDir_le (L.take k) d
        have := List.length_take_le k L
        omega
      obtain ⟨r, hr⟩ : ∃ r, r = L[k] := ⟨_, rfl⟩
      rw [← hr] at x0 x1 x2 hsn
      obtain ⟨acc, hacc⟩ : ∃ a, a = pairsIn (L.take k) d := ⟨_, rfl⟩
      rw [← hacc] at hown hal hsn
      have HSN := hide hsn
      have HK := hide hk
      have HOWN := hide hown
      clear hcc hr hacc hsn hk hown
      by_cases he : r.dir = d
      · have ee : ((r.dir : Int) == d) = true := by rw [he]; exact beq_self_eq_true d
        have HE := hide he
        clear he
        go_wp2
        refine region_mxw [(true, 0), (true, 1), (true, 2), (true, 3), (true, 4), (true, 5), (true, 6), (true, 7), (true, 8), (true, 9), (true, 10), (true, 11), (true, 12), (true, 13), (true, 14), (true, 15), (true, 16), (true, 17), (false, 18), (false, 19), (true, 20)]
          (fun w' => w'.cell? ⟨y, 0, none⟩ = some (.slice (some ⟨g, 0, none⟩) L.length c) ∧ w'.cell? ⟨g, k * 3 + 1, none⟩ = some (.string r.name) ∧ w'.cell? ⟨g, k * 3 + 2, none⟩ = some (.int .i64 r.ino)) (by kernel_rfl) (by kernel_rfl) ?_
        rintro w5 hw5
        have hM5 : Mod None_ w w5 := by rw [hw5]; exact hM.drew
        have hown5 := HOWN.out.drew
        rw [← hw5] at hown5
        have e0 : w5.cell? ⟨y, 0, none⟩ = some (.slice (some ⟨g, 0, none⟩) L.length c) := by rw [hw5]; exact cy'
        have e1 : w5.cell? ⟨g, k * 3 + 1, none⟩ = some (.string r.name) := by rw [hw5]; exact x1
        have e2 : w5.cell? ⟨g, k * 3 + 2, none⟩ = some (.int .i64 r.ino) := by rw [hw5]; exact x2
        have HOW5 := hide hown5
        have hb5 := hM5.size
        obtain ⟨v8, w8, hrun, hown8, hm8⟩ := run_append_dent (w := w5.alloc (.cells #[.string r.name, .int .i64 r.ino] 36)) w5 w.heap.size u5 acc (r.name, r.ino) 28 rfl w5.heap.size rfl hown5 hb5 (by omega)
        have hM8 : Mod None_ w w8 := hM5.trans' hm8 (fun b hb e => by have := (own_blk HOW5.out e.symm).1; omega)
        have e8 : w8.cell? ⟨y, 0, none⟩ = some (.slice (some ⟨g, 0, none⟩) L.length c) ∧ w8.cell? ⟨g, k * 3 + 1, none⟩ = some (.string r.name) ∧ w8.cell? ⟨g, k * 3 + 2, none⟩ = some (.int .i64 r.ino) := by
          refine ⟨(World.cell?_of_block (hm8.block y (by omega) (fun e => ?_))).trans e0, (World.cell?_of_block (hm8.block g (by omega) (fun e => ?_))).trans e1, (World.cell?_of_block (hm8.block g (by omega) (fun e => ?_))).trans e2⟩
          all_goals (have := (own_blk HOW5.out e.symm).1; omega)
        have HR := hide hrun
        have H8 := hide e8
        clear hw5 cy' x0 x1 x2 hown5 HOWN hM hrun e8
        have e9 : ∀ o : Obj, (w5.alloc o).cell? ⟨y, 0, none⟩ = some (.slice (some ⟨g, 0, none⟩) L.length c) ∧ (w5.alloc o).cell? ⟨g, k * 3 + 1, none⟩ = some (.string r.name) ∧ (w5.alloc o).cell? ⟨g, k * 3 + 2, none⟩ = some (.int .i64 r.ino) := fun o =>
          ⟨cell_alloc _ e0, cell_alloc _ e1, cell_alloc _ e2⟩
        have H9 := hide e9
        clear e9
        refine ⟨⟨e0, e1, e2⟩, ?_⟩
        iterate 18 (refine mxw_quiet rfl (fun w' ⟨i0, i1, i2⟩ K hK => by go_simp; exact hK) ?_; go_frame)
        refine mxw_loud rfl (fun K hK => ?_)
        go_simp
        refine ⟨H9.out _, hK _ _ ?_⟩
        clear hK K
        try go_frame
        refine mxw_val rfl rfl (ex_append rfl HR.out) H8.out ?_
        go_frame
        refine mxw_quiet rfl (fun w' ⟨i0, i1, i2⟩ K hK => by go_simp; exact hK) ?_
        go_frame
        refine mxw_nil ?_
        clear H9 HR H8 e0 e1 e2
        go_wp2
        go_roundg (gk - 1)
        case measure => have := HK.out; omega
        case rel => exact ⟨k + 1, by have := HK.out; omega, by go_num, by rw [HSN.out, if_pos HE.out]; exact hown8, hM8⟩
      · have ee : ((r.dir : Int) == d) = false := by rw [beq_eq_false_iff_ne]; exact he
        have HE := hide he
        clear he
        go_wp2
        go_roundg (gk - 1)
        case measure => have := HK.out; omega
        case rel => exact ⟨k + 1, by have := HK.out; omega, by go_num, by rw [HSN.out, if_neg HE.out]; exact HOWN.out, hM⟩
    · obtain rfl : k = L.length := by omega
      have hki : ¬ (L.length : Int) < L.length := by omega
      have ht : L.take L.length = L := List.take_of_length_le (Nat.le_refl _)
      rw [ht] at hown
      have HD := hide (Dents.of_own hown)
      clear ht hown
      go_wp2
      go_ret
      exact ⟨_, rfl, HD.out, hM⟩

set_option maxRecDepth 100000 in
set_option maxHeartbeats 400000 in
theorem refLen_any (w : World) (y : Nat) (L : List Row) (d : Int) (h : RefAt w y L) :
    Calls Try.prog 52 #[.pointer (some ⟨y, 0, none⟩), .int .i64 d] w fun e w' => e = .returned (.int .i64 (cntDir L d)) ∧ Mod None_ w w' := by
  have HL := hide (refList_any w y L d h)
  clear h
  go_enter Try.func52, Try.ntmps52
  go_wp2_with (go_at_call 54; refine Calls.mono HL.out ?_; rintro e w1 ⟨v, rfl, ⟨A, c, rfl, _, _, _⟩, hm⟩)
  go_ret
  exact ⟨by rw [pairsIn_length]; rfl, hm⟩
end Go.Proofs.Ytmamdacmpikdbaa
