import Derived.Test.YtmamdacmpikdbaaRF1
/-! Walks of the reference's index: GoodName, Put. -/
namespace Go.Proofs.Ytmamdacmpikdbaa
open Go.RowKit Go.Maps

set_option maxRecDepth 100000 in
set_option maxHeartbeats 400000 in
theorem refGood_any (s : ByteArray) (w : World) :
    Calls Try.prog 67 #[.string s] w fun e w' => e = .returned (.bool (goodName s)) ∧ w = w' := by
  by_cases h0 : s.size = 0
  · have h0' : (s.size : Int) < 1 := by omega
    have hg : goodName s = false := by simp [goodName, h0]
    have HG := hide hg
    clear hg h0
    go_enter Try.func67, Try.ntmps67
    go_wp2
    go_ret
    exact ⟨by rw [HG.out]; rfl, rfl⟩
  · have h0' : ¬ (s.size : Int) < 1 := by omega
    by_cases h1 : 28 < s.size
    · have hg : goodName s = false := by
        unfold goodName
        rw [decide_eq_false (p := s.size ≤ 28) (by omega)]
        simp
      have HG := hide hg
      have h1' : (28 : Int) < s.size := by omega
      clear hg h0 h1
      go_enter Try.func67, Try.ntmps67
      go_wp2
      go_ret
      exact ⟨by rw [HG.out]; rfl, rfl⟩
    · have h1' : ¬ (28 : Int) < s.size := by omega
      cases h2 : (s.toList == [46]) with
      | true =>
        have hg : goodName s = false := by simp [goodName, h2]
        have HG := hide hg
        clear hg h0
        go_enter Try.func67, Try.ntmps67
        go_wp2
        go_ret
        exact ⟨by rw [HG.out]; rfl, rfl⟩
      | false =>
        cases h3 : (s.toList == [46, 46]) with
        | true =>
          have hg : goodName s = false := by simp [goodName, h3]
          have HG := hide hg
          clear hg h0
          go_enter Try.func67, Try.ntmps67
          go_wp2
          go_ret
          exact ⟨by rw [HG.out]; rfl, rfl⟩
        | false =>
          have hg : goodName s = s.data.toList.all okByte := by
            unfold goodName
            rw [h2, h3, decide_eq_true (p := 1 ≤ s.size) (by omega), decide_eq_true (p := s.size ≤ 28) (by omega)]
            simp
          have HG := hide hg
          have hsz : s.size ≤ 28 := by omega
          have hlen : s.data.toList.length = s.size := by simp
          have HL := hide hlen
          clear hg h0 h1 hlen
          go_enter Try.func67, Try.ntmps67
          go_wp2
          go_loop [3] (fun i => ∃ k : Nat, k ≤ s.size ∧ i = .int .i64 k ∧ ∀ j, j < k → okByte (s.data.toList.getD j 0) = true) (fun i => s.size - (intOf i).toNat)
          case atStart => exact ⟨0, Nat.zero_le _, rfl, by omega⟩
          case round =>
            obtain ⟨k, hk, rfl, hok⟩ := hrel
            have HO := hide hok
            clear hok
            by_cases hlt : k < s.size
            · have hbd : s[k] = s.data.toList.getD k 0 := by rw [getD_lt (by rw [HL.out]; exact hlt)]; rfl
              have hmem : s[k] ∈ s.data.toList := by
                rw [hbd, getD_lt (by rw [HL.out]; exact hlt)]; exact List.getElem_mem _
              have HB := hide hbd
              have HM := hide hmem
              have hbl := s[k].toNat_lt
              clear hbd hmem
              by_cases hb0 : s[k].toNat = 0
              · have hb0' : ((s[k].toNat : Int) == 0) = true := by rw [hb0]; rfl
                have hbad : s.data.toList.all okByte = false := by
                  rw [List.all_eq_false]
                  refine ⟨s[k], HM.out, ?_⟩
                  have : s[k] = 0 := UInt8.toNat_inj.1 hb0
                  rw [this]; decide
                have HBad := hide hbad
                clear hb0 hbad
                go_wp2
                go_ret
                exact ⟨by rw [HG.out, HBad.out]; rfl, rfl⟩
              · have hb0' : ((s[k].toNat : Int) == 0) = false := by rw [beq_eq_false_iff_ne]; omega
                by_cases hb1 : s[k].toNat = 47
                · have hb1' : ((s[k].toNat : Int) == 47) = true := by rw [hb1]; rfl
                  have hbad : s.data.toList.all okByte = false := by
                    rw [List.all_eq_false]
                    refine ⟨s[k], HM.out, ?_⟩
                    have : s[k] = 47 := UInt8.toNat_inj.1 hb1
                    rw [this]; decide
                  have HBad := hide hbad
                  clear hb0 hb1 hbad
                  go_wp2
                  go_ret
                  exact ⟨by rw [HG.out, HBad.out]; rfl, rfl⟩
                · have hb1' : ((s[k].toNat : Int) == 47) = false := by rw [beq_eq_false_iff_ne]; omega
                  have hbok : okByte s[k] = true := by
                    unfold okByte
                    rw [Bool.and_eq_true, bne_iff_ne, bne_iff_ne]
                    exact ⟨fun e => hb0 (by rw [e]; rfl), fun e => hb1 (by rw [e]; rfl)⟩
                  have HBok := hide hbok
                  clear hb0 hb1 hbok
                  go_wp2
                  go_round
                  case rel =>
                    refine ⟨k + 1, by omega, by go_num, fun j hj => ?_⟩
                    by_cases e : j = k
                    · subst e; rw [← HB.out]; exact HBok.out
                    · exact HO.out j (by omega)
                  case measure => simp [intOf]; omega
            · have hall : s.data.toList.all okByte = true := by
                rw [List.all_eq_true]
                intro x hx
                obtain ⟨j, hj, rfl⟩ := List.getElem_of_mem hx
                have := HO.out j (by have := HL.out; omega)
                rwa [getD_lt hj] at this
              have HA := hide hall
              clear hall
              go_wp2
              go_ret
              exact ⟨by rw [HG.out, HA.out]; rfl, rfl⟩

theorem info95 : (Try.prog.info? 95).map (fun i => (i.zero, i.size, i.bytes)) = some (some (.agg #[.int .i64 0, .string ByteArray.empty, .int .i64 0]), 3, 32) := by kernel_rfl
theorem row3_one (r : Row) : ∀ u ∈ row3 r, u.oneCell' = true := by
  intro u hu
  simp only [row3, List.mem_cons, List.not_mem_nil, or_false] at hu
  rcases hu with rfl | rfl | rfl <;> rfl
theorem add_none (g j : Nat) : (⟨g, 0, none⟩ : Addr).add j = ⟨g, j, none⟩ := by unfold Addr.add; split <;> simp_all
theorem own_rows {w : World} {base : Nat} {v : Value} {L : List Row} (h : w.ownsRow base 95 3 v L.length (rowCells L)) (hl : L.length ≤ 2600000000000) : RowsIs w v L := by
  rcases h.2 with ⟨rfl, h0⟩ | ⟨g, cap, cur, rfl, hb, hh, h1, h2, h3, h4⟩
  · exact ⟨none, 0, by rw [h0], by omega, Nat.zero_le _, hl, fun hp => by omega⟩
  · refine ⟨_, cap, rfl, h1, h2, hl, fun h0 => ?_⟩
    obtain ⟨g', cap', e, hb', hlt, _, _, hc⟩ := own_cells h h0
    simp only [Value.slice.injEq, Option.some.injEq, Addr.mk.injEq, true_and, and_true] at e
    obtain ⟨rfl, rfl⟩ := e
    exact ⟨g, rfl, ⟨cur, hh⟩, hc⟩

theorem own_slice {w : World} {base e size n : Nat} {v : Value} {xs : List Value} (h : w.ownsRow base e size v n xs) : ∃ A c, v = .slice A n c := by
  rcases h.2 with ⟨rfl, rfl⟩ | ⟨g, cap, cur, rfl, _⟩
  · exact ⟨_, _, rfl⟩
  · exact ⟨_, _, rfl⟩
/-- append(l, r) of one row -/
theorem wpList_append_row {ops : Array Oper} {rest : List Oper} {o : Oper} {a : Act} {w : World} {Q : Exit → Act → World → Prop} (hg : o.guard = none) (s x : Operand)
    (ho : o.op = .call { callee := .builtin .append, args := #[s, x], argTypes := #[79, 79] }) (W : World) (base : Nat) (v : Value) (acc : List Row) (r : Row)
    (hw : w = W.alloc (.cells #[.int .i64 r.dir, .string r.name, .int .i64 r.ino] 95)) (hs : a.eval s = v) (gx : Nat) (hgx : gx = W.heap.size) (hx : a.eval x = .slice (some ⟨gx, 0, none⟩) 1 1)
    (hown : W.ownsRow base 95 3 v acc.length (rowCells acc)) (hb : base ≤ W.heap.size) (hl : acc.length ≤ 2600000000000)
    (h : ∀ v' w', w'.ownsRow base 95 3 v' (acc ++ [r]).length (rowCells (acc ++ [r])) → Mod (fun k => some k = v.ownBlock) W w' → wpList Try.prog ops Q rest (a.put o.dst v') w') : wpList Try.prog ops Q (o :: rest) a w := by
  subst hgx
  obtain ⟨i0, hi, hz, hsz, hby⟩ := info_parts info95
  have hM : Mod None_ W w := by rw [hw]; exact (Mod.refl _ W).alloc _
  have hown1 := own_mod hown hM (fun _ _ f => f)
  have hB : Blk w W.heap.size 95 (row3 r).toArray := by rw [hw]; exact Blk.new _ _ _
  refine wpList_append_own w hg s x 79 ho base 95 i0 _ 3 32 Try.underlying79 hi hz hsz hby rfl (by decide) v acc.length _ hs hown1 ⟨W.heap.size, 0, none⟩ 1 1 (row3 r) hx rfl (fun t u ht => ?_) (row3_one r) (by simp only [maxLen]; omega) (by omega) (by rw [hw, alloc_size]; omega) ?_
  · rw [add_none, hB.cell]; simpa using ht
  · intro v' w' hown' hgr _
    exact h v' w' (by rw [List.length_append, rowCells_snoc]; exact hown') (hM.none.trans' (Mod.of_grown hgr) fun k hk e => e)

def aboveB (r : Row) (d : Int) (s : ByteArray) : Bool := decide (d < r.dir) || (decide (r.dir = d) && strLt s r.name)
def insStep (x : Row) (st : List Row × Bool) (r : Row) : List Row × Bool := if st.2 = false ∧ aboveB r x.dir x.name = true then (st.1 ++ [x] ++ [r], true) else (st.1 ++ [r], st.2)
def insFold (x : Row) (L : List Row) : List Row × Bool := L.foldl (insStep x) ([], false)
def refIns (x : Row) (L : List Row) : List Row := if (insFold x L).2 = true then (insFold x L).1 else (insFold x L).1 ++ [x]
theorem insFold_snoc (x : Row) (L : List Row) (r : Row) : insFold x (L ++ [r]) = insStep x (insFold x L) r := by unfold insFold; rw [List.foldl_append]; rfl
theorem insFold_len' (x : Row) : ∀ (L : List Row) (st : List Row × Bool), (L.foldl (insStep x) st).1.length + st.2.toNat = st.1.length + L.length + (L.foldl (insStep x) st).2.toNat
  | [], st => by simp
  | r :: L, st => by
    have h := insFold_len' x L (insStep x st r)
    show (L.foldl (insStep x) (insStep x st r)).1.length + st.2.toNat = st.1.length + (L.length + 1) + (L.foldl (insStep x) (insStep x st r)).2.toNat
    by_cases hc : st.2 = false ∧ aboveB r x.dir x.name = true
    · have e : insStep x st r = (st.1 ++ [x] ++ [r], true) := by unfold insStep; rw [if_pos hc]
      rw [e] at h ⊢
      simp only [List.length_append, List.length_cons, List.length_nil, Bool.toNat_true] at h
      rw [hc.1, Bool.toNat_false]
      omega
    · have e : insStep x st r = (st.1 ++ [r], st.2) := by unfold insStep; rw [if_neg hc]
      rw [e] at h ⊢
      simp only [List.length_append, List.length_cons, List.length_nil] at h
      omega
theorem insFold_len (x : Row) (L : List Row) : (insFold x L).1.length = L.length + (insFold x L).2.toNat := by
  have h := insFold_len' x L ([], false)
  simpa [insFold] using h
theorem refIns_len (x : Row) (L : List Row) : (refIns x L).length = L.length + 1 := by
  have h := insFold_len x L
  unfold refIns
  split
  · rename_i e; rw [e, Bool.toNat_true] at h; exact h
  · rename_i e
    have e' : (insFold x L).2 = false := by simpa using e
    rw [e', Bool.toNat_false] at h; rw [List.length_append, h]; rfl
def refPutErr (L : List Row) (d : Int) (s : ByteArray) (i : Int) : Int :=
  if isInodeB d = false ∨ isInodeB i = false then 83 else if goodName s = false then 80 else if 0 ≤ findAt L d s then 81 else 0
def refPut (L : List Row) (d : Int) (s : ByteArray) (i : Int) : List Row := if refPutErr L d s i = 0 then refIns ⟨d, s, i⟩ L else L

def RefPutPost (w : World) (y : Nat) (L : List Row) (d : Int) (s : ByteArray) (i : Int) : Ending → World → Prop :=
  fun e w' => e = .returned (.int .i64 (refPutErr L d s i)) ∧ Mod (· = y) w w' ∧ RefAt w' y (refPut L d s i)
theorem RefPutPost.of_err {w : World} {y : Nat} {L : List Row} {d : Int} {s : ByteArray} {i n : Int} (he : refPutErr L d s i = n) (hn : n ≠ 0) (h : RefAt w y L) :
    RefPutPost w y L d s i (.returned (.int .i64 n)) w := by
  refine ⟨by rw [he], Mod.refl _ _, ?_⟩
  unfold refPut
  rw [if_neg (by rw [he]; exact hn)]
  exact h

set_option maxRecDepth 100000 in
set_option maxHeartbeats 400000 in
theorem refPut_inode (w : World) (y : Nat) (L : List Row) (d : Int) (s : ByteArray) (i : Int) (h : RefAt w y L) (hc : isInodeB d = false ∨ isInodeB i = false) :
    Calls Try.prog 49 #[.pointer (some ⟨y, 0, none⟩), .int .i64 d, .string s, .int .i64 i] w (RefPutPost w y L d s i) := by
  have HF := hide (RefPutPost.of_err (s := s) (d := d) (i := i) (n := 83) (by unfold refPutErr; rw [if_pos hc]) (by decide) h)
  clear h
  cases hd : isInodeB d with
  | false =>
    go_enter Try.func49, Try.ntmps49
    go_wp2_with (go_at_call 66; refine (refNumber_any _ _).mono ?_; rintro e w1 ⟨rfl, rfl⟩)
    go_ret
    exact HF.out
  | true =>
    have hi : isInodeB i = false := hc.resolve_left (by simp [hd])
    clear hc
    go_enter Try.func49, Try.ntmps49
    go_wp2_with (go_at_call 66; refine (refNumber_any _ _).mono ?_; rintro e w1 ⟨rfl, rfl⟩)
    go_ret
    exact HF.out
set_option maxRecDepth 100000 in
set_option maxHeartbeats 400000 in
theorem refPut_name (w : World) (y : Nat) (L : List Row) (d : Int) (s : ByteArray) (i : Int) (h : RefAt w y L) (hd : isInodeB d = true) (hi : isInodeB i = true) (hs : goodName s = false) :
    Calls Try.prog 49 #[.pointer (some ⟨y, 0, none⟩), .int .i64 d, .string s, .int .i64 i] w (RefPutPost w y L d s i) := by
  have HF := hide (RefPutPost.of_err (s := s) (d := d) (i := i) (n := 80) (by unfold refPutErr; rw [if_neg (by simp [hd, hi]), if_pos hs]) (by decide) h)
  clear h
  go_enter Try.func49, Try.ntmps49
  go_wp2_with (first
    | (go_at_call 66; refine (refNumber_any _ _).mono ?_; rintro e w1 ⟨rfl, rfl⟩)
    | (go_at_call 67; refine (refGood_any _ _).mono ?_; rintro e w1 ⟨rfl, rfl⟩))
  go_ret
  exact HF.out
set_option maxRecDepth 100000 in
set_option maxHeartbeats 400000 in
theorem refPut_have (w : World) (y : Nat) (L : List Row) (d : Int) (s : ByteArray) (i : Int) (h : RefAt w y L) (hd : isInodeB d = true) (hi : isInodeB i = true) (hs : goodName s = true) (hf : 0 ≤ findAt L d s) :
    Calls Try.prog 49 #[.pointer (some ⟨y, 0, none⟩), .int .i64 d, .string s, .int .i64 i] w (RefPutPost w y L d s i) := by
  have HF := hide (RefPutPost.of_err (s := s) (d := d) (i := i) (n := 81) (by unfold refPutErr; rw [if_neg (by simp [hd, hi]), if_neg (by simp [hs]), if_pos hf]) (by decide) h)
  have HH := hide (refFind_any w y L d s h)
  clear h
  go_enter Try.func49, Try.ntmps49
  go_wp2_with (first
    | (go_at_call 66; refine (refNumber_any _ _).mono ?_; rintro e w1 ⟨rfl, rfl⟩)
    | (go_at_call 67; refine (refGood_any _ _).mono ?_; rintro e w1 ⟨rfl, rfl⟩)
    | (go_at_call 68; refine Calls.mono HH.out ?_; rintro e w1 ⟨rfl, rfl⟩))
  go_ret
  exact HF.out

set_option maxRecDepth 100000 in
set_option maxHeartbeats 4000000 in
theorem refPut_rest (w : World) (y : Nat) (L : List Row) (d : Int) (s : ByteArray) (i : Int) (h : RefAt w y L) (hlen : L.length ≤ 2520000000000) (hd : isInodeB d = true) (hi : isInodeB i = true) (hs : goodName s = true) (hf : findAt L d s < 0) :
    Calls Try.prog 49 #[.pointer (some ⟨y, 0, none⟩), .int .i64 d, .string s, .int .i64 i] w (RefPutPost w y L d s i) := by
  have hHf := refFind_any w y L d s h
  have hy := h.lt
  obtain ⟨v, hB, A, c, rfl, hc1, hc2, hlen2, hA⟩ := h.ex
  have cy : w.cell? ⟨y, 0, none⟩ = some (.slice A L.length c) := hB.cell 0
  have he : refPutErr L d s i = 0 := by unfold refPutErr; rw [if_neg (by simp [hd, hi]), if_neg (by simp [hs]), if_neg (by omega)]
  have hpl : refPut L d s i = refIns ⟨d, s, i⟩ L := by unfold refPut; rw [if_pos he]
  have HH := hide hHf
  have HA := hide hA
  have HE := hide he
  have HPL := hide hpl
  have HB := hide hB
  clear hHf hA he hpl hB h
  go_enter Try.func49, Try.ntmps49
  go_wp2_with (first
    | (go_at_call 66; refine (refNumber_any _ _).mono ?_; rintro e w1 ⟨rfl, rfl⟩)
    | (go_at_call 67; refine (refGood_any _ _).mono ?_; rintro e w1 ⟨rfl, rfl⟩)
    | (go_at_call 68; refine Calls.mono HH.out ?_; rintro e w1 ⟨rfl, rfl⟩))
  go_loopg [10, 11, 12, 13] L.length (fun n l dn i' r wr => ∃ k : Nat, k + n = L.length ∧ i' = .int .i64 k ∧ dn = .bool (insFold ⟨d, s, i⟩ (L.take k)).2 ∧
    wr.ownsRow w.heap.size 95 3 l (insFold ⟨d, s, i⟩ (L.take k)).1.length (rowCells (insFold ⟨d, s, i⟩ (L.take k)).1) ∧ Mod None_ w wr)
  case atStart => exact ⟨0, by omega, rfl, rfl, ⟨rfl, .inl ⟨rfl, rfl⟩⟩, Mod.refl _ _⟩
  case round =>
    obtain ⟨k, hk, rfl, rfl, hown, hM⟩ := hrel
    have cy' : wr.cell? ⟨y, 0, none⟩ = some (.slice A L.length c) := (World.cell?_of_block (hM.block y hy id)).trans cy
    have hbase := hM.size
    by_cases hlt : k < L.length
    · have hki : (k : Int) < L.length := by omega
      obtain ⟨g, rfl, ⟨cs, hg⟩, hcc⟩ := HA.out (by omega)
      have hgl := (Array.getElem?_eq_some_iff.1 hg).1
      have x0 : wr.cell? ⟨g, k * 3, none⟩ = some (.int .i64 L[k].dir) := (World.cell?_of_block (hM.block g hgl id)).trans (hcc _ _ ((rowCells_get L k 0 hlt (by omega)).trans rfl))
      have x1 : wr.cell? ⟨g, k * 3 + 1, none⟩ = some (.string L[k].name) := (World.cell?_of_block (hM.block g hgl id)).trans (hcc _ _ ((rowCells_get L k 1 hlt (by omega)).trans rfl))
      have x2 : wr.cell? ⟨g, k * 3 + 2, none⟩ = some (.int .i64 L[k].ino) := (World.cell?_of_block (hM.block g hgl id)).trans (hcc _ _ ((rowCells_get L k 2 hlt (by omega)).trans rfl))
      have hst := insFold_snoc ⟨d, s, i⟩ (L.take k) L[k]
      rw [← List.take_succ_eq_append_getElem hlt] at hst
      have hil := insFold_len ⟨d, s, i⟩ (L.take k)
      have htl := List.length_take_le k L
      obtain ⟨r, hr⟩ : ∃ r, r = L[k] := ⟨_, rfl⟩
      rw [← hr] at x0 x1 x2 hst
      obtain ⟨acc, hacc⟩ : ∃ acc, acc = (insFold ⟨d, s, i⟩ (L.take k)).1 := ⟨_, rfl⟩
      obtain ⟨db, hdb⟩ : ∃ db, db = (insFold ⟨d, s, i⟩ (L.take k)).2 := ⟨_, rfl⟩
      rw [← hacc, ← hdb] at hil
      have hst' : insFold ⟨d, s, i⟩ (L.take (k + 1)) = if db = false ∧ aboveB r d s = true then (acc ++ [⟨d, s, i⟩] ++ [r], true) else (acc ++ [r], db) := by
        rw [hst]; unfold insStep; rw [hacc, hdb]
      rw [← hacc] at hown
      rw [← hdb]
      have hal : acc.length ≤ 2520000000001 := by have := Bool.toNat_le db; omega
      have HST := hide hst'
      have HK := hide hk
      have HOWN := hide hown
      clear hcc hr hacc hdb hst hst' hil htl hk hown
      cases db with
      | true =>
        have hW : Mod None_ wr (wr.alloc (.cells #[.int .i64 r.dir, .string r.name, .int .i64 r.ino] 95)) := (Mod.refl _ wr).alloc _
        have hbW : w.heap.size ≤ (wr.alloc (.cells #[.int .i64 r.dir, .string r.name, .int .i64 r.ino] 95)).heap.size := by rw [alloc_size]; omega
        have HOW := hide (own_mod HOWN.out hW (fun _ _ f => f))
        go_wp2_with ((with_reducible refine at_slot 77 ?_); refine wpList_append_row rfl (.tmp 74) (.tmp 76) rfl (wr.alloc (.cells #[.int .i64 r.dir, .string r.name, .int .i64 r.ino] 95)) w.heap.size _ acc r rfl rfl (wr.heap.size + 1) (alloc_size _ _).symm rfl HOW.out hbW (by omega) ?_; intro v8 w8 hown8 hm8; go_frame)
        go_roundg (gk - 1)
        case measure => have := HK.out; omega
        case rel =>
          have e : insFold ⟨d, s, i⟩ (L.take (k + 1)) = (acc ++ [r], true) := by rw [HST.out]; simp
          exact ⟨k + 1, by have := HK.out; omega, by go_num, by rw [e], by rw [e]; exact hown8, (hM.trans hW).trans' hm8 (fun b hb e => by have := (own_blk HOW.out e.symm).1; omega)⟩
      | false =>
        by_cases hd1 : d < r.dir
        · have hab : aboveB r d s = true := by unfold aboveB; simp [hd1]
          have HAB := hide hab
          clear hab
          have hW : Mod None_ wr (wr.alloc (.cells #[.int .i64 r.dir, .string r.name, .int .i64 r.ino] 95)) := (Mod.refl _ wr).alloc _
          have hbW : w.heap.size ≤ (wr.alloc (.cells #[.int .i64 r.dir, .string r.name, .int .i64 r.ino] 95)).heap.size := by rw [alloc_size]; omega
          have HOW := hide (own_mod HOWN.out hW (fun _ _ f => f))
          go_wp2_with (first
            | ((with_reducible refine at_slot 73 ?_); refine wpList_append_row rfl (.tmp 67) (.tmp 72) rfl (wr.alloc (.cells #[.int .i64 r.dir, .string r.name, .int .i64 r.ino] 95)) w.heap.size _ acc ⟨d, s, i⟩ rfl rfl (wr.heap.size + 1) (alloc_size _ _).symm rfl HOW.out hbW (by omega) ?_; intro v8 w8 hown8 hm8; go_frame
               have hB8 : Blk w8 wr.heap.size 95 (row3 r).toArray := (Blk.new wr 95 (row3 r).toArray).mod hm8 (fun e => by have := own_lt HOWN.out e.symm; omega)
               have y0 : w8.cell? ⟨wr.heap.size, 0, none⟩ = some (.int .i64 r.dir) := hB8.cell 0
               have y1 : w8.cell? ⟨wr.heap.size, 1, none⟩ = some (.string r.name) := hB8.cell 1
               have y2 : w8.cell? ⟨wr.heap.size, 2, none⟩ = some (.int .i64 r.ino) := hB8.cell 2
               have hM8 : Mod None_ w w8 := (hM.trans hW).trans' hm8 (fun b hb e => by have := (own_blk HOW.out e.symm).1; omega)
               have hb8 : w.heap.size ≤ w8.heap.size := hM8.size
               have HOW8 := hide hown8
               clear hown8 hB8 hm8)
            | ((with_reducible refine at_slot 77 ?_); (refine wpList_append_row rfl (.tmp 74) (.tmp 76) rfl w8 w.heap.size v8 (acc ++ [⟨d, s, i⟩]) r rfl rfl w8.heap.size rfl rfl HOW8.out hb8 (by rw [List.length_append]; simp only [List.length_cons, List.length_nil]; omega) ?_; intro v9 w9 hown9 hm9; go_frame)))
          go_roundg (gk - 1)
          case measure => have := HK.out; omega
          case rel =>
            have e : insFold ⟨d, s, i⟩ (L.take (k + 1)) = (acc ++ [⟨d, s, i⟩] ++ [r], true) := by rw [HST.out]; simp [HAB.out]
            exact ⟨k + 1, by have := HK.out; omega, by go_num, by rw [e], by rw [e]; exact hown9, hM8.trans' hm9 (fun b hb e => by have := (own_blk HOW8.out e.symm).1; omega)⟩
        · by_cases hd2 : r.dir = d
          · have ed : ((r.dir : Int) == d) = true := by rw [hd2]; exact beq_self_eq_true d
            have hd3 : decide (d < r.dir) = false := decide_eq_false hd1
            cases hlt2 : strLt s r.name with
            | true =>
              have hab : aboveB r d s = true := by unfold aboveB; simp [hd2, hlt2]
              have HAB := hide hab
              have HD2 := hide hd2
              have g1 : Op.bytesLess r.name.toList s.toList = false := strLt_asymm hlt2
              have g2 : (r.name.toList == s.toList) = false := by
                rw [beq_eq_false_iff_ne]
                intro e
                rw [Go.Lib.toList_data, Go.Lib.toList_data] at e
                rw [Go.WideShapes.bytes_inj e, strLt_irrefl] at hlt2
                cases hlt2
              clear hab hd2 hd1 hlt2
              have hW : Mod None_ wr (wr.alloc (.cells #[.int .i64 r.dir, .string r.name, .int .i64 r.ino] 95)) := (Mod.refl _ wr).alloc _
              have hbW : w.heap.size ≤ (wr.alloc (.cells #[.int .i64 r.dir, .string r.name, .int .i64 r.ino] 95)).heap.size := by rw [alloc_size]; omega
              have HOW := hide (own_mod HOWN.out hW (fun _ _ f => f))
              go_wp2_with (first
                | ((with_reducible refine at_slot 73 ?_); refine wpList_append_row rfl (.tmp 67) (.tmp 72) rfl (wr.alloc (.cells #[.int .i64 r.dir, .string r.name, .int .i64 r.ino] 95)) w.heap.size _ acc ⟨d, s, i⟩ rfl rfl (wr.heap.size + 1) (alloc_size _ _).symm rfl HOW.out hbW (by omega) ?_; intro v8 w8 hown8 hm8; go_frame
                   have hB8 : Blk w8 wr.heap.size 95 (row3 r).toArray := (Blk.new wr 95 (row3 r).toArray).mod hm8 (fun e => by have := own_lt HOWN.out e.symm; omega)
                   have y0 : w8.cell? ⟨wr.heap.size, 0, none⟩ = some (.int .i64 r.dir) := hB8.cell 0
                   have y1 : w8.cell? ⟨wr.heap.size, 1, none⟩ = some (.string r.name) := hB8.cell 1
                   have y2 : w8.cell? ⟨wr.heap.size, 2, none⟩ = some (.int .i64 r.ino) := hB8.cell 2
                   have hM8 : Mod None_ w w8 := (hM.trans hW).trans' hm8 (fun b hb e => by have := (own_blk HOW.out e.symm).1; omega)
                   have hb8 : w.heap.size ≤ w8.heap.size := hM8.size
                   have HOW8 := hide hown8
                   clear hown8 hB8 hm8)
                | ((with_reducible refine at_slot 77 ?_); (refine wpList_append_row rfl (.tmp 74) (.tmp 76) rfl w8 w.heap.size v8 (acc ++ [⟨d, s, i⟩]) r rfl rfl w8.heap.size rfl rfl HOW8.out hb8 (by rw [List.length_append]; simp only [List.length_cons, List.length_nil]; omega) ?_; intro v9 w9 hown9 hm9; go_frame)))
              go_roundg (gk - 1)
              case measure => have := HK.out; omega
              case rel =>
                have e : insFold ⟨d, s, i⟩ (L.take (k + 1)) = (acc ++ [⟨d, s, i⟩] ++ [r], true) := by rw [HST.out]; simp [HAB.out]
                exact ⟨k + 1, by have := HK.out; omega, by go_num, by rw [e], by rw [e]; exact hown9, hM8.trans' hm9 (fun b hb e => by have := (own_blk HOW8.out e.symm).1; omega)⟩
            | false =>
              have hab : aboveB r d s = false := by unfold aboveB; simp [hd1, hlt2]
              have HAB := hide hab
              have HD2 := hide hd2
              clear hab hd2 hd1
              by_cases hne : r.name = s
              · have g1 : Op.bytesLess r.name.toList s.toList = false := by rw [hne]; exact strLt_irrefl s
                have g2 : (r.name.toList == s.toList) = true := by rw [hne]; simp
                clear hne hlt2
                have hW : Mod None_ wr (wr.alloc (.cells #[.int .i64 r.dir, .string r.name, .int .i64 r.ino] 95)) := (Mod.refl _ wr).alloc _
                have hbW : w.heap.size ≤ (wr.alloc (.cells #[.int .i64 r.dir, .string r.name, .int .i64 r.ino] 95)).heap.size := by rw [alloc_size]; omega
                have HOW := hide (own_mod HOWN.out hW (fun _ _ f => f))
                go_wp2_with ((with_reducible refine at_slot 77 ?_); refine wpList_append_row rfl (.tmp 74) (.tmp 76) rfl (wr.alloc (.cells #[.int .i64 r.dir, .string r.name, .int .i64 r.ino] 95)) w.heap.size _ acc r rfl rfl (wr.heap.size + 1) (alloc_size _ _).symm rfl HOW.out hbW (by omega) ?_; intro v8 w8 hown8 hm8; go_frame)
                go_roundg (gk - 1)
                case measure => have := HK.out; omega
                case rel =>
                  have e : insFold ⟨d, s, i⟩ (L.take (k + 1)) = (acc ++ [r], false) := by rw [HST.out]; rw [if_neg (by rw [HAB.out]; simp)]
                  exact ⟨k + 1, by have := HK.out; omega, by go_num, by rw [e], by rw [e]; exact hown8, (hM.trans hW).trans' hm8 (fun b hb e => by have := (own_blk HOW.out e.symm).1; omega)⟩
              · have g1 : Op.bytesLess r.name.toList s.toList = true := by
                  cases h1 : Op.bytesLess r.name.toList s.toList with
                  | true => rfl
                  | false => exact absurd (strLt_tri h1 hlt2) hne
                clear hne hlt2
                have hW : Mod None_ wr (wr.alloc (.cells #[.int .i64 r.dir, .string r.name, .int .i64 r.ino] 95)) := (Mod.refl _ wr).alloc _
                have hbW : w.heap.size ≤ (wr.alloc (.cells #[.int .i64 r.dir, .string r.name, .int .i64 r.ino] 95)).heap.size := by rw [alloc_size]; omega
                have HOW := hide (own_mod HOWN.out hW (fun _ _ f => f))
                go_wp2_with ((with_reducible refine at_slot 77 ?_); refine wpList_append_row rfl (.tmp 74) (.tmp 76) rfl (wr.alloc (.cells #[.int .i64 r.dir, .string r.name, .int .i64 r.ino] 95)) w.heap.size _ acc r rfl rfl (wr.heap.size + 1) (alloc_size _ _).symm rfl HOW.out hbW (by omega) ?_; intro v8 w8 hown8 hm8; go_frame)
                go_roundg (gk - 1)
                case measure => have := HK.out; omega
                case rel =>
                  have e : insFold ⟨d, s, i⟩ (L.take (k + 1)) = (acc ++ [r], false) := by rw [HST.out]; rw [if_neg (by rw [HAB.out]; simp)]
                  exact ⟨k + 1, by have := HK.out; omega, by go_num, by rw [e], by rw [e]; exact hown8, (hM.trans hW).trans' hm8 (fun b hb e => by have := (own_blk HOW.out e.symm).1; omega)⟩
          · have ed : ((r.dir : Int) == d) = false := by rw [beq_eq_false_iff_ne]; exact hd2
            have hd3 : decide (d < r.dir) = false := decide_eq_false hd1
            have hab : aboveB r d s = false := by unfold aboveB; simp [hd1, hd2]
            have HAB := hide hab
            clear hab hd2 hd1
            have hW : Mod None_ wr (wr.alloc (.cells #[.int .i64 r.dir, .string r.name, .int .i64 r.ino] 95)) := (Mod.refl _ wr).alloc _
            have hbW : w.heap.size ≤ (wr.alloc (.cells #[.int .i64 r.dir, .string r.name, .int .i64 r.ino] 95)).heap.size := by rw [alloc_size]; omega
            have HOW := hide (own_mod HOWN.out hW (fun _ _ f => f))
            go_wp2_with ((with_reducible refine at_slot 77 ?_); refine wpList_append_row rfl (.tmp 74) (.tmp 76) rfl (wr.alloc (.cells #[.int .i64 r.dir, .string r.name, .int .i64 r.ino] 95)) w.heap.size _ acc r rfl rfl (wr.heap.size + 1) (alloc_size _ _).symm rfl HOW.out hbW (by omega) ?_; intro v8 w8 hown8 hm8; go_frame)
            go_roundg (gk - 1)
            case measure => have := HK.out; omega
            case rel =>
              have e : insFold ⟨d, s, i⟩ (L.take (k + 1)) = (acc ++ [r], false) := by rw [HST.out]; rw [if_neg (by rw [HAB.out]; simp)]
              exact ⟨k + 1, by have := HK.out; omega, by go_num, by rw [e], by rw [e]; exact hown8, (hM.trans hW).trans' hm8 (fun b hb e => by have := (own_blk HOW.out e.symm).1; omega)⟩
    · obtain rfl : k = L.length := by omega
      have hki : ¬ (L.length : Int) < L.length := by omega
      have htl : L.take L.length = L := List.take_of_length_le (Nat.le_refl _)
      rw [htl] at hown ⊢
      have hil := insFold_len ⟨d, s, i⟩ L
      obtain ⟨acc, hacc⟩ : ∃ acc, acc = (insFold ⟨d, s, i⟩ L).1 := ⟨_, rfl⟩
      obtain ⟨db, hdb⟩ : ∃ db, db = (insFold ⟨d, s, i⟩ L).2 := ⟨_, rfl⟩
      rw [← hacc, ← hdb] at hil
      rw [← hacc] at hown
      rw [← hdb]
      have hal : acc.length ≤ 2520000000001 := by have := Bool.toNat_le db; omega
      have hri : refIns ⟨d, s, i⟩ L = if db = true then acc else acc ++ [⟨d, s, i⟩] := by unfold refIns; rw [hacc, hdb]
      have HRI := hide hri
      have hBy := HB.out.mod hM id
      have cy2 : wr.frozen? ⟨y, 0, none⟩ = false := hBy.frozen 0
      have HBY := hide hBy
      clear hacc hdb htl hil hk hri hBy
      cases db with
      | true =>
        obtain ⟨A9, c9, rfl⟩ := own_slice hown
        have HOWN := hide hown
        clear hown
        go_wp2
        go_ret
        have hM2 : Mod (· = y) w (wr.setCell ⟨y, 0, none⟩ (.slice A9 acc.length c9)) := Mod.setCell (S := (· = y)) hM.none (.inr rfl) _
        refine ⟨by rw [HE.out]; rfl, hM2, ?_⟩
        rw [HPL.out, HRI.out]
        simp only [if_true]
        refine ⟨_, by simpa using HBY.out.set_ 0 (.slice A9 acc.length c9), ?_⟩
        have hown2 : (wr.setCell ⟨y, 0, none⟩ (.slice A9 acc.length c9)).ownsRow w.heap.size 95 3 (.slice A9 acc.length c9) acc.length (rowCells acc) := own_mod HOWN.out ((Mod.refl (· = y) wr).setCell (.inr rfl) _) (fun g hg e => by have := (own_blk HOWN.out hg).1; omega)
        exact own_rows hown2 (by omega)
      | false =>
        have HOWN := hide hown
        clear hown
        go_wp2_with ((with_reducible refine at_slot 86 ?_); refine wpList_append_row rfl (.tmp 80) (.tmp 85) rfl wr w.heap.size _ acc ⟨d, s, i⟩ rfl rfl wr.heap.size rfl rfl HOWN.out hbase (by omega) ?_; intro v8 w8 hown8 hm8; obtain ⟨A9, c9, rfl⟩ := own_slice hown8; rw [List.length_append] at hown8 ⊢; go_frame
                     have hM8 : Mod None_ w w8 := hM.trans' hm8 (fun b hb e => by have := (own_blk HOWN.out e.symm).1; omega)
                     have HBY8 := hide (HB.out.mod hM8 id)
                     have cy8 : w8.cell? ⟨y, 0, none⟩ = some (.slice A L.length c) := HBY8.out.cell 0
                     have cy9 : w8.frozen? ⟨y, 0, none⟩ = false := HBY8.out.frozen 0
                     have HOW8 := hide hown8
                     clear hown8 hm8)
        go_ret
        have hM2 : Mod (· = y) w (w8.setCell ⟨y, 0, none⟩ (.slice A9 (acc.length + 1) c9)) := Mod.setCell (S := (· = y)) hM8.none (.inr rfl) _
        refine ⟨by rw [HE.out]; rfl, hM2, ?_⟩
        rw [HPL.out, HRI.out]
        simp only [Bool.false_eq_true, if_false]
        refine ⟨_, by simpa using HBY8.out.set_ 0 (.slice A9 (acc.length + 1) c9), ?_⟩
        have hown2 : (w8.setCell ⟨y, 0, none⟩ (.slice A9 (acc.length + 1) c9)).ownsRow w.heap.size 95 3 (.slice A9 (acc.length + 1) c9) (acc ++ [(⟨d, s, i⟩ : Row)]).length (rowCells (acc ++ [(⟨d, s, i⟩ : Row)])) := by rw [List.length_append]; exact own_mod HOW8.out ((Mod.refl (· = y) w8).setCell (.inr rfl) _) (fun g hg e => by have := (own_blk HOW8.out hg).1; omega)
        exact own_rows hown2 (by simp; omega)
theorem refPut_any (w : World) (y : Nat) (L : List Row) (d : Int) (s : ByteArray) (i : Int) (h : RefAt w y L) (hlen : L.length ≤ 2520000000000) :
    Calls Try.prog 49 #[.pointer (some ⟨y, 0, none⟩), .int .i64 d, .string s, .int .i64 i] w (RefPutPost w y L d s i) := by
  by_cases hc : isInodeB d = false ∨ isInodeB i = false
  · exact refPut_inode w y L d s i h hc
  · have hd : isInodeB d = true := by simpa using fun h => hc (.inl h)
    have hi : isInodeB i = true := by simpa using fun h => hc (.inr h)
    cases hs : goodName s with
    | false => exact refPut_name w y L d s i h hd hi hs
    | true =>
      by_cases hf : 0 ≤ findAt L d s
      · exact refPut_have w y L d s i h hd hi hs hf
      · exact refPut_rest w y L d s i h hlen hd hi hs (by omega)
end Go.Proofs.Ytmamdacmpikdbaa
