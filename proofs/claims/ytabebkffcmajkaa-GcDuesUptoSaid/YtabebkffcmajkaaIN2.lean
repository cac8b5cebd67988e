import Derived.Test.YtabebkffcmajkaaIN1
/-! Walks: empty, dirOf, senseOf. -/
namespace Go.Proofs.Ytabebkffcmajkaa
open Go.RowKit Go.Maps Go.Shelf
attribute [local go_sem] quietV loudUpon Oper.semAt_some

theorem empty_dir (w : World) : Calls Try.prog 45 #[.int .i64 2] w fun e w' => e = .returned (.pointer (some ⟨w.heap.size + 4, 0, none⟩)) ∧
    Blk w' (w.heap.size + 4) 55 #[.int .i64 2, .int .i64 0, .pointer none, .pointer (some ⟨w.heap.size + 3, 0, none⟩)] ∧ IndexAt w' w.heap.size [] ∧ Mod None_ w w' := by
  go_enter Try.func45, Try.ntmps45
  go_wp2_with fail
  refine (new_any w).mono ?_
  rintro e w2 ⟨rfl, hI, hm, hs⟩
  go_wp2
  go_ret
  refine ⟨rfl, ?_, hI.kept ((Mod.refl _ w2).alloc _), hm.alloc _⟩
  have := Blk.new w2 55 #[.int .i64 2, .int .i64 0, .pointer none, .pointer (some ⟨w.heap.size + 3, 0, none⟩)]
  rw [hs] at this
  exact this

/-! ### what a directory's list means -/
def dirStep (acc : Option (List Row)) (x : ByteArray × Int) : Option (List Row) := acc.bind fun rows => if x.2 = 1 ∨ putErr rows 1 x.1 x.2 ≠ 0 then none else some (⟨1, x.1, x.2⟩ :: rows)
def dirRows (l : List (ByteArray × Int)) : Option (List Row) := l.foldl dirStep (some [])
theorem dirStep_none (l : List (ByteArray × Int)) : l.foldl dirStep none = none := by
  induction l with
  | nil => rfl
  | cons x l ih => exact ih
theorem dirRows_snoc (l : List (ByteArray × Int)) (x : ByteArray × Int) : dirRows (l ++ [x]) = dirStep (dirRows l) x := by unfold dirRows; rw [List.foldl_append]; rfl
theorem dirRows_bad {l : List (ByteArray × Int)} {k : Nat} {rows : List Row} (h : k < l.length) (hk : dirRows (l.take k) = some rows) (hb : l[k].2 = 1 ∨ putErr rows 1 l[k].1 l[k].2 ≠ 0) : dirRows l = none := by
  have e : l = l.take k ++ ([l[k]] ++ l.drop (k + 1)) := by simp
  have e2 : dirRows (l.take k ++ [l[k]]) = none := by rw [dirRows_snoc, hk]; simp only [dirStep, Option.bind_some]; rw [if_pos hb]
  have e3 : dirRows l = (l.drop (k + 1)).foldl dirStep (dirRows (l.take k ++ [l[k]])) := by
    conv => lhs; rw [e]
    unfold dirRows
    rw [← List.append_assoc, List.foldl_append]
  rw [e3, e2]; exact dirStep_none _
theorem dirRows_good {l : List (ByteArray × Int)} {k : Nat} {rows : List Row} (h : k < l.length) (hk : dirRows (l.take k) = some rows) (h1 : l[k].2 ≠ 1) (h2 : putErr rows 1 l[k].1 l[k].2 = 0) : dirRows (l.take (k + 1)) = some (⟨1, l[k].1, l[k].2⟩ :: rows) := by
  rw [List.take_succ_eq_append_getElem h, dirRows_snoc, hk]; simp only [dirStep, Option.bind_some]; rw [if_neg (fun h => h.elim h1 (fun g => g h2))]
def pairsOf (f : ByteArray → Int) (ns : List ByteArray) : List (ByteArray × Int) := ns.map fun s => (s, f s)
theorem pairsOf_length (f : ByteArray → Int) (ns : List ByteArray) : (pairsOf f ns).length = ns.length := by simp [pairsOf]
theorem list_of_ownDents {w : World} {base : Nat} {v : Value} {f : ByteArray → Int} {ns : List ByteArray} (h : w.ownsRow base 49 2 v ns.length (dentCells f ns)) : ListAt encDent 2 w v (pairsOf f ns) := by
  have hl := pairsOf_length f ns
  rcases h.2 with ⟨rfl, h0⟩ | ⟨g, cap, cur, rfl, hb, hg, hn, hc, hs, ht⟩
  · rw [← h0]; exact ⟨none, 0, by rw [hl, h0], by omega, by unfold maxLen; omega, fun h => by omega⟩
  · refine ⟨_, cap, by rw [hl], by omega, hc, fun h0 => ⟨g, 0, rfl, (Array.getElem?_eq_some_iff.1 hg).1, fun i hi j u hj => ?_⟩⟩
    have hi2 : i < ns.length := by omega
    have e : (pairsOf f ns)[i] = (ns[i], f ns[i]) := by simp [pairsOf]
    rw [e] at hj
    have hcell := h.cells (g := g) rfl
    match j, hj with
    | 0, hj =>
      obtain rfl : Value.string ns[i] = u := by simpa [encDent] using hj
      have a := dentCells_get f ns (i * 2) (by omega)
      have x := hcell (i * 2) (.string ns[i]) (by rw [a]; have e1 : i * 2 / 2 = i := by omega
                                                  have e2 : i * 2 % 2 = 0 := by omega
                                                  simp [e1, e2, encD])
      simpa [Addr.add_lit] using x
    | 1, hj =>
      obtain rfl : Value.int .i64 (f ns[i]) = u := by simpa [encDent] using hj
      have a := dentCells_get f ns (i * 2 + 1) (by omega)
      have x := hcell (i * 2 + 1) (.int .i64 (f ns[i])) (by rw [a]; have e1 : (i * 2 + 1) / 2 = i := by omega
                                                            have e2 : (i * 2 + 1) % 2 = 1 := by omega
                                                            simp [e1, e2, encD])
      simpa [Addr.add_lit] using x
def namesOf (rows : List Row) : List (ByteArray × Int) := pairsOf (findIno rows 1) (listNames rows 1)
def dirGood (n : NodeD) : Bool := decide (n.size = 0) && decide (n.map.length = 0) && (match dirRows n.names with | none => false | some rows => decide (namesOf rows = n.names))
def DirPost (w : World) (n : NodeD) : Ending → World → Prop := fun e w' =>
  if dirGood n = true then ∃ s b rows, e = .returned (.pointer (some ⟨s, 0, none⟩)) ∧ Blk w' s 55 #[.int .i64 2, .int .i64 0, .pointer none, .pointer (some ⟨b + 3, 0, none⟩)] ∧ IndexAt w' b rows ∧ dirRows n.names = some rows ∧
      w.heap.size ≤ b ∧ b + 3 < s ∧ Mod None_ w w'
  else e = .returned (.pointer none) ∧ Mod None_ w w'
theorem dir_bad {w w' : World} {n : NodeD} (h : dirGood n = false) (hm : Mod None_ w w') : DirPost w n (.returned (.pointer none)) w' := by
  unfold DirPost; rw [if_neg (by rw [h]; simp)]; exact ⟨rfl, hm⟩
theorem dir_bad_size {n : NodeD} (h : n.size ≠ 0) : dirGood n = false := by unfold dirGood; simp [h]
theorem dir_bad_map {n : NodeD} (h : n.map.length ≠ 0) : dirGood n = false := by unfold dirGood; simp [h]
theorem dir_bad_rows {n : NodeD} (h : dirRows n.names = none) : dirGood n = false := by unfold dirGood; rw [h]; simp
theorem dir_bad_names {n : NodeD} {rows : List Row} (h : dirRows n.names = some rows) (h2 : ¬ namesOf rows = n.names) : dirGood n = false := by unfold dirGood; rw [h]; simp [h2]
theorem dir_ok {n : NodeD} {rows : List Row} (h1 : n.size = 0) (h2 : n.map.length = 0) (h : dirRows n.names = some rows) (h3 : namesOf rows = n.names) : dirGood n = true := by unfold dirGood; rw [h]; simp [h1, h2, h3]

set_option maxRecDepth 100000 in
set_option maxHeartbeats 8000000 in
theorem dir_any (w : World) (n : NodeD) (vm vn vl : Value) (h : NodeAt w n vm vn vl) : Calls Try.prog 31 #[.agg (nodeC n vm vn vl)] w (DirPost w n) := by
  obtain ⟨An, cn, rfl, hcn1, hcn2, _⟩ := id h.names
  obtain ⟨Am, cm, rfl, hcm1, hcm2, hml, _, _⟩ := id h.map
  obtain ⟨hs1, hs2⟩ := h.size
  have HN := hide h
  have hnl := h.nlen
  clear h
  have hln : ∀ w, (Builtin.len_ #[23] 3 #[.slice An n.names.length cn]).run Try.prog w = .ok (.int .i64 n.names.length) w := fun w => by simp [Builtin.len_, run_underlying Try.underlying23]; rfl
  have hlm : ∀ w, (Builtin.len_ #[22] 3 #[.slice Am n.map.length cm]).run Try.prog w = .ok (.int .i64 n.map.length) w := fun w => by simp [Builtin.len_, run_underlying Try.underlying22]; rfl
  unfold nodeC
  refine calls_of_wp_marks 3 Try.func31 rfl ?_
  simp only [Try.ntmps31, List.size_toArray, List.length_cons, List.length_nil, Nat.reduceAdd, Nat.reduceSub, Array.replicate_succ, Array.replicate_zero, List.push_toArray, List.append_toArray, List.nil_append, List.cons_append]
  by_cases hsz : n.size = 0
  · by_cases hmp : n.map.length = 0
    · have d1 : (n.size != 0) = false := by simp [hsz]
      have d3 : decide (0 < n.map.length) = false := decide_eq_false (by omega)
      have HSZ := hide hsz
      have HMP := hide hmp
      clear hsz hmp
      obtain ⟨m, hm⟩ : ∃ m, m = w.heap.size := ⟨_, rfl⟩
      obtain ⟨w1, hw1⟩ : ∃ w1, w1 = w.alloc (.cells (nodeC n (.slice Am n.map.length cm) (.slice An n.names.length cn) vl) 26) := ⟨_, rfl⟩
      have hM : Mod None_ w w1 := by rw [hw1]; exact (Mod.refl _ w).alloc _
      have b1 : Blk w1 m 26 (nodeC n (.slice Am n.map.length cm) (.slice An n.names.length cn) vl) := by rw [hw1, hm]; exact Blk.new w 26 _
      have hs1' : w1.heap.size = m + 1 := by rw [hw1, hm]; simp
      have hgem : w.heap.size ≤ m := by omega
      have hgem2 : m ≤ w.heap.size := by omega
      unfold nodeC at hw1
      have HW1 := hide hw1
      have HMM := hide hm
      clear hw1 hm
      go_wp2_with fail
      rw [← HW1.out, ← HMM.out]
      clear HW1 HMM
      refine (empty_dir w1).mono ?_
      rintro e w2 ⟨rfl, bs, hI, hm2⟩
      rw [hs1'] at bs hI
      rw [hs1']
      replace b1 := b1.mod hm2 (by first | exact id | omega | (unfold Ix; omega) | (unfold LateS Ix; omega))
      replace hM := hM.trans hm2
      have c5 : w2.cell? ⟨m, 5, none⟩ = some (.slice An n.names.length cn) := b1.cell 5
      clear hm2
      go_wp2_with fail
      go_loopw [19] (fun s wr => ∃ (k : Nat) (rows : List Row), k ≤ n.names.length ∧ s = .int .i64 k ∧ dirRows (n.names.take k) = some rows ∧ rows.length = k ∧ Mod None_ w wr ∧ Blk wr m 26 (nodeC n (.slice Am n.map.length cm) (.slice An n.names.length cn) vl) ∧ Blk wr (m + 1 + 4) 55 #[.int .i64 2, .int .i64 0, .pointer none, .pointer (some ⟨m + 1 + 3, 0, none⟩)] ∧ IndexAt wr (m + 1) rows) (fun s _ => n.names.length - (intOf s).toNat)
      case atStart => exact ⟨0, [], Nat.zero_le _, rfl, rfl, rfl, hM, b1, bs, hI⟩
      clear c5 b1 bs hI hM
      obtain ⟨k, rows, hk, rfl, hrw, hrl, hM, b1, bs, hI⟩ := hrel
      by_cases hlt : k < n.names.length
      · have hki : (k : Int) < n.names.length := by omega
        obtain ⟨_, _, hcv, _, _, hcell⟩ := (HN.out.kept hM).names
        simp only [Value.slice.injEq, true_and] at hcv
        obtain ⟨rfl, rfl⟩ := hcv
        obtain ⟨g, o, rfl, hg, hcell⟩ := hcell (by omega)
        have x0 : wr.cell? ⟨g, o + k * 2, none⟩ = some (.string n.names[k].1) := hcell k hlt 0 (.string n.names[k].1) rfl
        have x1 : wr.cell? ⟨g, o + k * 2 + 1, none⟩ = some (.int .i64 n.names[k].2) := hcell k hlt 1 (.int .i64 n.names[k].2) rfl
        have hbad : (n.names[k].2 = 1 ∨ putErr rows 1 n.names[k].1 n.names[k].2 ≠ 0) → dirRows n.names = none := dirRows_bad hlt hrw
        have hgood : n.names[k].2 ≠ 1 → putErr rows 1 n.names[k].1 n.names[k].2 = 0 → dirRows (n.names.take (k + 1)) = some (⟨1, n.names[k].1, n.names[k].2⟩ :: rows) := dirRows_good hlt hrw
        obtain ⟨x, hx⟩ : ∃ x, x = n.names[k] := ⟨_, rfl⟩
        rw [← hx] at x0 x1 hbad hgood
        obtain ⟨ma, hma⟩ : ∃ k, k = wr.heap.size := ⟨_, rfl⟩
        obtain ⟨wa, hwa⟩ : ∃ wa, wa = wr.alloc (.cells #[.string x.1, .int .i64 x.2] 49) := ⟨_, rfl⟩
        have hmwa : Mod None_ wr wa := by rw [hwa]; exact (Mod.refl _ wr).alloc _
        have b5 : Blk wa ma 49 #[.string x.1, .int .i64 x.2] := by rw [hwa, hma]; exact Blk.new wr 49 _
        have hlma : m + 1 + 4 < ma := by rw [hma]; exact bs.lt
        replace b1 := b1.mod hmwa (by first | exact id | omega | (unfold Ix; omega) | (unfold LateS Ix; omega))
        replace bs := bs.mod hmwa (by first | exact id | omega | (unfold Ix; omega) | (unfold LateS Ix; omega))
        replace hM := hM.trans hmwa
        replace hI := hI.kept hmwa
        have HWA := hide hwa
        have HMA := hide hma
        have HGD := hide hgood
        clear hwa hcell hx hrw hmwa hma hgood
        go_wp2_with fail
        rw [← HMA.out, ← HWA.out]
        clear HMA HWA x0 x1
        by_cases hx1 : x.2 = 1
        · have HB := hide (dir_bad_rows (hbad (.inl hx1)))
          rw [hx1] at b5
          clear hbad hx1
          refine region_stw (by kernel_rfl) (by kernel_rfl) ?_
          rintro w4 hw4
          have hm4 : Mod None_ wa w4 := by rw [hw4]; exact (Mod.refl _ wa).drew
          replace b5 := b5.mod hm4 (by first | exact id | omega | (unfold Ix; omega) | (unfold LateS Ix; omega))
          replace hM := hM.trans hm4
          have c0 : w4.cell? ⟨ma, 0, none⟩ = some (.string x.1) := b5.cell 0
          have c1 : w4.cell? ⟨ma, 1, none⟩ = some (.int .i64 1) := b5.cell 1
          clear hw4 hm4
          repeat (refine stw_step (fun K hK => ?_); go_simp; refine hK _ ?_; clear hK K)
          refine stw_nil ?_
          have HF := hide (dir_bad HB.out hM)
          go_wp2
          refine ⟨.pointer none, ?_, HF.out⟩
          simp [results, Try.results31, go_sem]
        · have d5 : (x.2 == 1) = false := by simpa using hx1
          have hNX : x.2 ≠ 1 := hx1
          have HX := hide hNX
          clear hx1 hNX
          have c0 : wa.cell? ⟨ma, 0, none⟩ = some (.string x.1) := b5.cell 0
          have c1 : wa.cell? ⟨ma, 1, none⟩ = some (.int .i64 x.2) := b5.cell 1
          have c3 : wa.cell? ⟨m + 1 + 4, 3, none⟩ = some (.pointer (some ⟨m + 1 + 3, 0, none⟩)) := bs.cell 3
          refine region_mxw [(true, 0), (true, 1), (true, 2), (true, 3), (true, 4), (true, 5), (true, 6), (true, 7), (true, 8), (true, 9), (true, 10), (true, 11), (false, 12), (true, 13), (true, 14)] (fun w' => w'.cell? ⟨ma, 0, none⟩ = some (.string x.1) ∧ w'.cell? ⟨ma, 1, none⟩ = some (.int .i64 x.2) ∧ w'.cell? ⟨m + 1 + 4, 3, none⟩ = some (.pointer (some ⟨m + 1 + 3, 0, none⟩))) (by kernel_rfl) (by kernel_rfl) ?_
          rintro w3 hw3
          have hm3 : Mod None_ wa w3 := by rw [hw3]; exact (Mod.refl _ wa).drew
          replace b1 := b1.mod hm3 (by first | exact id | omega | (unfold Ix; omega) | (unfold LateS Ix; omega))
          replace bs := bs.mod hm3 (by first | exact id | omega | (unfold Ix; omega) | (unfold LateS Ix; omega))
          replace b5 := b5.mod hm3 (by first | exact id | omega | (unfold Ix; omega) | (unfold LateS Ix; omega))
          replace hM := hM.trans hm3
          replace hI := hI.kept hm3
          clear hw3 hm3 c0 c1 c3
          have HP := hide (put_any w3 (m + 1) rows 1 x.1 x.2 (by omega) hI)
          refine ⟨⟨b5.cell 0, b5.cell 1, bs.cell 3⟩, ?_⟩
          iterate 12 (refine mxw_quiet rfl (fun w' i1 K hK => by obtain ⟨i1, i2, i3⟩ := i1; go_simp; exact hK) ?_; go_frame)
          refine mxw_loud rfl (fun K hK => ?_)
          go_simp
          refine Calls.mono HP.out ?_
          rintro e w4 ⟨rfl, hm4, hI4⟩
          replace b1 := b1.mod hm4 (by first | exact id | omega | (unfold Ix; omega) | (unfold LateS Ix; omega))
          replace bs := bs.mod hm4 (by first | exact id | omega | (unfold Ix; omega) | (unfold LateS Ix; omega))
          replace b5 := b5.mod hm4 (by first | exact id | omega | (unfold Ix; omega) | (unfold LateS Ix; omega))
          replace hM := hM.trans' hm4 (fun k hk e => by first | exact e.elim | (unfold Ix at e; omega) | omega)
          clear hI HP
          refine ⟨_, rfl, ⟨b5.cell 0, b5.cell 1, bs.cell 3⟩, hK _ _ ?_⟩
          clear hK K hm4
          try go_frame
          by_cases hz : putErr rows 1 x.1 x.2 = 0
          · have d6 : (putErr rows 1 x.1 x.2 != 0) = false := by simp [hz]
            have hI5 : IndexAt w4 (m + 1) (⟨1, x.1, x.2⟩ :: rows) := by unfold putRows at hI4; rw [if_pos hz] at hI4; exact hI4
            have HZ := hide hz
            clear hz hI4
            iterate 2 (refine mxw_quiet rfl (fun w' i1 K hK => by go_simp; exact hK) ?_; go_frame)
            refine mxw_nil ?_
            go_wp2_with fail
            go_roundw
            case rel => exact ⟨k + 1, _, by omega, by simp, HGD.out HX.out HZ.out, by simp [hrl], hM, b1, bs, hI5⟩
            case measure => simp [intOf]; omega
          · have d6 : (putErr rows 1 x.1 x.2 != 0) = true := by simp [hz]
            have HF := hide (dir_bad (dir_bad_rows (hbad (.inr hz))) hM)
            clear hz hI4
            iterate 2 (refine mxw_quiet rfl (fun w' i1 K hK => by go_simp; exact hK) ?_; go_frame)
            refine mxw_nil ?_
            go_wp2
            refine ⟨.pointer none, ?_, HF.out⟩
            simp [results, Try.results31, go_sem]
      obtain rfl : k = n.names.length := by omega
      have hkn : ¬ (n.names.length : Int) < n.names.length := by omega
      rw [List.take_length] at hrw
      have HRW := hide hrw
      clear hrw hlt
      go_wp2_with fail
      have c3 : wr.cell? ⟨m + 1 + 4, 3, none⟩ = some (.pointer (some ⟨m + 1 + 3, 0, none⟩)) := bs.cell 3
      have c5 : wr.cell? ⟨m, 5, none⟩ = some (.slice An n.names.length cn) := b1.cell 5
      refine region_mxw [(true, 0), (true, 1), (true, 2), (true, 3), (true, 5), (true, 6), (false, 4), (false, 7), (true, 8)] (fun w' => w'.cell? ⟨m, 5, none⟩ = some (.slice An n.names.length cn) ∧ w'.cell? ⟨m + 1 + 4, 3, none⟩ = some (.pointer (some ⟨m + 1 + 3, 0, none⟩))) (by kernel_rfl) (by kernel_rfl) ?_
      rintro w3 hw3
      have hm3 : Mod None_ wr w3 := by rw [hw3]; exact (Mod.refl _ wr).drew
      replace b1 := b1.mod hm3 (by first | exact id | omega | (unfold Ix; omega) | (unfold LateS Ix; omega))
      replace bs := bs.mod hm3 (by first | exact id | omega | (unfold Ix; omega) | (unfold LateS Ix; omega))
      replace hM := hM.trans hm3
      replace hI := hI.kept hm3
      clear hw3 hm3 c3 c5
      have HP := hide (list_any w3 (m + 1) rows 1 (by have := HN.out.nlen; omega) (by rfl) hI)
      refine ⟨⟨b1.cell 5, bs.cell 3⟩, ?_⟩
      iterate 6 (refine mxw_quiet rfl (fun w' i1 K hK => by obtain ⟨i1, i2⟩ := i1; go_simp; exact hK) ?_; go_frame)
      refine mxw_loud rfl (fun K hK => ?_)
      go_simp
      refine Calls.mono HP.out ?_
      rintro e w4 ⟨v4, rfl, ho4, hm4⟩
      replace b1 := b1.mod hm4 (by first | exact id | omega | (unfold Ix; omega) | (unfold LateS Ix; omega))
      replace bs := bs.mod hm4 (by first | exact id | omega | (unfold Ix; omega) | (unfold LateS Ix; omega))
      replace hM := hM.trans hm4
      replace hI := hI.kept hm4
      have HE := hide (slicesEqDent w4 _ _ _ _ (list_of_ownDents ho4) (HN.out.kept hM).names)
      clear hm4 ho4 HP
      refine ⟨_, rfl, ⟨b1.cell 5, bs.cell 3⟩, hK _ _ ?_⟩
      clear hK K
      try go_frame
      refine mxw_loud rfl (fun K hK => ?_)
      go_simp
      refine Calls.mono HE.out ?_
      rintro e w5 ⟨rfl, hm5⟩
      replace b1 := b1.mod hm5 (by first | exact id | omega | (unfold Ix; omega) | (unfold LateS Ix; omega))
      replace bs := bs.mod hm5 (by first | exact id | omega | (unfold Ix; omega) | (unfold LateS Ix; omega))
      replace hM := hM.trans hm5
      replace hI := hI.kept hm5
      clear hm5 HE
      refine ⟨_, rfl, ⟨b1.cell 5, bs.cell 3⟩, hK _ _ ?_⟩
      clear hK K
      try go_frame
      have hnm : pairsOf (findIno rows 1) (listNames rows 1) = namesOf rows := rfl
      rw [hnm]
      clear hnm
      by_cases hq : namesOf rows = n.names
      · rw [decide_eq_true hq]
        have hok := dir_ok HSZ.out HMP.out HRW.out hq
        have hpost : DirPost w n (.returned (.pointer (some ⟨m + 1 + 4, 0, none⟩))) w5 := by
          unfold DirPost
          rw [if_pos hok]
          exact ⟨_, _, rows, rfl, bs, hI, HRW.out, by omega, by omega, hM⟩
        have HF := hide hpost
        clear hq hok hpost
        iterate 1 (refine mxw_quiet rfl (fun w' i1 K hK => by go_simp; exact hK) ?_; go_frame)
        refine mxw_nil ?_
        go_wp2
        refine ⟨.pointer (some ⟨m + 1 + 4, 0, none⟩), ?_, HF.out⟩
        simp [results, Try.results31, go_sem]
      · rw [decide_eq_false hq]
        have HF := hide (dir_bad (dir_bad_names HRW.out hq) hM)
        clear hq
        iterate 1 (refine mxw_quiet rfl (fun w' i1 K hK => by go_simp; exact hK) ?_; go_frame)
        refine mxw_nil ?_
        go_wp2
        refine ⟨.pointer none, ?_, HF.out⟩
        simp [results, Try.results31, go_sem]
    · have hM0 : Mod None_ w (w.alloc (.cells (nodeC n (.slice Am n.map.length cm) (.slice An n.names.length cn) vl) 26)) := (Mod.refl None_ w).alloc _
      have d1 : (n.size != 0) = false := by simp [hsz]
      have d3 : decide (0 < n.map.length) = true := decide_eq_true (by omega)
      have hb := dir_bad (dir_bad_map hmp) hM0
      unfold nodeC at hb
      have HB := hide hb
      clear hmp hM0 hb hsz
      go_wp2
      refine ⟨.pointer none, ?_, HB.out⟩
      simp [results, Try.results31, go_sem]
  · have hM0 : Mod None_ w (w.alloc (.cells (nodeC n (.slice Am n.map.length cm) (.slice An n.names.length cn) vl) 26)) := (Mod.refl None_ w).alloc _
    have d1 : (n.size != 0) = true := by simp [hsz]
    have hb := dir_bad (dir_bad_size hsz) hM0
    unfold nodeC at hb
    have HB := hide hb
    clear hsz hM0 hb
    go_wp2
    refine ⟨.pointer none, ?_, HB.out⟩
    simp [results, Try.results31, go_sem]
end Go.Proofs.Ytabebkffcmajkaa

