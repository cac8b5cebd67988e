import Derived.Test.YtmamdacmpikdbaaNK1
/-! The walk of NamesKept. Printed by gen_kept.py. -/
namespace Go.Proofs.Ytmamdacmpikdbaa
open Go.RowKit Go.Maps

set_option maxRecDepth 100000 in
set_option maxHeartbeats 4000000 in
theorem kept_ok (w : World) (v : Value) (ops : List OpD) (dir : Int) (s : ByteArray) (to : Int) (hO : OpsAt w v ops) (hdir : I64 dir) (hto : I64 to) (hg : goodName s = true) (hc : findIno (fillRows ops) (inoOf dir) s = 0) :
    Calls Try.prog 4 #[v, .int .i64 dir, .string s, .int .i64 to] w fun e w' => e = .returned (.bool true) ∧ Mod None_ w w' := by
  have hd := inoOf_bd dir
  have hn := inoOf_bd to
  have hwd : (Lit.int .i64 (inoOf dir)).wf = true := wf_i64 (by omega) (by omega)
  have hwn : (Lit.int .i64 (inoOf to)).wf = true := wf_i64 (by omega) (by omega)
  have hR := fillRows_length ops
  have hlen := hO.len
  have hRl : (fillRows ops).length ≤ 2600000000000 := by omega
  obtain ⟨R, hRe⟩ : ∃ R, R = fillRows ops := ⟨_, rfl⟩
  have HE := hide hRe
  rw [← hRe] at hRl hc
  clear hRe hR hlen
  obtain ⟨hdl, hdr⟩ := hdir
  obtain ⟨hnl, hnr⟩ := hto
  go_enter Try.func4, Try.ntmps4
  go_wp2_with fail
  refine (filled_any w v ops hO).mono ?_
  rintro e w1 ⟨rfl, hI1, hM1⟩
  rw [← HE.out] at hI1
  obtain ⟨b, hb⟩ : ∃ b, b = w.heap.size := ⟨_, rfl⟩
  have hge : w.heap.size ≤ b := by omega
  rw [← hb] at hI1 ⊢
  clear hb
  go_wp2_with fail
  refine (first_any w1).mono ?_
  rintro e w2 ⟨rfl, hm2⟩
  have hI2 := hI1.kept hm2
  have hM2 := hM1.trans hm2
  clear hI1 hM1 hm2
  go_wp2_with fail
  refine (ino_any dir w2 hdl hdr).mono ?_
  rintro e w3 ⟨rfl, rfl⟩
  go_wp2_with fail
  refine (ino_any to w2 hnl hnr).mono ?_
  rintro e w3 ⟨rfl, rfl⟩
  go_wp2_with fail
  refine (get_any w2 b R (inoOf dir) s hwd hI2).mono ?_
  rintro e w3 ⟨rfl, hm3⟩
  have hI3 := hI2.kept hm3
  have hM3 := hM2.trans hm3
  clear hI2 hM2 hm3
  go_wp2_with fail
  refine (list_dents w3 b R (inoOf dir) (by omega) hwd hI3).mono ?_
  rintro e w4 ⟨v4, rfl, hD4, hm4⟩
  have hI4 := hI3.kept hm4
  have hM4 := hM3.trans hm4
  clear hI3 hM3 hm4
  go_wp2_with fail
  have hlp : (listPairs R (inoOf dir)).length ≤ 5000000000000 := by
    rw [listPairs_length]
    have := cntDir_le R (inoOf dir)
    omega
  refine (copy_any w4 _ v4 _ hD4 hlp).mono ?_
  rintro e w5 ⟨v5, rfl, hD5, hm5⟩
  have hI5 := hI4.kept hm5
  have hM5 := hM4.trans hm5
  have hlo : b + 4 ≤ w4.heap.size := by have := hI4.lt; omega
  replace hD5 := hD5.lo hlo
  clear hI4 hM4 hm5 hD4 hlo
  go_wp2_with fail
  refine (len_any w5 b R (inoOf dir) hwd hI5).mono ?_
  rintro e w6 ⟨rfl, rfl⟩
  go_wp2_with fail
  refine (links_any w5 b R (inoOf to) hwn hI5).mono ?_
  rintro e w6 ⟨rfl, rfl⟩
  go_wp2_with fail
  refine (put_eq w5 b R (⟨inoOf dir, s, inoOf to⟩ :: R) (inoOf dir) s (inoOf to) 0 (by omega) hI5 (by unfold putErr; rw [if_neg (by simp [isInodeB, hd, hn]), if_neg (by simp [hg]), if_neg (by simp [hc])]) (by unfold putRows; rw [if_pos (by unfold putErr; rw [if_neg (by simp [isInodeB, hd, hn]), if_neg (by simp [hg]), if_neg (by simp [hc])])])).mono ?_
  rintro e w6 ⟨rfl, hm6, hI6⟩
  have hM6 := ix_new hM5 hm6 hge
  replace hD5 := hD5.mod hm6 (fun k h1 h2 => by unfold Ix at h2; omega)
  clear hI5 hM5 hm6
  have hno : R.find? (fun r => decide (r.dir = inoOf dir ∧ r.name = s)) = none := by
    refine findIno_zero ?_ hc
    exact fun r hr => hI6.ok r (List.mem_cons_of_mem _ hr)
  have HNo := hide hno
  clear hno hc
  have hIl := hI6.lt
  go_wp2_with fail
  have hgo := good_any s w6
  rw [hg] at hgo
  refine hgo.mono ?_
  rintro e w7 ⟨rfl, rfl⟩
  clear hgo
  go_wp2_with fail
  have hgt := get_any w6 b _ (inoOf dir) s hwd hI6
  rw [findIno_cons_same] at hgt
  refine hgt.mono ?_
  rintro e w7 ⟨rfl, hm7⟩
  have hI7 := hI6.kept hm7
  have hM7 := hM6.trans hm7
  replace hD5 := hD5.mod hm7 (fun _ _ f => f)
  clear hI6 hM6 hm7 hgt
  have hcd : cntDir R (inoOf dir) ≤ 2600000000000 := Nat.le_trans (cntDir_le R _) hRl
  have hci : cntIno R (inoOf to) ≤ 2600000000000 := Nat.le_trans (cntIno_le R _) hRl
  have hcd1 : cntDir (⟨inoOf dir, s, inoOf to⟩ :: R) (inoOf dir) = cntDir R (inoOf dir) + 1 := by rw [cntDir_cons]; simp [upd]
  have hci1 : cntIno (⟨inoOf dir, s, inoOf to⟩ :: R) (inoOf to) = cntIno R (inoOf to) + 1 := by rw [cntIno_cons]; simp [upd]
  obtain ⟨x, hx⟩ : ∃ x, x = cntDir R (inoOf dir) := ⟨_, rfl⟩
  obtain ⟨y, hy⟩ : ∃ y, y = cntIno R (inoOf to) := ⟨_, rfl⟩
  rw [← hx] at hcd hcd1
  rw [← hy] at hci hci1
  rw [← hx, ← hy]
  have HX := hide hx
  have HY := hide hy
  have HCD := hide hcd1
  have HCI := hide hci1
  clear hx hy hcd1 hci1
  go_wp2_with fail
  have hgt := len_any w7 b _ (inoOf dir) hwd hI7
  rw [HCD.out, show ((x + 1 : Nat) : Int) = (x : Int) + 1 from by omega] at hgt
  refine hgt.mono ?_
  rintro e w8 ⟨rfl, rfl⟩
  clear hgt
  go_wp2_with fail
  have hgt := links_any w7 b _ (inoOf to) hwn hI7
  rw [HCI.out, show ((y + 1 : Nat) : Int) = (y : Int) + 1 from by omega] at hgt
  refine hgt.mono ?_
  rintro e w8 ⟨rfl, rfl⟩
  clear hgt
  go_wp2_with fail
  refine (list_dents w7 b _ (inoOf dir) (by simp only [List.length_cons]; omega) hwd hI7).mono ?_
  rintro e w8 ⟨v8, rfl, hD8, hm8⟩
  have hI8 := hI7.kept hm8
  have hM8 := hM7.trans hm8
  replace hD5 := hD5.mod hm8 (fun _ _ f => f)
  replace hD8 := hD8.lo (show b + 4 ≤ w7.heap.size by have := hI7.lt; omega)
  clear hI7 hM7 hm8
  obtain ⟨hne, j, hj, hlp2⟩ := listPairs_cons (n := inoOf to) HNo.out
  rw [hlp2] at hD8
  obtain ⟨P, hP⟩ : ∃ P, P = listPairs R (inoOf dir) := ⟨_, rfl⟩
  rw [← hP] at hD8 hD5 hne hj hlp
  have HP := hide hP
  have HNe := hide hne
  clear hlp2 hP hne
  obtain ⟨A5, c5, rfl, hc51, hc52, hA5⟩ := id hD5
  obtain ⟨A8, c8, rfl, hc81, hc82, hA8⟩ := id hD8
  have HA5 := hide hA5
  have HA8 := hide hA8
  have hL8 : (P.take j ++ (s, inoOf to) :: P.drop j).length = P.length + 1 := by simp; omega
  have HI8 := hide hI8
  have HM8 := hide hM8
  have HD5 := hide hD5
  clear hA5 hA8 hI8 hM8 hc51 hc81
  rw [hL8]
  unfold maxLen at hc52 hc82
  obtain ⟨m, hm⟩ : ∃ m, m = P.length := ⟨_, rfl⟩
  rw [← hm] at hj hlp hL8 ⊢
  have HMl := hide hm
  clear hm hL8 hD8 hD5
  go_wp2_with fail
  go_loopg [18, 19] (m + 1) (fun n k i wr => ∃ q : Nat, q + n = m + 1 ∧ i = .int .i64 q ∧ k = .int .i64 ((if q ≤ j then q else q - 1 : Nat) : Int) ∧ Mod None_ w8 wr)
  case atStart => exact ⟨0, by omega, rfl, by simp, Mod.refl _ _⟩
  case round =>
    obtain ⟨q, hq, rfl, rfl, hmr⟩ := hrel
    by_cases hqm : q < m + 1
    · obtain ⟨g8, rfl, _, hg8, hcc8⟩ := HA8.out (by simp; omega)
      have hlen8 : q < (P.take j ++ (s, inoOf to) :: P.drop j).length := by have := HMl.out; simp; omega
      have y0 : wr.cell? ⟨g8, q * 2, none⟩ = some (.string (P.take j ++ (s, inoOf to) :: P.drop j)[q].1) := (World.cell?_of_block (hmr.block g8 hg8 id)).trans (hcc8 _ _ (pairCells_fst _ q hlen8))
      have y1 : wr.cell? ⟨g8, q * 2 + 1, none⟩ = some (.int .i64 (P.take j ++ (s, inoOf to) :: P.drop j)[q].2) := (World.cell?_of_block (hmr.block g8 hg8 id)).trans (hcc8 _ _ (pairCells_snd _ q hlen8))
      have hqi : (q : Int) < (m : Int) + 1 := by omega
      by_cases hqj : q = j
      · have hLq : (P.take j ++ (s, inoOf to) :: P.drop j)[q] = (s, inoOf to) := by
          have hjl : (P.take j).length = j := by rw [List.length_take]; have := HMl.out; omega
          rw [List.getElem_append_right (by rw [hjl]; omega)]
          simp [hjl, hqj]
        rw [hLq] at y0 y1
        have ht : (s.toList == s.toList) = true := by simp
        have HQ := hide hqj
        clear hLq hqj hcc8 hlen8
        rw [show (if q ≤ j then q else q - 1) = q from if_pos (by have := HQ.out; omega)]
        go_wp2
        go_roundg (gk - 1)
        case measure => omega
        case rel =>
          refine ⟨q + 1, by omega, by go_num, ?_, hmr⟩
          rw [if_neg (by have := HQ.out; omega)]
          go_num
      · obtain ⟨kq, hkq⟩ : ∃ kq, kq = if q ≤ j then q else q - 1 := ⟨_, rfl⟩
        have hkm : kq < m := by rw [hkq]; split <;> omega
        have hLq : (P.take j ++ (s, inoOf to) :: P.drop j)[q] = P[kq]'(by have := HMl.out; omega) := by
          have hjl : (P.take j).length = j := by rw [List.length_take]; have := HMl.out; omega
          by_cases hlt : q < j
          · rw [List.getElem_append_left (by rw [hjl]; exact hlt), List.getElem_take]
            congr 1
            rw [hkq, if_pos (by omega)]
          · have hq1 : q = (q - j - 1) + 1 + j := by omega
            rw [List.getElem_append_right (by rw [hjl]; omega)]
            have : q - (P.take j).length = (q - j - 1) + 1 := by rw [hjl]; omega
            simp only [this, List.getElem_cons_succ, List.getElem_drop]
            congr 1
            rw [hkq, if_neg (by omega)]
            omega
        rw [hLq] at y0 y1
        obtain ⟨g5, rfl, _, hg5, hcc5⟩ := HA5.out (by have := HMl.out; omega)
        have hkP : kq < P.length := by have := HMl.out; omega
        have hnes : P[kq].1 ≠ s := HNe.out _ (List.getElem_mem hkP)
        have ht : (P[kq].1.toList == s.toList) = false := by
          rw [beq_eq_false_iff_ne]
          intro e
          rw [Go.Lib.toList_data, Go.Lib.toList_data] at e
          exact hnes (Go.WideShapes.bytes_inj e)
        have hm8r : Mod None_ w8 wr.drew := hmr.drew
        have y0' : wr.drew.cell? ⟨g8, q * 2, none⟩ = some (.string P[kq].1) := y0
        have y1' : wr.drew.cell? ⟨g8, q * 2 + 1, none⟩ = some (.int .i64 P[kq].2) := y1
        have x0 : wr.drew.cell? ⟨g5, kq * 2, none⟩ = some (.string P[kq].1) := (World.cell?_of_block (hm8r.block g5 hg5 id)).trans (hcc5 _ _ (pairCells_fst _ kq hkP))
        have x1 : wr.drew.cell? ⟨g5, kq * 2 + 1, none⟩ = some (.int .i64 P[kq].2) := (World.cell?_of_block (hm8r.block g5 hg5 id)).trans (hcc5 _ _ (pairCells_snd _ kq hkP))
        obtain ⟨p, hp⟩ : ∃ p, p = P[kq] := ⟨_, rfl⟩
        rw [← hp] at y0 y1 y0' y1' x0 x1 ht
        rw [← hkq]
        have ht2 : (p.1.toList == p.1.toList) = true := by simp
        have hkmi : (kq : Int) < m := by omega
        have HK := hide hkq
        have HQ := hide hqj
        clear hkq hp hLq hnes hkP hcc5 hcc8 hlen8 hqj
        go_wp2
        refine region_still (by kernel_rfl) (by kernel_rfl) ?_
        rintro w9 hw9
        rw [← hw9] at hm8r y0' y1' x0 x1
        clear hw9 y0 y1
        repeat still_step
        refine wpStill_nil ?_
        go_wp2
        go_roundg (gk - 1)
        case measure => omega
        case rel =>
          refine ⟨q + 1, by omega, by go_num, ?_, hm8r⟩
          have : (if q + 1 ≤ j then q + 1 else q + 1 - 1) = kq + 1 := by
            rw [HK.out]
            have := HQ.out
            split <;> split <;> omega
          rw [this]
          go_num
    · have hqe : q = m + 1 := by omega
      have hke : (if q ≤ j then q else q - 1) = m := by rw [if_neg (by omega)]; omega
      rw [hke, hqe]
      have hI9 := HI8.out.kept hmr
      have hM9 := HM8.out.trans hmr
      have hD9 := HD5.out.mod hmr (fun _ _ f => f)
      clear hke hqe hmr hq hqm
      have hmi : (m : Int) ≤ 5000000000000 := by omega
      have hfd : findIno (⟨inoOf dir, s, inoOf to⟩ :: R) (inoOf dir) s = inoOf to := findIno_cons_same _ _ _ _
      have hde : dropErr (⟨inoOf dir, s, inoOf to⟩ :: R) (inoOf dir) s = 0 := by
        unfold dropErr
        rw [hfd, if_neg (by omega)]
      have hz : findIno R (inoOf dir) s = 0 := by unfold findIno; rw [HNo.out]; rfl
      have HFd := hide hfd
      have HDe := hide hde
      have HZ := hide hz
      clear hfd hde hz
      go_wp2_with fail
      refine (drop_any wr b _ (inoOf dir) s (by simp only [List.length_cons]; omega) hwd hI9).mono ?_
      rintro e w10 ⟨rfl, hm10, hI10⟩
      rw [dropRows_cons HNo.out] at hI10
      rw [HFd.out, HDe.out]
      have hM10 := ix_new hM9 hm10 hge
      have hD10 := hD9.mod hm10 (fun k h1 h2 => by unfold Ix at h2; omega)
      clear hI9 hM9 hm10 hD9
      go_wp2_with fail
      refine (drop_any w10 b R (inoOf dir) s (by omega) hwd hI10).mono ?_
      rintro e w11 ⟨rfl, hm11, hI11⟩
      rw [dropRows_none HNo.out] at hI11
      have hde2 : dropErr R (inoOf dir) s = 82 := by unfold dropErr; rw [if_pos HZ.out]
      rw [HZ.out, hde2]
      have hM11 := ix_new hM10 hm11 hge
      have hD11 := hD10.mod hm11 (fun k h1 h2 => by unfold Ix at h2; omega)
      clear hI10 hM10 hm11 hD10 hde2
      go_wp2_with fail
      have hgt := get_any w11 b R (inoOf dir) s hwd hI11
      rw [HZ.out] at hgt
      refine hgt.mono ?_
      rintro e w12 ⟨rfl, hm12⟩
      have hI12 := hI11.kept hm12
      have hM12 := hM11.trans hm12
      have hD12 := hD11.mod hm12 (fun _ _ f => f)
      clear hI11 hM11 hm12 hD11 hgt
      go_wp2_with fail
      have hgt := links_any w12 b R (inoOf to) hwn hI12
      rw [← HY.out] at hgt
      refine hgt.mono ?_
      rintro e w13 ⟨rfl, rfl⟩
      clear hgt
      go_wp2_with fail
      refine (list_dents w12 b R (inoOf dir) (by omega) hwd hI12).mono ?_
      rintro e w13 ⟨v13, rfl, hD13, hm13⟩
      have hM13 := hM12.trans hm13
      have hD14 := hD12.mod hm13 (fun _ _ f => f)
      rw [← HP.out] at hD13
      clear hI12 hM12 hm13 hD12
      obtain ⟨v5, hv5⟩ : ∃ v5, v5 = Value.slice A5 P.length c5 := ⟨_, rfl⟩
      rw [HMl.out]
      rw [← hv5] at hD14 ⊢
      clear hv5
      go_wp2_with fail
      have hsm := same_any w13 _ _ v13 v5 _ _ hD13 hD14
      rw [decide_eq_true rfl] at hsm
      refine hsm.mono ?_
      rintro e w14 ⟨rfl, hm14⟩
      have hM14 := hM13.trans hm14
      clear hsm hD13 hD14 hM13 hm14
      go_wp2
      go_ret
      exact ⟨rfl, hM14⟩

theorem kept_any (w : World) (v : Value) (ops : List OpD) (dir : Int) (s : ByteArray) (to : Int) (hO : OpsAt w v ops) (hdir : I64 dir) (hto : I64 to) :
    Calls Try.prog 4 #[v, .int .i64 dir, .string s, .int .i64 to] w fun e w' => e = .returned (.bool true) ∧ Mod None_ w w' := by
  by_cases hc : findIno (fillRows ops) (inoOf dir) s = 0
  · cases hg : goodName s with
    | true => exact kept_ok w v ops dir s to hO hdir hto hg hc
    | false => exact kept_bad w v ops dir s to hO hdir hto hg hc
  · refine kept_have w v ops dir s to hO hdir hto hc ?_
    cases hg : goodName s with
    | true => rfl
    | false => exact absurd (findIno_bad (fillRows_ok ops) hg) hc
end Go.Proofs.Ytmamdacmpikdbaa
