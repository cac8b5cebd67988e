import Derived.Test.YtmamdacmpikdbaaP2
import Derived.Test.YtmamdacmpikdbaaNK1
import Derived.Test.YtmamdacmpikdbaaSt
/-! The walk of NamesRise. -/
namespace Go.Proofs.Ytmamdacmpikdbaa
open Go.RowKit Go.Maps
attribute [local go_sem] quietV loudUpon

set_option maxRecDepth 100000 in
set_option maxHeartbeats 20000000 in
theorem rise_any (w : World) (v : Value) (ops : List OpD) (hO : OpsAt w v ops) :
    Calls Try.prog 5 #[v] w fun e w' => e = .returned (.bool true) ∧ Mod None_ w w' := by
  have hR := fillRows_length ops
  have hlen := hO.len
  have hRl : (fillRows ops).length ≤ 2513169434843 := by omega
  obtain ⟨R, hRe⟩ : ∃ R, R = fillRows ops := ⟨_, rfl⟩
  have HE := hide hRe
  rw [← hRe] at hRl
  clear hRe hR hlen
  go_enter Try.func5, Try.ntmps5
  go_wp2_with fail
  refine (filled_any w v ops hO).mono ?_
  rintro e w1 ⟨rfl, hI1, hM1⟩
  rw [← HE.out] at hI1
  obtain ⟨b, hb⟩ : ∃ b, b = w.heap.size := ⟨_, rfl⟩
  have hge : w.heap.size ≤ b := by omega
  rw [← hb] at hI1 ⊢
  clear hb
  go_wp2_with fail
  refine (first_any w1).mono ?_
  rintro e w2 ⟨rfl, hm2⟩
  have hI2 := hI1.kept hm2
  have hM2 := hM1.trans hm2
  clear hI1 hM1 hm2
  have hs1 : sumN (cntDir R) 256 = R.length := sumN_dir hI2.ok
  have hs2 : sumN (cntIno R) 256 = R.length := sumN_ino hI2.ok
  have HS1 := hide hs1
  have HS2 := hide hs2
  clear hs1 hs2
  go_wp2_with fail
  go_loopg [4, 5, 6, 7, 8] 256 (fun n s k d l i wr => ∃ q : Nat, q + n = 256 ∧ s = .int .i64 (sumN (cntDir R) q : Nat) ∧ k = .int .i64 (sumN (cntIno R) q : Nat) ∧ d = .int .i64 ((q : Int) + 1) ∧ IndexAt wr b R ∧ Mod None_ w wr)
  case atStart => exact ⟨0, by omega, rfl, rfl, by go_num, hI2, hM2⟩
  case round =>
    obtain ⟨q, hq, rfl, rfl, rfl, hI, hM⟩ := hrel
    by_cases hqm : q < 256
    · have hqi : (q : Int) + 1 ≤ 256 := by omega
      have hwq : (Lit.int .i64 ((q : Int) + 1)).wf = true := wf_i64 (by omega) (by omega)
      go_wp2_with fail
      refine (list_dents wr b R ((q : Int) + 1) (by omega) hwq hI).mono ?_
      rintro e w4 ⟨v4, rfl, hD4, hm4⟩
      have hI4 := hI.kept hm4
      have hM4 := hM.trans hm4
      clear hI hM hm4
      obtain ⟨A, c, rfl, hc1, hc2, hA⟩ := hD4
      have HA := hide hA
      clear hA
      rw [listPairs_length] at hc1 ⊢
      obtain ⟨m, hm⟩ : ∃ m, m = cntDir R ((q : Int) + 1) := ⟨_, rfl⟩
      rw [← hm] at hc1 ⊢
      have hmR : m ≤ 2513169434843 := by rw [hm]; exact Nat.le_trans (cntDir_le _ _) hRl
      have HM := hide hm
      clear hm
      go_wp2_with fail
      have hln := len_any w4 b R ((q : Int) + 1) hwq hI4
      rw [← HM.out] at hln
      refine hln.mono ?_
      rintro e w5 ⟨rfl, rfl⟩
      clear hln
      have hbb : ((m : Int) != m) = false := by simp
      go_wp2_with fail
      obtain ⟨P, hP⟩ : ∃ P, P = listPairs R ((q : Int) + 1) := ⟨_, rfl⟩
      have hF : ∀ i (h : i < P.length), findIno R ((q : Int) + 1) P[i].1 = P[i].2 ∧ 1 ≤ P[i].2 ∧ P[i].2 ≤ 256 ∧ (∀ h' : i + 1 < P.length, strLt P[i].1 P[i + 1].1 = true) := by
        subst hP
        exact fun i h => ⟨listPairs_find _ i h, (listPairs_bd hI4.ok hI4.nodup _ i h).1, (listPairs_bd hI4.ok hI4.nodup _ i h).2, fun h' => listPairs_rise hI4.nodup _ i h'⟩
      have hPl : P.length = m := by rw [hP, listPairs_length, HM.out]
      rw [← hP] at HA
      have HF := hide hF
      have HPL := hide hPl
      clear hF hPl hP
      go_loopg [8] m (fun n i wr => ∃ t : Nat, t + n = m ∧ i = .int .i64 t ∧ IndexAt wr b R ∧ Mod None_ w4 wr)
      case atStart => exact ⟨0, by omega, rfl, hI4, Mod.refl _ _⟩
      case round =>
        clear hI4
        obtain ⟨t, ht, rfl, hI, hm⟩ := hrel
        by_cases htm : t < m
        · have hti : (t : Int) < m := by omega
          have HT := hide ht
          have hL : t < P.length := by rw [HPL.out]; exact htm
          obtain ⟨g, rfl, _, hg, hcc⟩ := HA.out (by rw [HPL.out]; omega)
          have hm3 : Mod None_ w4 wr.drew := hm.drew
          have hI3 := hI.drew
          have x0 : wr.drew.cell? ⟨g, t * 2, none⟩ = some (.string P[t].1) := (World.cell?_of_block (hm3.block g hg id)).trans (hcc _ _ (pairCells_fst _ t hL))
          have x1 : wr.drew.cell? ⟨g, t * 2 + 1, none⟩ = some (.int .i64 P[t].2) := (World.cell?_of_block (hm3.block g hg id)).trans (hcc _ _ (pairCells_snd _ t hL))
          obtain ⟨f1, f2, f3⟩ : findIno R ((q : Int) + 1) P[t].1 = P[t].2 ∧ 1 ≤ P[t].2 ∧ P[t].2 ≤ 256 := ⟨(HF.out t hL).1, (HF.out t hL).2.1, (HF.out t hL).2.2.1⟩
          obtain ⟨p, hp⟩ : ∃ p, p = P[t] := ⟨_, rfl⟩
          by_cases h0 : t = 0
          · have hd0 : decide (0 < t) = false := decide_eq_false (by omega)
            have HD := hide hd0
            have HTI := hide hti
            clear hd0
            rw [← hp] at x0 x1 f1 f2 f3
            have HF1 := hide f1
            clear hcc hp hL f1 hI hm ht htm h0
            go_wp2_with fail
            refine region_stw (by kernel_rfl) (by kernel_rfl) ?_
            rintro w5 hw5
            rw [← hw5] at hm3 hI3 x0 x1
            clear hw5 hti
            repeat (refine stw_step (fun K hK => ?_); go_simp; (try rw [HD.out]); refine hK _ ?_; clear hK K)
            refine stw_nil ?_
            have hti := HTI.out
            go_wp2_with fail
            refine region_mxw [(true, 0), (true, 1), (true, 2), (true, 3), (true, 4), (true, 5), (true, 6), (true, 8), (true, 9), (true, 10), (true, 11), (true, 12), (false, 7), (true, 13), (true, 14), (true, 15), (true, 16), (true, 17), (true, 18), (true, 19), (true, 20), (true, 21), (true, 22), (true, 23), (true, 24), (true, 25), (true, 26), (true, 27), (true, 28), (true, 29)]
              (fun w' => w'.cell? ⟨g, t * 2, none⟩ = some (.string p.1) ∧ w'.cell? ⟨g, t * 2 + 1, none⟩ = some (.int .i64 p.2) ∧ IndexAt w' b R ∧ Mod None_ w4 w') (by kernel_rfl) (by kernel_rfl) ?_
            rintro w6 hw6
            replace hm3 : Mod None_ w4 w6 := by rw [hw6]; exact hm3.drew
            replace hI3 : IndexAt w6 b R := by rw [hw6]; exact hI3.drew
            replace x0 : w6.cell? ⟨g, t * 2, none⟩ = some (.string p.1) := by rw [hw6]; exact x0
            replace x1 : w6.cell? ⟨g, t * 2 + 1, none⟩ = some (.int .i64 p.2) := by rw [hw6]; exact x1
            clear hw6
            refine ⟨⟨x0, x1, hI3, hm3⟩, ?_⟩
            iterate 12 (refine mxw_quiet rfl (fun w' ⟨i1, i2, _, _⟩ K hK => by go_simp; exact hK) ?_; go_frame)
            refine mxw_loud rfl (fun K hK => ?_)
            go_simp
            have hgt := get_any w6 b R ((q : Int) + 1) p.1 hwq hI3
            rw [HF1.out] at hgt
            refine hgt.mono ?_
            rintro e w7 ⟨rfl, hm7⟩
            have hg7 : g < w6.heap.size := Nat.lt_of_lt_of_le hg hm3.size
            have hb7 := hm7.block g hg7 id
            replace x0 : w7.cell? ⟨g, t * 2, none⟩ = some (.string p.1) := (World.cell?_of_block hb7).trans x0
            replace x1 : w7.cell? ⟨g, t * 2 + 1, none⟩ = some (.int .i64 p.2) := (World.cell?_of_block hb7).trans x1
            replace hI3 := hI3.kept hm7
            replace hm3 := hm3.trans hm7
            refine ⟨_, rfl, ⟨x0, x1, hI3, hm3⟩, hK _ _ ?_⟩
            have g2 : decide (p.2 < 1) = false := decide_eq_false (by omega)
            have g3 : decide (256 < p.2) = false := decide_eq_false (by omega)
            clear hK K hgt hb7 hm7 hg7
            try go_frame
            repeat (refine mxw_quiet rfl (fun w' ⟨i1, i2, _, _⟩ K hK => by go_simp; exact hK) ?_; go_frame)
            refine mxw_nil ?_
            go_wp2_with fail
            go_roundg (gk - 1)
            case measure => have := HT.out; omega
            case rel => exact ⟨t + 1, by have := HT.out; omega, by go_num, hI3, hm3⟩
          · obtain ⟨s, hs⟩ : ∃ s, t = s + 1 := ⟨t - 1, by omega⟩
            have hL' : s < P.length := by omega
            have y0 : wr.drew.cell? ⟨g, s * 2, none⟩ = some (.string P[s].1) := (World.cell?_of_block (hm3.block g hg id)).trans (hcc _ _ (pairCells_fst _ s hL'))
            have hlt : strLt P[s].1 P[t].1 = true := by
              subst hs
              exact (HF.out s hL').2.2.2 hL
            obtain ⟨p', hp'⟩ : ∃ p', p' = P[s] := ⟨_, rfl⟩
            rw [← hp] at x0 x1 f1 f2 f3 hlt
            rw [← hp'] at y0 hlt
            unfold strLt at hlt
            have hs0 : 0 < t := by omega
            have hsm : (s : Int) < m := by omega
            have hwr : IntKind.i64.wrap ((t : Int) - 1) = (s : Int) := by rw [IntWalk.i64_in _ (by omega)]; omega
            have HF1 := hide f1
            have HTI := hide hti
            clear hcc hp hp' hL hL' f1 hI hm ht htm h0 hs
            go_wp2_with fail
            refine region_stw (by kernel_rfl) (by kernel_rfl) ?_
            rintro w5 hw5
            rw [← hw5] at hm3 hI3 x0 x1 y0
            clear hw5
            repeat (refine stw_step (fun K hK => ?_); go_simp; refine hK _ ?_; clear hK K)
            clear hs0 hsm hwr hlt y0
            refine stw_nil ?_
            have hti := HTI.out
            go_wp2_with fail
            refine region_mxw [(true, 0), (true, 1), (true, 2), (true, 3), (true, 4), (true, 5), (true, 6), (true, 8), (true, 9), (true, 10), (true, 11), (true, 12), (false, 7), (true, 13), (true, 14), (true, 15), (true, 16), (true, 17), (true, 18), (true, 19), (true, 20), (true, 21), (true, 22), (true, 23), (true, 24), (true, 25), (true, 26), (true, 27), (true, 28), (true, 29)]
              (fun w' => w'.cell? ⟨g, t * 2, none⟩ = some (.string p.1) ∧ w'.cell? ⟨g, t * 2 + 1, none⟩ = some (.int .i64 p.2) ∧ IndexAt w' b R ∧ Mod None_ w4 w') (by kernel_rfl) (by kernel_rfl) ?_
            rintro w6 hw6
            replace hm3 : Mod None_ w4 w6 := by rw [hw6]; exact hm3.drew
            replace hI3 : IndexAt w6 b R := by rw [hw6]; exact hI3.drew
            replace x0 : w6.cell? ⟨g, t * 2, none⟩ = some (.string p.1) := by rw [hw6]; exact x0
            replace x1 : w6.cell? ⟨g, t * 2 + 1, none⟩ = some (.int .i64 p.2) := by rw [hw6]; exact x1
            clear hw6
            refine ⟨⟨x0, x1, hI3, hm3⟩, ?_⟩
            iterate 12 (refine mxw_quiet rfl (fun w' ⟨i1, i2, _, _⟩ K hK => by go_simp; exact hK) ?_; go_frame)
            refine mxw_loud rfl (fun K hK => ?_)
            go_simp
            have hgt := get_any w6 b R ((q : Int) + 1) p.1 hwq hI3
            rw [HF1.out] at hgt
            refine hgt.mono ?_
            rintro e w7 ⟨rfl, hm7⟩
            have hg7 : g < w6.heap.size := Nat.lt_of_lt_of_le hg hm3.size
            have hb7 := hm7.block g hg7 id
            replace x0 : w7.cell? ⟨g, t * 2, none⟩ = some (.string p.1) := (World.cell?_of_block hb7).trans x0
            replace x1 : w7.cell? ⟨g, t * 2 + 1, none⟩ = some (.int .i64 p.2) := (World.cell?_of_block hb7).trans x1
            replace hI3 := hI3.kept hm7
            replace hm3 := hm3.trans hm7
            refine ⟨_, rfl, ⟨x0, x1, hI3, hm3⟩, hK _ _ ?_⟩
            have g2 : decide (p.2 < 1) = false := decide_eq_false (by omega)
            have g3 : decide (256 < p.2) = false := decide_eq_false (by omega)
            clear hK K hgt hb7 hm7 hg7
            try go_frame
            repeat (refine mxw_quiet rfl (fun w' ⟨i1, i2, _, _⟩ K hK => by go_simp; exact hK) ?_; go_frame)
            refine mxw_nil ?_
            go_wp2_with fail
            go_roundg (gk - 1)
            case measure => have := HT.out; omega
            case rel => exact ⟨t + 1, by have := HT.out; omega, by go_num, hI3, hm3⟩
        · have htm' : t = m := by omega
          have hti : ¬ (t : Int) < m := by omega
          have hM5 := hM4.trans hm
          have hsum : sumN (cntDir R) (q + 1) = sumN (cntDir R) q + m := by
            have e : ((q + 1 : Nat) : Int) = (q : Int) + 1 := by omega
            show sumN (cntDir R) q + cntDir R ((q + 1 : Nat) : Int) = _
            rw [e, HM.out]
          have hsum2 : sumN (cntIno R) (q + 1) = sumN (cntIno R) q + cntIno R ((q : Int) + 1) := by
            have e : ((q + 1 : Nat) : Int) = (q : Int) + 1 := by omega
            show sumN (cntIno R) q + cntIno R ((q + 1 : Nat) : Int) = _
            rw [e]
          have hle1 : sumN (cntDir R) (q + 1) ≤ 2513169434843 := Nat.le_trans (sumN_le (cntDir R) (show q + 1 ≤ 256 by omega)) (by rw [HS1.out]; exact hRl)
          have hle2 : sumN (cntIno R) (q + 1) ≤ 2513169434843 := Nat.le_trans (sumN_le (cntIno R) (show q + 1 ≤ 256 by omega)) (by rw [HS2.out]; exact hRl)
          rw [hsum] at hle1
          rw [hsum2] at hle2
          have HSU1 := hide hsum
          have HSU2 := hide hsum2
          have HLK := hide (links_any wr b R ((q : Int) + 1) hwq hI)
          obtain ⟨z, hz⟩ : ∃ z, z = cntIno R ((q : Int) + 1) := ⟨_, rfl⟩
          rw [← hz] at hle2
          have HZ := hide hz
          obtain ⟨a1, ha1⟩ : ∃ a, a = sumN (cntDir R) q := ⟨_, rfl⟩
          obtain ⟨a2, ha2⟩ : ∃ a, a = sumN (cntIno R) q := ⟨_, rfl⟩
          rw [← ha1] at hle1 ⊢
          rw [← ha2] at hle2 ⊢
          have HA1 := hide ha1
          have HA2 := hide ha2
          have hb1 : (a1 : Int) + m ≤ 2513169434843 := by omega
          have hb2 : (a2 : Int) + z ≤ 2513169434843 := by omega
          clear hsum hsum2 hz ha1 ha2 hle1 hle2 ht htm htm' hm hM4
          go_wp2_with fail
          have hlk := HLK.out
          rw [← HZ.out] at hlk
          refine hlk.mono ?_
          rintro e w8 ⟨rfl, rfl⟩
          clear hlk
          go_wp2
          go_roundg (255 - q)
          case measure => omega
          case rel =>
            refine ⟨q + 1, by omega, ?_, ?_, by go_num, hI, hM5⟩
            · rw [HSU1.out, ← HA1.out]; go_num
            · rw [HSU2.out, ← HA2.out, ← HZ.out]; go_num
    · obtain rfl : q = 256 := by omega
      have hqi : ¬ ((256 : Nat) : Int) + 1 ≤ 256 := by omega
      rw [HS1.out, HS2.out]
      have hbb : ((R.length : Int) != R.length) = false := by simp
      have HQ := hide hqi
      clear hq hqi
      go_wp2_with fail
      clear hM2 hI2
      obtain ⟨A, c, rfl, hol, hok, hoc⟩ := hO
      have HOK := hide hok
      have HOC := hide hoc
      clear hok hoc HQ hbb
      go_loopg [9, 10, 11, 12] ops.length (fun n many i again kk wr => ∃ k : Nat, k + n = ops.length ∧ many = .int .i64 ((fillRows (ops.take k)).length : Nat) ∧ i = .int .i64 k ∧ IndexAt wr b R ∧ Mod None_ w wr)
      case atStart => exact ⟨0, by omega, rfl, rfl, hI, hM⟩
      case round =>
        clear hI hM
        obtain ⟨k, hk, rfl, rfl, hI, hM⟩ := hrel
        by_cases hkl : k < ops.length
        · have hki : (k : Int) < ops.length := by omega
          obtain ⟨g, o, rfl, hg, hcc⟩ := HOC.out (by omega)
          obtain ⟨_, _, _, c3, c4, c5⟩ := hcc k hkl
          have hxo := HOK.out ops[k] (List.getElem_mem hkl)
          have htk : ops.take (k + 1) = ops.take k ++ [ops[k]] := List.take_succ_eq_append_getElem hkl
          have hop : ops = ops.take k ++ ops[k] :: ops.drop (k + 1) := by
            rw [List.getElem_cons_drop, List.take_append_drop]
          have hmb : (fillRows (ops.take k)).length ≤ 2513169434843 := by
            have h1 := fillRows_length (ops.take k)
            rw [List.length_take] at h1
            omega
          obtain ⟨x, hx⟩ : ∃ x, x = ops[k] := ⟨_, rfl⟩
          rw [← hx] at c3 c4 c5 hxo htk hop
          have hfs := fill_step (ops.take k) x
          rw [← htk] at hfs
          have HOP := hide hop
          have HFS := hide hfs
          have HK := hide hk
          have HX := hide hx
          have HCC := hide hcc
          obtain ⟨_, _, _, hxd, hxi⟩ := hxo
          obtain ⟨mny, hmny⟩ : ∃ n, n = (fillRows (ops.take k)).length := ⟨_, rfl⟩
          rw [← hmny] at hmb ⊢
          have HMN := hide hmny
          have c4' := (World.cell?_of_block (hM.block g hg id)).trans c4
          clear hk hop hfs htk hx hcc hmny
          cases hgd : goodName x.name with
          | false =>
            have hsame : fillRows (ops.take (k + 1)) = fillRows (ops.take k) := by rw [HFS.out, if_neg (by simp [hgd])]
            have HSM := hide hsame
            clear hsame
            go_wp2_with fail
            have hgo := good_any x.name wr
            rw [hgd] at hgo
            refine hgo.mono ?_
            rintro e w8 ⟨rfl, rfl⟩
            clear hgo
            go_wp2_with fail
            go_roundg (gk - 1)
            case measure => have := HK.out; omega
            case rel => exact ⟨k + 1, by have := HK.out; omega, by rw [HSM.out, ← HMN.out], by go_num, hI, hM⟩
          | true =>
            go_wp2_with fail
            have hgo := good_any x.name wr
            rw [hgd] at hgo
            refine hgo.mono ?_
            rintro e w8 ⟨rfl, rfl⟩
            clear hgo c4'
            go_wp2_with fail
            go_loopg [11, 12] k (fun n a jj wr' => ∃ j : Nat, j + n = k ∧ a = .bool (seenB (ops.take j) x) ∧ jj = .int .i64 j ∧ IndexAt wr' b R ∧ Mod None_ w wr')
            case atStart => exact ⟨0, by omega, rfl, rfl, hI, hM⟩
            case round =>
              clear hI hM
              obtain ⟨j, hj, rfl, rfl, hI, hM⟩ := hrel
              by_cases hjk : j < k
              · have hjl : j < ops.length := by have := HK.out; omega
                have hji : (j : Int) < k := by omega
                have hjo : (j : Int) < ops.length := by omega
                obtain ⟨_, _, _, d3, d4, _⟩ := HCC.out j hjl
                have hyo := HOK.out ops[j] (List.getElem_mem hjl)
                have htj : ops.take (j + 1) = ops.take j ++ [ops[j]] := List.take_succ_eq_append_getElem hjl
                obtain ⟨y, hy⟩ : ∃ y, y = ops[j] := ⟨_, rfl⟩
                rw [← hy] at d3 d4 hyo htj
                obtain ⟨_, _, _, hyd, _⟩ := hyo
                have hsb : seenB (ops.take (j + 1)) x = (seenB (ops.take j) x || decide (y.name = x.name ∧ inoOf y.dir = inoOf x.dir)) := by rw [htj, seenB_snoc]
                have HSB := hide hsb
                have HJ := hide hj
                have hM3 : Mod None_ w wr.drew := hM.drew
                have hI3 := hI.drew
                have e3 : wr.drew.cell? ⟨g, o + k * 6 + 3, none⟩ = some (.int .i64 x.dir) := (World.cell?_of_block (hM3.block g hg id)).trans c3
                have e4 : wr.drew.cell? ⟨g, o + k * 6 + 4, none⟩ = some (.string x.name) := (World.cell?_of_block (hM3.block g hg id)).trans c4
                replace d3 := (World.cell?_of_block (hM3.block g hg id)).trans d3
                replace d4 := (World.cell?_of_block (hM3.block g hg id)).trans d4
                obtain ⟨sb, hsbv⟩ : ∃ sb, sb = seenB (ops.take j) x := ⟨_, rfl⟩
                rw [← hsbv] at hsb ⊢
                have HSV := hide hsbv
                clear hy htj hsb hj hM hI hsbv c3 c4 c5
                cases sb with
                | true =>
                  go_wp2_with fail
                  refine region_stw (by kernel_rfl) (by kernel_rfl) ?_
                  rintro w5 hw5
                  rw [← hw5] at hM3 hI3
                  clear hw5 d3 d4 e3 e4
                  repeat (refine stw_step (fun K hK => ?_); go_simp; refine hK _ ?_; clear hK K)
                  refine stw_nil ?_
                  go_wp2_with fail
                  go_roundg (gk - 1)
                  case measure => have := HJ.out; omega
                  case rel => exact ⟨j + 1, by have := HJ.out; omega, by rw [HSB.out, ← HSV.out]; rfl, by go_num, hI3, hM3⟩
                | false =>
                  by_cases hnm : y.name = x.name
                  · have en : (y.name.toList == x.name.toList) = true := by rw [hnm]; simp
                    have HNM := hide hnm
                    clear hnm
                    by_cases hdr : inoOf y.dir = inoOf x.dir
                    · have ed : (inoOf y.dir == inoOf x.dir) = true := by rw [hdr]; simp
                      have HDR := hide hdr
                      clear hdr
                      go_wp2_with fail
                      refine region_stw (by kernel_rfl) (by kernel_rfl) ?_
                      rintro w5 hw5
                      rw [← hw5] at hM3 hI3 d3 d4 e3 e4
                      clear hw5
                      repeat (first | (refine stw_step (fun K hK => ?_); go_simp; refine hK _ ?_; clear hK K) | (refine stw_step (fun K hK => ?_); go_simp; refine ⟨_, ino_left _ _ (by assumption), hK _ ?_⟩; clear hK K))
                      refine stw_nil ?_
                      clear ed en
                      go_wp2_with fail
                      go_roundg (gk - 1)
                      case measure => have := HJ.out; omega
                      case rel => exact ⟨j + 1, by have := HJ.out; omega, by rw [HSB.out, ← HSV.out, decide_eq_true (⟨HNM.out, HDR.out⟩ : _ ∧ _)]; rfl, by go_num, hI3, hM3⟩
                    · have ed : (inoOf y.dir == inoOf x.dir) = false := by rw [beq_eq_false_iff_ne]; exact hdr
                      have HDR := hide hdr
                      clear hdr
                      go_wp2_with fail
                      refine region_stw (by kernel_rfl) (by kernel_rfl) ?_
                      rintro w5 hw5
                      rw [← hw5] at hM3 hI3 d3 d4 e3 e4
                      clear hw5
                      repeat (first | (refine stw_step (fun K hK => ?_); go_simp; refine hK _ ?_; clear hK K) | (refine stw_step (fun K hK => ?_); go_simp; refine ⟨_, ino_left _ _ (by assumption), hK _ ?_⟩; clear hK K))
                      refine stw_nil ?_
                      clear ed en
                      go_wp2_with fail
                      go_roundg (gk - 1)
                      case measure => have := HJ.out; omega
                      case rel => exact ⟨j + 1, by have := HJ.out; omega, by rw [HSB.out, ← HSV.out, decide_eq_false (fun e : _ ∧ _ => HDR.out e.2)]; rfl, by go_num, hI3, hM3⟩
                  · have en : (y.name.toList == x.name.toList) = false := by
                      rw [beq_eq_false_iff_ne]
                      intro e
                      rw [Go.Lib.toList_data, Go.Lib.toList_data] at e
                      exact hnm (Go.WideShapes.bytes_inj e)
                    have HNM := hide hnm
                    clear hnm
                    go_wp2_with fail
                    refine region_stw (by kernel_rfl) (by kernel_rfl) ?_
                    rintro w5 hw5
                    rw [← hw5] at hM3 hI3 d3 d4 e3 e4
                    clear hw5
                    repeat (refine stw_step (fun K hK => ?_); go_simp; refine hK _ ?_; clear hK K)
                    refine stw_nil ?_
                    clear en
                    go_wp2_with fail
                    go_roundg (gk - 1)
                    case measure => have := HJ.out; omega
                    case rel => exact ⟨j + 1, by have := HJ.out; omega, by rw [HSB.out, ← HSV.out, decide_eq_false (fun e : _ ∧ _ => HNM.out e.1)]; rfl, by go_num, hI3, hM3⟩
              · obtain rfl : j = k := by omega
                have hji : ¬ (j : Int) < j := by omega
                obtain ⟨sb, hsbv⟩ : ∃ sb, sb = seenB (ops.take j) x := ⟨_, rfl⟩
                rw [← hsbv]
                have HSV := hide hsbv
                clear hsbv hj
                cases sb with
                | true =>
                  have hsame : fillRows (ops.take (j + 1)) = fillRows (ops.take j) := by rw [HFS.out, if_neg (by rw [← HSV.out]; simp)]
                  have HSM := hide hsame
                  clear hsame
                  go_wp2_with fail
                  go_roundg (ops.length - j - 1)
                  case measure => have := HK.out; omega
                  case rel => exact ⟨j + 1, by have := HK.out; omega, by rw [HSM.out, ← HMN.out], by go_num, hI, hM⟩
                | false =>
                  have hmore : fillRows (ops.take (j + 1)) = ⟨inoOf x.dir, x.name, inoOf x.ino⟩ :: fillRows (ops.take j) := by rw [HFS.out, if_pos ⟨hgd, HSV.out.symm⟩]
                  have HMO := hide hmore
                  have hfind : findIno R (inoOf x.dir) x.name = inoOf x.ino := by
                    rw [HE.out]
                    rw [HOP.out]
                    exact fill_find _ _ x hgd HSV.out.symm
                  have HFI := hide hfind
                  have hmb' : (mny : Int) ≤ 2513169434843 := by omega
                  clear hmore hfind hmb
                  go_wp2_with fail
                  refine region_mxw [(true, 0), (true, 1), (true, 2), (true, 3), (true, 4), (true, 5), (true, 6), (true, 7), (true, 8), (true, 9), (true, 10), (true, 11), (true, 13), (true, 14), (true, 15), (true, 16), (true, 17), (false, 12), (true, 18), (true, 19)]
                    (fun w' => w'.cell? ⟨g, o + j * 6 + 3, none⟩ = some (.int .i64 x.dir) ∧ w'.cell? ⟨g, o + j * 6 + 4, none⟩ = some (.string x.name) ∧ w'.cell? ⟨g, o + j * 6 + 5, none⟩ = some (.int .i64 x.ino) ∧ IndexAt w' b R ∧ Mod None_ w w') (by kernel_rfl) (by kernel_rfl) ?_
                  rintro w6 hw6
                  replace hM : Mod None_ w w6 := by rw [hw6]; exact hM.drew
                  replace hI : IndexAt w6 b R := by rw [hw6]; exact hI.drew
                  have hb6 := hM.block g hg id
                  replace c3 : w6.cell? ⟨g, o + j * 6 + 3, none⟩ = some (.int .i64 x.dir) := (World.cell?_of_block hb6).trans c3
                  replace c4 : w6.cell? ⟨g, o + j * 6 + 4, none⟩ = some (.string x.name) := (World.cell?_of_block hb6).trans c4
                  replace c5 : w6.cell? ⟨g, o + j * 6 + 5, none⟩ = some (.int .i64 x.ino) := (World.cell?_of_block hb6).trans c5
                  clear hw6 hb6
                  refine ⟨⟨c3, c4, c5, hI, hM⟩, ?_⟩
                  have hwx : (Lit.int .i64 (inoOf x.dir)).wf = true := wf_i64 (by have := inoOf_bd x.dir; omega) (by have := inoOf_bd x.dir; omega)
                  iterate 17 (first
                    | (refine mxw_quiet rfl (fun w' ⟨i3, i4, i5, _, _⟩ K hK => by go_simp; exact hK) ?_; go_frame)
                    | (refine mxw_quiet rfl (fun w' ⟨i3, i4, i5, _, _⟩ K hK => by go_simp; exact ⟨_, ino_left _ _ hxd, hK⟩) ?_; go_frame)
                    | (refine mxw_quiet rfl (fun w' ⟨i3, i4, i5, _, _⟩ K hK => by go_simp; exact ⟨_, ino_left _ _ hxi, hK⟩) ?_; go_frame))
                  refine mxw_loud rfl (fun K hK => ?_)
                  go_simp
                  have hgt := get_any w6 b R (inoOf x.dir) x.name hwx hI
                  rw [HFI.out] at hgt
                  refine hgt.mono ?_
                  rintro e w7 ⟨rfl, hm7⟩
                  replace hM := hM.trans hm7
                  have hb7 := hm7.block g (block_lt_of_cell c3) id
                  replace c3 : w7.cell? ⟨g, o + j * 6 + 3, none⟩ = some (.int .i64 x.dir) := (World.cell?_of_block hb7).trans c3
                  replace c4 : w7.cell? ⟨g, o + j * 6 + 4, none⟩ = some (.string x.name) := (World.cell?_of_block hb7).trans c4
                  replace c5 : w7.cell? ⟨g, o + j * 6 + 5, none⟩ = some (.int .i64 x.ino) := (World.cell?_of_block hb7).trans c5
                  replace hI := hI.kept hm7
                  refine ⟨_, rfl, ⟨c3, c4, c5, hI, hM⟩, hK _ _ ?_⟩
                  clear hK K hgt hb7 hm7
                  try go_frame
                  iterate 2 (first
                    | (refine mxw_quiet rfl (fun w' ⟨i3, i4, i5, _, _⟩ K hK => by go_simp; exact hK) ?_; go_frame)
                    | (refine mxw_quiet rfl (fun w' ⟨i3, i4, i5, _, _⟩ K hK => by go_simp; exact ⟨_, ino_left _ _ hxi, hK⟩) ?_; go_frame))
                  refine mxw_nil ?_
                  go_wp2_with fail
                  go_roundg (ops.length - j - 1)
                  case measure => have := HK.out; omega
                  case rel => exact ⟨j + 1, by have := HK.out; omega, by rw [HMO.out, List.length_cons, ← HMN.out]; go_num, by go_num, hI, hM⟩
        · obtain rfl : k = ops.length := by omega
          have hki : ¬ (ops.length : Int) < ops.length := by omega
          have ht : ops.take ops.length = ops := List.take_of_length_le (Nat.le_refl _)
          rw [ht, ← HE.out]
          have z1 : cntDir R 0 = 0 := cntDir_out hI.ok (by omega)
          have z2 : cntDir R 257 = 0 := cntDir_out hI.ok (by omega)
          have z3 : cntIno R 0 = 0 := cntIno_out hI.ok (by omega)
          have z4 : cntIno R (-1) = 0 := cntIno_out hI.ok (by omega)
          have l1 := len_any wr b R 0 (by decide) hI
          have l2 := len_any wr b R 257 (by decide) hI
          have l3 := links_any wr b R 0 (by decide) hI
          have l4 := links_any wr b R (-1) (by decide) hI
          rw [z1] at l1
          rw [z2] at l2
          rw [z3] at l3
          rw [z4] at l4
          have L1 := hide l1
          have L2 := hide l2
          have L3 := hide l3
          have L4 := hide l4
          clear z1 z2 z3 z4 l1 l2 l3 l4 ht hk
          go_wp2_with fail
          refine Calls.mono L1.out ?_
          rintro e w8 ⟨rfl, rfl⟩
          go_wp2_with fail
          refine Calls.mono L2.out ?_
          rintro e w8 ⟨rfl, rfl⟩
          go_wp2_with fail
          refine Calls.mono L3.out ?_
          rintro e w8 ⟨rfl, rfl⟩
          go_wp2_with fail
          refine Calls.mono L4.out ?_
          rintro e w8 ⟨rfl, rfl⟩
          go_wp2
          go_ret
          exact ⟨rfl, hM⟩
end Go.Proofs.Ytmamdacmpikdbaa
