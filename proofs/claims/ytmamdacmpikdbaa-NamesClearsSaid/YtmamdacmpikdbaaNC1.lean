import Derived.Test.YtmamdacmpikdbaaP4
import Derived.Test.YtmamdacmpikdbaaNK1
import Derived.Test.YtmamdacmpikdbaaSt
/-! The walk of NamesClears. -/
namespace Go.Proofs.Ytmamdacmpikdbaa
open Go.RowKit Go.Maps
attribute [local go_sem] quietV loudUpon

theorem below_ix {b b2 : Nat} (h : b + 4 ≤ b2) : ∀ k, b ≤ k → k < b + 4 → ¬ Ix b2 k := fun k _ h2 e => by unfold Ix at e; omega
theorem above_ix {b b2 : Nat} (h : b + 4 ≤ b2) : ∀ k, b2 ≤ k → ¬ Ix b k := fun k h1 e => by unfold Ix at e; omega

set_option maxRecDepth 100000 in
set_option maxHeartbeats 20000000 in
theorem clears_any (w : World) (v : Value) (ops : List OpD) (dir : Int) (hO : OpsAt w v ops) (hdir : I64 dir) :
    Calls Try.prog 9 #[v, .int .i64 dir] w fun e w' => e = .returned (.bool true) ∧ Mod None_ w w' := by
  have hR := fillRows_length ops
  have hlen := hO.len
  have hRl : (fillRows ops).length ≤ 2513169434843 := by omega
  obtain ⟨R, hRe⟩ : ∃ R, R = fillRows ops := ⟨_, rfl⟩
  have HE := hide hRe
  rw [← hRe] at hRl
  clear hRe hR hlen
  obtain ⟨hdl, hdr⟩ := hdir
  have hdb := inoOf_bd dir
  go_enter Try.func9, Try.ntmps9
  go_wp2_with fail
  refine (filled_any w v ops hO).mono ?_
  rintro e w1 ⟨rfl, hI1, hM1⟩
  rw [← HE.out] at hI1
  obtain ⟨b, hb⟩ : ∃ b, b = w.heap.size := ⟨_, rfl⟩
  have hge : w.heap.size ≤ b := by omega
  rw [← hb] at hI1 ⊢
  clear hb
  go_wp2_with fail
  refine (first_any w1).mono ?_
  rintro e w2 ⟨rfl, hm2⟩
  have hI2 := hI1.kept hm2
  have hM2 := hM1.trans hm2
  clear hI1 hM1 hm2
  go_wp2_with fail
  refine (ino_any dir w2 hdl hdr).mono ?_
  rintro e w3 ⟨rfl, rfl⟩
  obtain ⟨d, hd⟩ : ∃ d, d = inoOf dir := ⟨_, rfl⟩
  rw [← hd] at hdb ⊢
  have hwd : (Lit.int .i64 d).wf = true := wf_i64 (by omega) (by omega)
  clear hd hO HE
  go_wp2_with fail
  refine (list_dents w2 b R d (by omega) hwd hI2).mono ?_
  rintro e w4 ⟨v4, rfl, hD4, hm4⟩
  have hI4 := hI2.kept hm4
  have hM4 := hM2.trans hm4
  clear hI2 hM2 hm4
  have hlp : (listPairs R d).length ≤ 2513169434843 := by
    rw [listPairs_length]
    have := cntDir_le R d
    omega
  go_wp2_with fail
  refine (copy_any w4 _ v4 _ hD4 (by omega)).mono ?_
  rintro e w5 ⟨v5, rfl, hD5, hm5⟩
  have hI5 := hI4.kept hm5
  have hM5 := hM4.trans hm5
  have hlo : b + 4 ≤ w4.heap.size := by have := hI4.lt; omega
  replace hD5 := hD5.lo hlo
  clear hI4 hM4 hm5 hD4 hlo
  go_wp2_with fail
  refine (copyIx_any w5 b R (by omega) hI5).mono ?_
  rintro e w6 ⟨rfl, hY6, hm6⟩
  obtain ⟨b2, hb2⟩ : ∃ b2, b2 = w5.heap.size := ⟨_, rfl⟩
  have hb4 : b + 4 ≤ b2 := by have := hI5.lt; omega
  rw [← hb2] at hY6 ⊢
  have hI6 := hI5.kept hm6
  have hM6 := hM5.trans hm6
  replace hD5 := hD5.mod hm6 (fun _ _ f => f)
  clear hb2 hI5 hM5 hm6
  go_wp2_with fail
  refine (clear_any w6 b R d (by omega) hwd hI6).mono ?_
  rintro e w7 ⟨rfl, hI7, hm7⟩
  have hY7 := hY6.mod hm7 (fun k h1 _ => above_ix hb4 k h1)
  have hM7 := ix_new hM6 hm7 hge
  replace hD5 := hD5.mod hm7 (fun k h1 => above_ix (Nat.le_refl _) k h1)
  have hnod := hI6.nodup
  have hok := hI6.ok
  have HNO := hide hnod
  have HOK := hide hok
  clear hI6 hY6 hM6 hm7 hnod hok
  obtain ⟨A, c, rfl, hc1, hc2, hA⟩ := id hD5
  have HD5 := hide hD5
  have HA := hide hA
  have hmn : cntDir R d = (listPairs R d).length := (listPairs_length R d).symm
  rw [hmn]
  have HPn := hide hmn
  obtain ⟨P, hP⟩ : ∃ P, P = listPairs R d := ⟨_, rfl⟩
  have HP := hide hP
  rw [← hP] at hc1 HA HD5 hlp HPn ⊢
  have hbb : ((P.length : Int) != P.length) = false := by simp
  have hcl := clear_length R d
  clear hD5 hA hP hmn
  go_wp2_with fail
  have hln := len_any w7 b (clearRows R d) d hwd hI7
  rw [cntDir_clear] at hln
  refine hln.mono ?_
  rintro e w8 ⟨rfl, rfl⟩
  clear hln
  go_wp2_with fail
  refine (list_dents w7 b (clearRows R d) d (by omega) hwd hI7).mono ?_
  rintro e w8 ⟨v8, rfl, hD8, hm8⟩
  rw [listPairs_clear_self] at hD8
  obtain ⟨A8, c8, rfl, _, _, _⟩ := hD8
  have hI8 := hI7.kept hm8
  have hY8 := hY7.kept hm8
  have hM8 := hM7.trans hm8
  replace HD5 := hide (HD5.out.mod hm8 (fun _ _ f => f))
  replace HA := hide (fun h => (HA.out h))
  clear hI7 hY7 hM7
  go_wp2_with fail
  have hcc := clear_any w8 b (clearRows R d) d (by omega) hwd hI8
  rw [clear_clear, cntDir_clear] at hcc
  refine hcc.mono ?_
  rintro e w9 ⟨rfl, hI9, hm9⟩
  have hY9 := hY8.mod hm9 (fun k h1 _ => above_ix hb4 k h1)
  have hM9 := ix_new hM8 hm9 hge
  replace HD5 := hide (HD5.out.mod hm9 (fun k h1 => above_ix (Nat.le_refl _) k h1))
  clear hI8 hY8 hM8 hcc hm9 HA hm8
  go_wp2_with fail
  have hln := len_any w9 b2 R d hwd hY9
  rw [HPn.out] at hln
  refine hln.mono ?_
  rintro e w10 ⟨rfl, rfl⟩
  clear hln
  obtain ⟨_, _, hcv, _, _, hA⟩ := HD5.out
  simp only [Value.slice.injEq, true_and] at hcv
  obtain ⟨rfl, rfl⟩ := hcv
  have HA := hide hA
  have HI := hide hI9
  have HY := hide hY9
  clear hA hI9 hY9
  go_wp2_with fail
  go_loopg [10, 11, 12] 256 (fun n k o i wr => ∃ q : Nat, q + n = 256 ∧ k = .int .i64 ((q : Int) + 1) ∧ Mod None_ w9 wr)
  case atStart => exact ⟨0, by omega, by go_num, Mod.refl _ _⟩
  case round =>
    obtain ⟨q, hq, rfl, hm⟩ := hrel
    by_cases hqm : q < 256
    · have hqi : (q : Int) + 1 ≤ 256 := by omega
      have hwq : (Lit.int .i64 ((q : Int) + 1)).wf = true := wf_i64 (by omega) (by omega)
      have houts := outs_eq HNO.out d ((q : Int) + 1)
      rw [← HP.out] at houts
      have HOU := hide houts
      have HQ := hide hq
      clear houts hq
      by_cases hqd : (q : Int) + 1 = d
      · have hne : (((q : Int) + 1) != d) = false := by rw [bne_eq_false_iff_eq]; exact hqd
        have HQD := hide hqd
        clear hqd
        go_wp2_with fail
        obtain ⟨w10, rfl⟩ : ∃ w10, w10 = wr := ⟨_, rfl⟩
        go_loopg [11, 12] P.length (fun n o i wr' => ∃ j : Nat, j + n = P.length ∧ o = .int .i64 (outs (P.take j) ((q : Int) + 1) : Nat) ∧ i = .int .i64 j ∧ Mod None_ w9 wr')
        case atStart => exact ⟨0, by omega, rfl, rfl, hm⟩
        case round =>
          clear hm
          obtain ⟨j, hj, rfl, rfl, hm⟩ := hrel
          by_cases hjl : j < P.length
          · have hji : (j : Int) < P.length := by omega
            obtain ⟨g, rfl, _, hg, hcc⟩ := HA.out (by omega)
            have x1 : wr.cell? ⟨g, j * 2 + 1, none⟩ = some (.int .i64 P[j].2) := (World.cell?_of_block (hm.block g hg id)).trans (hcc _ _ (pairCells_snd P j hjl))
            have hsn := outs_snoc (P.take j) P[j] ((q : Int) + 1)
            rw [← List.take_succ_eq_append_getElem hjl] at hsn
            have hob := outs_le (P.take j) ((q : Int) + 1)
            have hol := List.length_take_le j P
            obtain ⟨p, hp⟩ : ∃ p, p = P[j] := ⟨_, rfl⟩
            rw [← hp] at x1 hsn
            obtain ⟨ov, hov⟩ : ∃ o, o = outs (P.take j) ((q : Int) + 1) := ⟨_, rfl⟩
            rw [← hov] at hsn hob ⊢
            have hob2 : (ov : Int) ≤ 2513169434843 := by omega
            have HJ := hide hj
            have HSN := hide hsn
            clear hcc hp hov hsn hob hol hj
            by_cases he : p.2 = (q : Int) + 1
            · have he1 : (p.2 == (q : Int) + 1) = true := by rw [he]; exact beq_self_eq_true _
              have HEE := hide he
              clear he
              go_wp2
              go_roundg (gk - 1)
              case measure => have := HJ.out; omega
              case rel => exact ⟨j + 1, by have := HJ.out; omega, by rw [HSN.out, if_pos HEE.out]; go_num, by go_num, hm⟩
            · have he1 : (p.2 == (q : Int) + 1) = false := by rw [beq_eq_false_iff_ne]; exact he
              have HEE := hide he
              clear he
              go_wp2
              go_roundg (gk - 1)
              case measure => have := HJ.out; omega
              case rel => exact ⟨j + 1, by have := HJ.out; omega, by rw [HSN.out, if_neg HEE.out]; rfl, by go_num, hm⟩
          · obtain rfl : j = P.length := by omega
            have hji : ¬ (P.length : Int) < P.length := by omega
            have htl : P.take P.length = P := List.take_of_length_le (Nat.le_refl _)
            rw [htl]
            have hIx := HI.out.kept hm
            have hIy := HY.out.kept hm
            have hl1 := cntIno_le (clearRows R d) ((q : Int) + 1)
            have hl2 := outs_le P ((q : Int) + 1)
            have hk1 := links_any wr b (clearRows R d) ((q : Int) + 1) hwq hIx
            have hk2 := links_any wr b2 R ((q : Int) + 1) hwq hIy
            rw [HOU.out] at hk2
            obtain ⟨a1, ha1⟩ : ∃ a, a = cntIno (clearRows R d) ((q : Int) + 1) := ⟨_, rfl⟩
            obtain ⟨o1, ho1⟩ : ∃ a, a = outs P ((q : Int) + 1) := ⟨_, rfl⟩
            rw [← ha1] at hk1 hk2 hl1
            rw [← ho1] at hk2 hl2 ⊢
            have ec : ((a1 + o1 : Nat) : Int) = (a1 : Int) + o1 := by omega
            rw [ec] at hk2
            have HK1 := hide hk1
            have HK2 := hide hk2
            have hb1 : (a1 : Int) ≤ 2513169434843 := by omega
            have hb2 : (o1 : Int) ≤ 2513169434843 := by omega
            have hsub : IntKind.i64.wrap ((a1 : Int) + o1 - o1) = a1 := by rw [IntWalk.i64_in _ (by omega)]; omega
            have haa : ((a1 : Int) != a1) = false := by simp
            clear htl hIx hIy hl1 hl2 hk1 hk2 ha1 ho1 ec hj
            go_wp2_with fail
            refine Calls.mono HK1.out ?_
            rintro e w11 ⟨rfl, rfl⟩
            go_wp2_with fail
            refine Calls.mono HK2.out ?_
            rintro e w11 ⟨rfl, rfl⟩
            go_wp2
            go_roundg (255 - q)
            case measure => have := HQ.out; omega
            case rel => exact ⟨q + 1, by have := HQ.out; omega, by go_num, hm⟩
      · have hne : (((q : Int) + 1) != d) = true := by rw [bne_iff_ne]; exact hqd
        have HLP := hide (listPairs_clear_ne R hqd)
        clear hqd
        go_wp2_with fail
        refine (list_dents wr b (clearRows R d) ((q : Int) + 1) (by omega) hwq (HI.out.kept hm)).mono ?_
        rintro e w12 ⟨v12, rfl, hD12, hm12⟩
        have hm12' := hm.trans hm12
        rw [HLP.out] at hD12
        clear hm hm12
        go_wp2_with fail
        refine (list_dents w12 b2 R ((q : Int) + 1) (by omega) hwq (HY.out.kept hm12')).mono ?_
        rintro e w13 ⟨v13, rfl, hD13, hm13⟩
        have hm13' := hm12'.trans hm13
        replace hD12 := hD12.mod hm13 (fun _ _ f => f)
        clear hm12' hm13
        go_wp2_with fail
        have hsm := same_any w13 _ _ v12 v13 _ _ hD12 hD13
        rw [decide_eq_true rfl] at hsm
        refine hsm.mono ?_
        rintro e wr ⟨rfl, hm14⟩
        have hm15 := hm13'.trans hm14
        clear hsm hD12 hD13 hm13' hm14
        go_wp2_with fail
        obtain ⟨w10, rfl⟩ : ∃ w10, w10 = wr := ⟨_, rfl⟩
        go_loopg [11, 12] P.length (fun n o i wr' => ∃ j : Nat, j + n = P.length ∧ o = .int .i64 (outs (P.take j) ((q : Int) + 1) : Nat) ∧ i = .int .i64 j ∧ Mod None_ w9 wr')
        case atStart => exact ⟨0, by omega, rfl, rfl, hm15⟩
        case round =>
          clear hm15
          obtain ⟨j, hj, rfl, rfl, hm⟩ := hrel
          by_cases hjl : j < P.length
          · have hji : (j : Int) < P.length := by omega
            obtain ⟨g, rfl, _, hg, hcc⟩ := HA.out (by omega)
            have x1 : wr.cell? ⟨g, j * 2 + 1, none⟩ = some (.int .i64 P[j].2) := (World.cell?_of_block (hm.block g hg id)).trans (hcc _ _ (pairCells_snd P j hjl))
            have hsn := outs_snoc (P.take j) P[j] ((q : Int) + 1)
            rw [← List.take_succ_eq_append_getElem hjl] at hsn
            have hob := outs_le (P.take j) ((q : Int) + 1)
            have hol := List.length_take_le j P
            obtain ⟨p, hp⟩ : ∃ p, p = P[j] := ⟨_, rfl⟩
            rw [← hp] at x1 hsn
            obtain ⟨ov, hov⟩ : ∃ o, o = outs (P.take j) ((q : Int) + 1) := ⟨_, rfl⟩
            rw [← hov] at hsn hob ⊢
            have hob2 : (ov : Int) ≤ 2513169434843 := by omega
            have HJ := hide hj
            have HSN := hide hsn
            clear hcc hp hov hsn hob hol hj
            by_cases he : p.2 = (q : Int) + 1
            · have he1 : (p.2 == (q : Int) + 1) = true := by rw [he]; exact beq_self_eq_true _
              have HEE := hide he
              clear he
              go_wp2
              go_roundg (gk - 1)
              case measure => have := HJ.out; omega
              case rel => exact ⟨j + 1, by have := HJ.out; omega, by rw [HSN.out, if_pos HEE.out]; go_num, by go_num, hm⟩
            · have he1 : (p.2 == (q : Int) + 1) = false := by rw [beq_eq_false_iff_ne]; exact he
              have HEE := hide he
              clear he
              go_wp2
              go_roundg (gk - 1)
              case measure => have := HJ.out; omega
              case rel => exact ⟨j + 1, by have := HJ.out; omega, by rw [HSN.out, if_neg HEE.out]; rfl, by go_num, hm⟩
          · obtain rfl : j = P.length := by omega
            have hji : ¬ (P.length : Int) < P.length := by omega
            have htl : P.take P.length = P := List.take_of_length_le (Nat.le_refl _)
            rw [htl]
            have hIx := HI.out.kept hm
            have hIy := HY.out.kept hm
            have hl1 := cntIno_le (clearRows R d) ((q : Int) + 1)
            have hl2 := outs_le P ((q : Int) + 1)
            have hk1 := links_any wr b (clearRows R d) ((q : Int) + 1) hwq hIx
            have hk2 := links_any wr b2 R ((q : Int) + 1) hwq hIy
            rw [HOU.out] at hk2
            obtain ⟨a1, ha1⟩ : ∃ a, a = cntIno (clearRows R d) ((q : Int) + 1) := ⟨_, rfl⟩
            obtain ⟨o1, ho1⟩ : ∃ a, a = outs P ((q : Int) + 1) := ⟨_, rfl⟩
            rw [← ha1] at hk1 hk2 hl1
            rw [← ho1] at hk2 hl2 ⊢
            have ec : ((a1 + o1 : Nat) : Int) = (a1 : Int) + o1 := by omega
            rw [ec] at hk2
            have HK1 := hide hk1
            have HK2 := hide hk2
            have hb1 : (a1 : Int) ≤ 2513169434843 := by omega
            have hb2 : (o1 : Int) ≤ 2513169434843 := by omega
            have hsub : IntKind.i64.wrap ((a1 : Int) + o1 - o1) = a1 := by rw [IntWalk.i64_in _ (by omega)]; omega
            have haa : ((a1 : Int) != a1) = false := by simp
            clear htl hIx hIy hl1 hl2 hk1 hk2 ha1 ho1 ec hj
            go_wp2_with fail
            refine Calls.mono HK1.out ?_
            rintro e w11 ⟨rfl, rfl⟩
            go_wp2_with fail
            refine Calls.mono HK2.out ?_
            rintro e w11 ⟨rfl, rfl⟩
            go_wp2
            go_roundg (255 - q)
            case measure => have := HQ.out; omega
            case rel => exact ⟨q + 1, by have := HQ.out; omega, by go_num, hm⟩
    · obtain rfl : q = 256 := by omega
      have hqi : ¬ ((256 : Nat) : Int) + 1 ≤ 256 := by omega
      have hIx := HI.out.kept hm
      have hIy := HY.out.kept hm
      have hM10 := hM9.trans hm
      have hlo9 : b + 4 ≤ w9.heap.size := by have := HI.out.lt; omega
      have HD10 := hide (HD5.out.mod hm (fun _ _ f => f))
      obtain ⟨w10, rfl⟩ : ∃ w10, w10 = wr := ⟨_, rfl⟩
      have HY10 := hide hIy
      have hba : backRows d (P.take 0) (clearRows R d) = clearRows R d := rfl
      rw [← hba] at hIx
      clear hq hm HI HY HA HD5 hba hM9 hIy
      obtain ⟨_, _, hcv, _, _, hA⟩ := HD10.out
      simp only [Value.slice.injEq, true_and] at hcv
      obtain ⟨rfl, rfl⟩ := hcv
      have HA := hide hA
      clear hA
      go_wp2_with fail
      go_loopg [13] P.length (fun n i wr => ∃ j : Nat, j + n = P.length ∧ i = .int .i64 j ∧ IndexAt wr b (backRows d (P.take j) (clearRows R d)) ∧ Mod (Ix b) w10 wr)
      case atStart => exact ⟨0, by omega, rfl, hIx, Mod.refl _ _⟩
      case round =>
        clear hIx
        obtain ⟨j, hj, rfl, hI, hm⟩ := hrel
        by_cases hjl : j < P.length
        · have hji : (j : Int) < P.length := by omega
          obtain ⟨g, rfl, hgl, hg, hcc⟩ := HA.out (by omega)
          have hm3 : Mod (Ix b) w10 wr.drew := hm.drew
          have hI3 := hI.drew
          have x0 : wr.drew.cell? ⟨g, j * 2, none⟩ = some (.string P[j].1) := (World.cell?_of_block (hm3.block g hg (above_ix (Nat.le_refl _) g hgl))).trans (hcc _ _ (pairCells_fst P j hjl))
          have x1 : wr.drew.cell? ⟨g, j * 2 + 1, none⟩ = some (.int .i64 P[j].2) := (World.cell?_of_block (hm3.block g hg (above_ix (Nat.le_refl _) g hgl))).trans (hcc _ _ (pairCells_snd P j hjl))
          have hfz : findIno (backRows d (P.take j) (clearRows R d)) d P[j].1 = 0 := by
            have := back_find HNO.out d j (by rw [← HP.out]; exact hjl)
            simpa only [← HP.out] using this
          obtain ⟨hpe, hpr⟩ : putErr (backRows d (P.take j) (clearRows R d)) d P[j].1 P[j].2 = 0 ∧ putRows (backRows d (P.take j) (clearRows R d)) d P[j].1 P[j].2 = backRows d (P.take (j + 1)) (clearRows R d) := by
            have := back_put HOK.out HNO.out hdb j (by rw [← HP.out]; exact hjl)
            simpa only [← HP.out] using this
          have hbl : (backRows d (P.take j) (clearRows R d)).length < 4611686018427387900 := by
            rw [back_length]
            have := List.length_take_le j P
            omega
          obtain ⟨p, hp⟩ : ∃ p, p = P[j] := ⟨_, rfl⟩
          rw [← hp] at x0 x1 hfz hpe hpr
          have HFZ := hide hfz
          have HPE := hide hpe
          have HPR := hide hpr
          have HJ := hide hj
          clear hcc hp hfz hpe hpr hj hI hm
          go_wp2_with fail
          refine region_mxw [(true, 0), (true, 1), (true, 2), (true, 3), (true, 4), (true, 5), (true, 6), (false, 7), (true, 8), (true, 9), (true, 10), (true, 11), (true, 12), (true, 13), (true, 14), (true, 15), (true, 16), (true, 17), (true, 18), (true, 19), (true, 20), (true, 21), (false, 22), (true, 23), (true, 24)]
            (fun w' => w'.cell? ⟨g, j * 2, none⟩ = some (.string p.1) ∧ w'.cell? ⟨g, j * 2 + 1, none⟩ = some (.int .i64 p.2)) (by kernel_rfl) (by kernel_rfl) ?_
          rintro w6' hw6
          rw [← hw6] at hm3 hI3 x0 x1
          clear hw6
          refine ⟨⟨x0, x1⟩, ?_⟩
          iterate 7 (refine mxw_quiet rfl (fun w' ⟨i1, i2⟩ K hK => by go_simp; exact hK) ?_; go_frame)
          refine mxw_loud rfl (fun K hK => ?_)
          go_simp
          have hgt := get_any w6' b _ d p.1 hwd hI3
          rw [HFZ.out] at hgt
          refine hgt.mono ?_
          rintro e w7' ⟨rfl, hm7⟩
          have hb7 := hm7.block g (block_lt_of_cell x0) id
          replace x0 : w7'.cell? ⟨g, j * 2, none⟩ = some (.string p.1) := (World.cell?_of_block hb7).trans x0
          replace x1 : w7'.cell? ⟨g, j * 2 + 1, none⟩ = some (.int .i64 p.2) := (World.cell?_of_block hb7).trans x1
          replace hI3 := hI3.kept hm7
          replace hm3 := hm3.trans hm7.none
          refine ⟨_, rfl, ⟨x0, x1⟩, hK _ _ ?_⟩
          clear hK K hgt hb7 hm7
          try go_frame
          iterate 14 (refine mxw_quiet rfl (fun w' ⟨i1, i2⟩ K hK => by go_simp; exact hK) ?_; go_frame)
          refine mxw_loud rfl (fun K hK => ?_)
          go_simp
          refine (put_eq w7' b _ _ d p.1 p.2 0 hbl hI3 HPE.out HPR.out).mono ?_
          rintro e w8' ⟨rfl, hm8, hI8⟩
          have hb8 := hm8.block g (block_lt_of_cell x0) (above_ix (Nat.le_refl _) g hgl)
          replace x0 : w8'.cell? ⟨g, j * 2, none⟩ = some (.string p.1) := (World.cell?_of_block hb8).trans x0
          replace x1 : w8'.cell? ⟨g, j * 2 + 1, none⟩ = some (.int .i64 p.2) := (World.cell?_of_block hb8).trans x1
          replace hm3 := hm3.trans hm8
          refine ⟨_, rfl, ⟨x0, x1⟩, hK _ _ ?_⟩
          clear hK K hb8 hm8 hI3
          try go_frame
          iterate 2 (refine mxw_quiet rfl (fun w' ⟨i1, i2⟩ K hK => by go_simp; exact hK) ?_; go_frame)
          refine mxw_nil ?_
          go_wp2_with fail
          go_roundg (gk - 1)
          case measure => have := HJ.out; omega
          case rel => exact ⟨j + 1, by have := HJ.out; omega, by go_num, hI8, hm3⟩
        · obtain rfl : j = P.length := by omega
          have hji : ¬ (P.length : Int) < P.length := by omega
          have htl : P.take P.length = P := List.take_of_length_le (Nat.le_refl _)
          rw [htl] at hI
          have hIb : IndexAt wr b R := hI.perm (by rw [HP.out]; exact back_perm HNO.out d)
          have hYb := HY10.out.mod hm (fun k h1 _ => above_ix hb4 k h1)
          have hMb := ix_new hM10 hm hge
          replace HD10 := hide (HD10.out.mod hm (fun k h1 => above_ix (Nat.le_refl _) k h1))
          clear hI hm htl hj hM10
          go_wp2_with fail
          refine (list_dents wr b R d (by omega) hwd hIb).mono ?_
          rintro e w12 ⟨v12, rfl, hD12, hm12⟩
          rw [← HP.out] at hD12
          replace HD10 := hide (HD10.out.mod hm12 (fun _ _ f => f))
          have hM12 := hMb.trans hm12
          have hY12 := hYb.kept hm12
          clear hIb hYb hMb hm12
          go_wp2_with fail
          have hsm := same_any w12 _ _ v12 _ _ _ hD12 HD10.out
          rw [decide_eq_true rfl] at hsm
          refine hsm.mono ?_
          rintro e w13 ⟨rfl, hm13⟩
          replace HD10 := hide (HD10.out.mod hm13 (fun _ _ f => f))
          have hM13 := hM12.trans hm13
          have hY13 := hY12.kept hm13
          clear hsm hD12 hM12 hY12 hm13
          go_wp2_with fail
          refine (list_dents w13 b2 R d (by omega) hwd hY13).mono ?_
          rintro e w14 ⟨v14, rfl, hD14, hm14⟩
          rw [← HP.out] at hD14
          replace HD10 := hide (HD10.out.mod hm14 (fun _ _ f => f))
          have hM14 := hM13.trans hm14
          clear hY13 hM13 hm14
          go_wp2_with fail
          have hsm := same_any w14 _ _ v14 _ _ _ hD14 HD10.out
          rw [decide_eq_true rfl] at hsm
          refine hsm.mono ?_
          rintro e w15 ⟨rfl, hm15⟩
          have hM15 := hM14.trans hm15
          clear hsm hD14 hM14 hm15
          go_wp2
          go_ret
          exact ⟨rfl, hM15⟩
end Go.Proofs.Ytmamdacmpikdbaa
