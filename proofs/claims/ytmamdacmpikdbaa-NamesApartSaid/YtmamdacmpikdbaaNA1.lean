import Derived.Test.YtmamdacmpikdbaaNA0
/-! The walk of NamesApart. -/
namespace Go.Proofs.Ytmamdacmpikdbaa
open Go.RowKit Go.Maps Go.Shelf
attribute [local go_sem] quietV loudUpon Oper.semAt_some

set_option maxRecDepth 100000 in
set_option maxHeartbeats 20000000 in
theorem apart_any (w : World) (v : Value) (ops : List OpD) (v2 : Value) (more : List OpD) (dir : Int) (hO : OpsAt w v ops) (hO2 : OpsAt w v2 more) (hdir : I64 dir) :
    Calls Try.prog 10 #[v, v2, .int .i64 dir] w fun e w' => e = .returned (.bool true) ∧ Mod None_ w w' := by
  have hR := fillRows_length ops
  have hlen := hO.len
  have hRl : (fillRows ops).length ≤ 2513169434843 := by omega
  obtain ⟨R, hRe⟩ : ∃ R, R = fillRows ops := ⟨_, rfl⟩
  have HE := hide hRe
  rw [← hRe] at hRl
  clear hRe hR hlen
  obtain ⟨A5, c5, rfl, hlen2, hok5, hA5⟩ := hO2
  have HOK5 := hide hok5
  have HA5 := hide hA5
  clear hok5 hA5
  obtain ⟨hdl, hdr⟩ := hdir
  have hdb := inoOf_bd dir
  go_enter Try.func10, Try.ntmps10
  go_wp2_with fail
  refine (filled_any w v ops hO).mono ?_
  rintro e w2 ⟨rfl, hI, hM⟩
  rw [← HE.out] at hI
  obtain ⟨b, hb⟩ : ∃ b, b = w.heap.size := ⟨_, rfl⟩
  have hge : w.heap.size ≤ b := by omega
  rw [← hb] at hI ⊢
  clear hb HE
  go_wp2_with fail
  refine (first_any w2).mono ?_
  rintro e w3 ⟨rfl, hm⟩
  replace hI := hI.kept hm
  replace hM := hM.trans hm
  clear hm
  go_wp2_with fail
  refine (ino_any dir w3 hdl hdr).mono ?_
  rintro e w4 ⟨rfl, rfl⟩
  obtain ⟨d, hd⟩ : ∃ d, d = inoOf dir := ⟨_, rfl⟩
  rw [← hd] at hdb ⊢
  have hwd : (Lit.int .i64 d).wf = true := wf_i64 (by omega) (by omega)
  clear hd
  go_wp2_with fail
  refine (copyIx_any w3 b R (by omega) hI).mono ?_
  rintro e w4 ⟨rfl, hY, hm⟩
  obtain ⟨y, hy⟩ : ∃ y, y = w3.heap.size := ⟨_, rfl⟩
  have hby : b + 4 ≤ y := by have := hI.lt; omega
  rw [← hy] at hY ⊢
  replace hI := hI.kept hm
  replace hM := hM.trans hm
  clear hy hm
  go_wp2_with fail
  refine (list_dents w4 b R d (by omega) hwd hI).mono ?_
  rintro e w5 ⟨v5, rfl, hD5, hm⟩
  replace hI := hI.kept hm
  replace hY := hY.kept hm
  replace hM := hM.trans hm
  clear hm
  have hlp : (listPairs R d).length ≤ 2513169434843 := by rw [listPairs_length]; have := cntDir_le R d; omega
  go_wp2_with fail
  refine (copy_any w5 _ v5 _ hD5 (by omega)).mono ?_
  rintro e w6 ⟨vk, rfl, hDk, hm⟩
  have hlo : y + 4 ≤ w5.heap.size := hY.lt
  replace hDk := (hDk.lo hlo).at_
  replace hI := hI.kept hm
  replace hY := hY.kept hm
  replace hM := hM.trans hm
  clear hm hlo hD5
  obtain ⟨h6, hh6⟩ : ∃ h, h = w6.heap.size := ⟨_, rfl⟩
  rw [← hh6] at hDk
  have HH6 := hide hh6
  have hy6 : y + 4 ≤ h6 := by rw [hh6]; exact hY.lt
  clear hh6
  go_wp2_with fail
  refine (list_own w6 b R d (by omega) hwd hI).mono ?_
  rintro e w7 ⟨va, rfl, hA, hm⟩
  obtain ⟨A, ca, rfl⟩ := own_slice hA
  replace hA : OAt w7 w6.heap.size (fun g => h6 ≤ g ∧ g < w7.heap.size) A ca (listPairs R d) := ⟨hA, fun g hg => ⟨by rw [HH6.out]; exact (hA.lt g hg).1, (hA.lt g hg).2⟩⟩
  rw [← HH6.out] at hA
  replace hDk := hDk.mod hm (fun _ _ _ f => f)
  replace hI := hI.kept hm
  replace hY := hY.kept hm
  replace hM := hM.trans hm
  have h67 : h6 ≤ w7.heap.size := by rw [HH6.out]; exact hm.size
  obtain ⟨h7, hh7⟩ : ∃ h, h = w7.heap.size := ⟨_, rfl⟩
  rw [← hh7] at hA h67
  have HH7 := hide hh7
  clear hh7 hm HH6
  go_wp2_with fail
  refine (list_own w7 b R d (by omega) hwd hI).mono ?_
  rintro e w8 ⟨vb, rfl, hB, hm⟩
  obtain ⟨B, cb, rfl⟩ := own_slice hB
  replace hB : OAt w8 w7.heap.size (fun g => h7 ≤ g ∧ g < w8.heap.size) B cb (listPairs R d) := ⟨hB, fun g hg => ⟨by rw [HH7.out]; exact (hB.lt g hg).1, (hB.lt g hg).2⟩⟩
  rw [← HH7.out] at hB
  replace hDk := hDk.mod hm (fun _ _ _ f => f)
  replace hA := hA.mod hm (fun _ _ f => f)
  replace hI := hI.kept hm
  replace hY := hY.kept hm
  replace hM := hM.trans hm
  have h78 : h7 ≤ w8.heap.size := by rw [HH7.out]; exact hm.size
  obtain ⟨h8, hh8⟩ : ∃ h, h = w8.heap.size := ⟨_, rfl⟩
  rw [← hh8] at hB h78
  have hs8 : h8 ≤ w8.heap.size := by omega
  clear hh8 hm HH7
  obtain ⟨P, hP⟩ : ∃ P, P = listPairs R d := ⟨_, rfl⟩
  have HP := hide hP
  rw [← hP] at hA hB hDk hlp ⊢
  clear hP
  have hlna : ∀ (X : Option Addr) (c : Nat) w, (Builtin.len_ #[28] 3 #[.slice X P.length c]).run Try.prog w = .ok (.int .i64 P.length) w := fun X c w => by simp [Builtin.len_, run_underlying Try.underlying28]; rfl
  go_wp2_with fail
  go_loopg [13] P.length (fun n i wr => ∃ j : Nat, j + n = P.length ∧ i = .int .i64 j ∧ OAt wr h6 (fun g => h6 ≤ g ∧ g < h7) A ca (marked ⟨#[109, 97, 114, 107]⟩ (fun i => -i) P j) ∧ Mod (fun g => h6 ≤ g ∧ g < h7) w8 wr)
  case atStart => exact ⟨0, by omega, rfl, by rw [marked_zero]; exact hA, Mod.refl _ _⟩
  obtain ⟨j, hj, rfl, hA2, hm⟩ := hrel
  have hml := marked_length ⟨#[109, 97, 114, 107]⟩ (fun i => -i) P (k := j) (by omega)
  by_cases hlt : j < P.length
  · skip
    have hji : (j : Int) < P.length := by omega
    obtain ⟨g, rfl, hgs, hgl, x0, x1, fz, hc1, hc2⟩ := hA2.at_ (k := j) (by rw [hml]; exact hlt)
    have hset := hA2.set_ (k := j) (by rw [hml]; exact hlt) (⟨#[109, 97, 114, 107]⟩, -j)
    rw [marked_succ _ (fun i => -(i : Int)) P hlt] at hset
    obtain ⟨hA3, hm2⟩ := hset
    have HA2 := hide hA3
    have HM2 := hide (hm.trans' hm2 (fun k _ e => by subst e; exact hgs))
    clear hA2 hm hA3 hm2
    go_wp2_with fail
    go_roundg (gk - 1)
    case measure => omega
    case rel => exact ⟨j + 1, by omega, by go_num, HA2.out, HM2.out⟩
  obtain rfl : j = P.length := by omega
  have hji : ¬ (P.length : Int) < P.length := by omega
  obtain ⟨PA, hPA⟩ : ∃ Q, Q = marked ⟨#[109, 97, 114, 107]⟩ (fun i => -i) P P.length := ⟨_, rfl⟩
  rw [← hPA] at hA2 hml
  have HPA := hide hPA
  have HML := hide hml
  clear hPA hml hA hlt hj
  replace hDk := hDk.mod hm (fun k _ _ => by omega)
  replace hB := hB.mod hm (fun k h => by omega)
  replace hI := hI.mod hm (fun k _ h e => by first | omega | (unfold Ix at *; omega))
  replace hY := hY.mod hm (fun k _ h e => by first | omega | (unfold Ix at *; omega))
  replace hM := hM.trans' hm (fun k hk e => by first | exact e.elim | (unfold Ix at e; omega) | omega)
  have hs8w : h8 ≤ wr.heap.size := Nat.le_trans hs8 hm.size
  clear hm hs8
  obtain ⟨A2, ca2, w9, hrun, hAn, hAg, hm⟩ := append_own wr h6 _ A ca P.length PA (⟨#[109, 111, 114, 101]⟩, -7) 28 HML.out hA2 (by omega) (by rw [HML.out]; omega)
  replace hDk := hDk.mod hm (fun k _ _ => by omega)
  replace hB := hB.mod hm (fun k h => by omega)
  replace hI := hI.mod hm (fun k _ h e => by first | omega | (unfold Ix at *; omega))
  replace hY := hY.mod hm (fun k _ h e => by first | omega | (unfold Ix at *; omega))
  replace hM := hM.trans' hm (fun k hk e => by first | exact e.elim | (unfold Ix at e; omega) | omega)
  have hs9 : h8 ≤ w9.heap.size := Nat.le_trans hs8w hm.size
  have HI := hide hI
  have HY := hide hY
  have HM := hide hM
  have HDK := hide hDk
  have HB := hide hB
  have HAN := hide hAn
  have HAG := hide hAg
  clear hm hI hY hM hDk hB hAn hAg hA2
  go_wp2_with ((with_reducible refine at_slot 58 ?_); refine wpList_val rfl (ex_append rfl hrun) ?_; clear hrun; go_frame)
  refine (same_any w9 _ _ _ _ _ _ HB.out.dents HDK.out.dents).mono ?_
  rw [decide_eq_true (rfl : P = P)]
  rintro e w10 ⟨rfl, hm⟩
  have hI := HI.out.kept hm
  have hY := HY.out.kept hm
  have hM := HM.out.trans hm
  have hDk := HDK.out.mod hm (fun _ _ _ f => f)
  have hB := HB.out.mod hm (fun _ _ f => f)
  have hAn := HAN.out.mod hm (fun _ _ f => f)
  have hAg := HAG.out.mod hm (fun _ _ f => f)
  have hs10 : h8 ≤ w10.heap.size := Nat.le_trans hs9 hm.size
  clear hm HI HY HM HDK HB HAN HAG hs9
  go_wp2_with fail
  refine (list_dents w10 b R d (by omega) hwd hI).mono ?_
  rintro e w11 ⟨v11, rfl, hD11, hm⟩
  rw [← HP.out] at hD11
  replace hI := hI.kept hm
  replace hY := hY.kept hm
  replace hM := hM.trans hm
  replace hDk := hDk.mod hm (fun _ _ _ f => f)
  replace hB := hB.mod hm (fun _ _ f => f)
  replace hAn := hAn.mod hm (fun _ _ f => f)
  replace hAg := hAg.mod hm (fun _ _ f => f)
  have hs11 : h8 ≤ w11.heap.size := Nat.le_trans hs10 hm.size
  clear hm hs10
  go_wp2_with fail
  refine (same_any w11 _ _ _ _ _ _ hD11 hDk.dents).mono ?_
  rw [decide_eq_true (rfl : P = P)]
  rintro e w12 ⟨rfl, hm⟩
  replace hI := hI.kept hm
  replace hY := hY.kept hm
  replace hM := hM.trans hm
  replace hDk := hDk.mod hm (fun _ _ _ f => f)
  replace hB := hB.mod hm (fun _ _ f => f)
  replace hAn := hAn.mod hm (fun _ _ f => f)
  replace hAg := hAg.mod hm (fun _ _ f => f)
  have hs12 : h8 ≤ w12.heap.size := Nat.le_trans hs11 hm.size
  clear hm hs11 hD11
  obtain ⟨K, ck, rfl, hck1, hck2⟩ := hDk.shape
  have hlnA : ∀ w, (Builtin.len_ #[28] 3 #[.slice A2 (P.length + 1) ca2]).run Try.prog w = .ok (.int .i64 (P.length + 1)) w := fun w => by simp [Builtin.len_, run_underlying Try.underlying28]; rfl
  go_wp2_with fail
  go_loopg [15] P.length (fun n i wr => ∃ j : Nat, j + n = P.length ∧ i = .int .i64 j ∧ OAt wr h7 (fun g => h7 ≤ g ∧ g < h8) B cb (marked ⟨#[111, 116, 104, 101, 114]⟩ (fun i => 1000 + i) P j) ∧ Mod (fun g => h7 ≤ g ∧ g < h8) w12 wr)
  case atStart => exact ⟨0, by omega, rfl, by rw [marked_zero]; exact hB, Mod.refl _ _⟩
  obtain ⟨j, hj, rfl, hB2, hm⟩ := hrel
  have hml := marked_length ⟨#[111, 116, 104, 101, 114]⟩ (fun i => 1000 + i) P (k := j) (by omega)
  by_cases hlt : j < P.length
  · skip
    have hji : (j : Int) < P.length := by omega
    obtain ⟨g, rfl, hgs, hgl, x0, x1, fz, hc1, hc2⟩ := hB2.at_ (k := j) (by rw [hml]; exact hlt)
    have hset := hB2.set_ (k := j) (by rw [hml]; exact hlt) (⟨#[111, 116, 104, 101, 114]⟩, 1000 + j)
    rw [marked_succ _ (fun i => 1000 + (i : Int)) P hlt] at hset
    obtain ⟨hB3, hm2⟩ := hset
    have HB2 := hide hB3
    have HM2 := hide (hm.trans' hm2 (fun k _ e => by subst e; exact hgs))
    clear hB2 hm hB3 hm2
    go_wp2_with fail
    go_roundg (gk - 1)
    case measure => omega
    case rel => exact ⟨j + 1, by omega, by go_num, HB2.out, HM2.out⟩
  obtain rfl : j = P.length := by omega
  have hji2 : ¬ (P.length : Int) < P.length := by omega
  obtain ⟨PB, hPB⟩ : ∃ Q, Q = marked ⟨#[111, 116, 104, 101, 114]⟩ (fun i => 1000 + i) P P.length := ⟨_, rfl⟩
  rw [← hPB] at hB2 hml
  have HPB := hide hPB
  have HMLB := hide hml
  clear hPB hml hB hlt hj
  replace hDk := hDk.mod hm (fun k _ _ => by omega)
  replace hAn := hAn.mod hm (fun k h => by omega)
  replace hAg := hAg.mod hm (fun k h => by omega)
  replace hI := hI.mod hm (fun k _ h e => by first | omega | (unfold Ix at *; omega))
  replace hY := hY.mod hm (fun k _ h e => by first | omega | (unfold Ix at *; omega))
  replace hM := hM.trans' hm (fun k hk e => by first | exact e.elim | (unfold Ix at e; omega) | omega)
  obtain ⟨w13, rfl⟩ : ∃ w13, w13 = wr := ⟨_, rfl⟩
  have hs13 : h8 ≤ w13.heap.size := Nat.le_trans hs12 hm.size
  clear hm hs12
  obtain ⟨B2, cb2, w14, hrun, hBn, _, hm⟩ := append_own w13 h7 _ B cb P.length PB (⟨#[108, 97, 115, 116]⟩, -9) 28 HMLB.out hB2 (by omega) (by rw [HMLB.out]; omega)
  replace hDk := hDk.mod hm (fun k _ _ => by omega)
  replace hAn := hAn.mod hm (fun k h => by omega)
  replace hAg := hAg.mod hm (fun k h => by omega)
  replace hI := hI.mod hm (fun k _ h e => by first | omega | (unfold Ix at *; omega))
  replace hY := hY.mod hm (fun k _ h e => by first | omega | (unfold Ix at *; omega))
  replace hM := hM.trans' hm (fun k hk e => by first | exact e.elim | (unfold Ix at e; omega) | omega)
  have hs14 : h8 ≤ w14.heap.size := Nat.le_trans hs13 hm.size
  have HI := hide hI
  have HY := hide hY
  have HM := hide hM
  have HDK := hide hDk
  have HAN := hide hAn
  have HBN := hide hBn
  have HAG := hide hAg
  clear hm hI hY hM hDk hAn hAg hBn hB2
  go_wp2_with ((with_reducible refine at_slot 94 ?_); refine wpList_val rfl (ex_append rfl hrun) ?_; clear hrun; go_frame)
  have hln5 : ∀ w, (Builtin.len_ #[23] 3 #[.slice A5 more.length c5]).run Try.prog w = .ok (.int .i64 more.length) w := fun w => by simp [Builtin.len_, run_underlying Try.underlying23]; rfl
  go_loopg [16] more.length (fun n i wr => ∃ (k : Nat) (Q : List Row), k + n = more.length ∧ i = .int .i64 k ∧ IndexAt wr y Q ∧ Q.length ≤ R.length + k ∧ Mod (Ix y) w14 wr)
  case atStart => exact ⟨0, R, by omega, rfl, HY.out, by omega, Mod.refl _ _⟩
  obtain ⟨k, Q, hk, rfl, hY, hQl, hm⟩ := hrel
  obtain ⟨w15, rfl⟩ : ∃ w15, w15 = wr := ⟨_, rfl⟩
  by_cases hlt : k < more.length
  · skip
    obtain ⟨g, o, rfl, hg, hc⟩ := HA5.out (by omega)
    obtain ⟨c0, _, _, c3, c4, c5'⟩ := hc k hlt
    have hokk := HOK5.out more[k] (List.getElem_mem hlt)
    obtain ⟨x, hx⟩ : ∃ x, x = more[k] := ⟨_, rfl⟩
    rw [← hx] at c0 c3 c4 c5' hokk
    have hkl : (k : Int) < more.length := by omega
    have hM3 : Mod None_ w w15 := HM.out.trans' hm (fun k hk e => by unfold Ix at e; omega)
    replace c0 := (World.cell?_of_block (hM3.block g hg id)).trans c0
    replace c3 := (World.cell?_of_block (hM3.block g hg id)).trans c3
    replace c4 := (World.cell?_of_block (hM3.block g hg id)).trans c4
    replace c5' := (World.cell?_of_block (hM3.block g hg id)).trans c5'
    have hY3 := hY.drew
    have hm3 := hm.drew
    have HK := hide hk
    clear hc hx hM3 hY hm hk
    obtain ⟨hxk, _, _, hxd, hxi⟩ := hokk
    go_wp2_with fail
    refine region_stw_tail 18 (by kernel_rfl) (by kernel_rfl) ?_
    rintro w16 hw16
    rw [← hw16] at hY3 hm3
    have c0' : w16.cell? ⟨g, o + k * 6, none⟩ = some (.int .i64 x.kind) := by rw [hw16]; exact c0
    have c3' : w16.cell? ⟨g, o + k * 6 + 3, none⟩ = some (.int .i64 x.dir) := by rw [hw16]; exact c3
    have c4' : w16.cell? ⟨g, o + k * 6 + 4, none⟩ = some (.string x.name) := by rw [hw16]; exact c4
    have c5'' : w16.cell? ⟨g, o + k * 6 + 5, none⟩ = some (.int .i64 x.ino) := by rw [hw16]; exact c5'
    clear hw16 c0 c3 c4 c5'
    simp only [List.take_succ_cons, List.take_zero, List.drop_succ_cons, List.drop_zero]
    repeat (first | (refine stw_step (fun K hK => ?_); go_simp; refine hK _ ?_; clear hK K) | (refine stw_step (fun K hK => ?_); go_simp; refine ⟨_, ino_left _ _ (by assumption), hK _ ?_⟩; clear hK K))
    refine stw_nil ?_
    go_wp2_with fail
    refine (put_any w16 y Q (inoOf x.dir) x.name (inoOf x.ino) (by omega) hY3).mono ?_
    rintro e w17 ⟨rfl, hm4, hY4⟩
    have hm5 := hm3.trans hm4
    have hQ4 := putRows_length Q (inoOf x.dir) x.name (inoOf x.ino)
    have hgy : ¬ Ix y g := by unfold Ix; omega
    replace c0' := (World.cell?_of_block (hm4.block g (block_lt_of_cell c0') hgy)).trans c0'
    replace c3' := (World.cell?_of_block (hm4.block g (block_lt_of_cell c3') hgy)).trans c3'
    replace c4' := (World.cell?_of_block (hm4.block g (block_lt_of_cell c4') hgy)).trans c4'
    clear hm3 hm4 hY3 c5''
    by_cases hk2 : x.kind = 2
    · have ek : (x.kind == 2) = true := by rw [beq_iff_eq]; exact hk2
      clear hk2
      have hdw : (Lit.int .i64 (inoOf x.dir)).wf = true := by have := inoOf_bd x.dir; exact wf_i64 (by omega) (by omega)
      go_wp2_with fail
      have hY5 := hY4.drew
      have hm6 := hm5.drew
      clear hY4 hm5 c0'
      refine region_stw_tail 12 (by kernel_rfl) (by kernel_rfl) ?_
      rintro w18 hw18
      rw [← hw18] at hY5 hm6
      have c3 : w18.cell? ⟨g, o + k * 6 + 3, none⟩ = some (.int .i64 x.dir) := by rw [hw18]; exact c3'
      have c4 : w18.cell? ⟨g, o + k * 6 + 4, none⟩ = some (.string x.name) := by rw [hw18]; exact c4'
      clear hw18 c3' c4'
      simp only [List.take_succ_cons, List.take_zero, List.drop_succ_cons, List.drop_zero]
      repeat (first | (refine stw_step (fun K hK => ?_); go_simp; refine hK _ ?_; clear hK K) | (refine stw_step (fun K hK => ?_); go_simp; refine ⟨_, ino_left _ _ (by assumption), hK _ ?_⟩; clear hK K))
      refine stw_nil ?_
      go_wp2_with fail
      refine (drop_any w18 y _ (inoOf x.dir) x.name (by omega) hdw hY5).mono ?_
      rintro e w19 ⟨rfl, hm7, hY6⟩
      have hm8 := hm6.trans hm7
      have hQ5 := drop_length (putRows Q (inoOf x.dir) x.name (inoOf x.ino)) (inoOf x.dir) x.name
      clear hm6 hm7 hY5 c3 c4
      go_wp2
      go_roundg (gk - 1)
      case measure => have := HK.out; omega
      case rel => exact ⟨k + 1, _, by have := HK.out; omega, by go_num, hY6, by omega, hm8⟩
    · have ek : (x.kind == 2) = false := by rw [beq_eq_false_iff_ne]; exact hk2
      clear hk2
      go_wp2
      go_roundg (gk - 1)
      case measure => have := HK.out; omega
      case rel => exact ⟨k + 1, _, by have := HK.out; omega, by go_num, hY4, by omega, hm5⟩
  obtain rfl : k = more.length := by omega
  have hkl : ¬ (more.length : Int) < more.length := by omega
  have hI := HI.out.mod hm (fun k _ h e => by unfold Ix at e; omega)
  have hM := HM.out.trans' hm (fun k hk e => by unfold Ix at e; omega)
  have hDk := HDK.out.mod hm (fun k _ _ e => by unfold Ix at e; omega)
  have hAn := (HAN.out.mono (T := fun g => h6 ≤ g) (fun k h => by omega)).mod hm (fun k h e => by unfold Ix at e; omega)
  have hBn := (HBN.out.mono (T := fun g => h7 ≤ g) (fun k h => by omega)).mod hm (fun k h e => by unfold Ix at e; omega)
  have hAg := HAG.out.mod hm (fun k h e => by unfold Ix at e; omega)
  clear hm HI HY HM HDK HAN HBN HAG hlt hk
  go_wp2_with fail
  refine (clear_any w15 y Q d (by omega) hwd hY).mono ?_
  rintro e w16 ⟨rfl, hY2, hm⟩
  replace hI := hI.mod hm (fun k _ h e => by first | omega | (unfold Ix at *; omega))
  replace hM := hM.trans' hm (fun k hk e => by first | exact e.elim | (unfold Ix at e; omega) | omega)
  replace hDk := hDk.mod hm (fun k _ _ e => by unfold Ix at e; omega)
  replace hAn := hAn.mod hm (fun k h e => by unfold Ix at e; omega)
  replace hBn := hBn.mod hm (fun k h e => by unfold Ix at e; omega)
  replace hAg := hAg.mod hm (fun k h e => by unfold Ix at e; omega)
  clear hm hY
  go_wp2_with fail
  go_loopg [17] P.length (fun n i wr => ∃ j : Nat, j + n = P.length ∧ i = .int .i64 j ∧ wr = w16)
  case atStart => exact ⟨0, by omega, rfl, rfl⟩
  obtain ⟨j, hj, rfl, rfl⟩ := hrel
  by_cases hlt : j < P.length
  · skip
    have hji : (j : Int) < P.length := by omega
    obtain ⟨g1, e1, _, _, _, x1, _, _, _⟩ := hAn.at_ (k := j) (by rw [List.length_append, HML.out]; omega)
    obtain ⟨g2, e2, _, _, _, x2, _, _, _⟩ := hBn.at_ (k := j) (by rw [List.length_append, HMLB.out]; omega)
    obtain ⟨g3, e3, _, _, hc3⟩ := hAg (by rw [HML.out]; omega)
    have x3 := hc3 _ _ (pairCells_snd PA j (by rw [HML.out]; exact hlt))
    subst e1 e2 e3
    have v1 : PA[j]'(by rw [HML.out]; exact hlt) = (⟨#[109, 97, 114, 107]⟩, -(j : Int)) := by
      have h := HPA.out
      subst h
      exact marked_at _ _ P hlt _
    have v2 : PB[j]'(by rw [HMLB.out]; exact hlt) = (⟨#[111, 116, 104, 101, 114]⟩, 1000 + (j : Int)) := by
      have h := HPB.out
      subst h
      exact marked_at _ _ P hlt _
    rw [List.getElem_append_left (by rw [HML.out]; exact hlt), v1] at x1
    rw [List.getElem_append_left (by rw [HMLB.out]; exact hlt), v2] at x2
    rw [v1] at x3
    dsimp only at x1 x2 x3
    have q1 : ((-(j : Int)) != -(j : Int)) = false := by simp
    have q2 : ((1000 + (j : Int)) != 1000 + (j : Int)) = false := by simp
    have hj1 : (j : Int) < (P.length : Int) + 1 := by omega
    clear v1 v2 hc3
    go_wp2_with fail
    go_roundg (gk - 1)
    case measure => omega
    case rel => exact ⟨j + 1, by omega, by go_num, rfl⟩
  obtain rfl : j = P.length := by omega
  have hji3 : ¬ (P.length : Int) < P.length := by omega
  have hlnY := len_any wr y (clearRows Q d) d hwd hY2
  rw [cntDir_clear] at hlnY
  have HLY := hide hlnY
  have HLS := hide (list_dents wr b R d (by omega) hwd hI)
  have hcd : cntDir R d = P.length := by rw [HP.out, listPairs_length]
  have HCD := hide hcd
  clear hcd hlnY hlt hj hAn hBn hAg hY2
  go_wp2_with fail
  refine Calls.mono HLY.out ?_
  rintro e w17 ⟨rfl, rfl⟩
  go_wp2_with fail
  refine Calls.mono HLS.out ?_
  rintro e w18 ⟨v18, rfl, hD18, hm⟩
  rw [← HP.out] at hD18
  replace hI := hI.kept hm
  replace hM := hM.trans hm
  replace hDk := hDk.mod hm (fun _ _ _ f => f)
  clear hm HLY HLS
  go_wp2_with fail
  refine (same_any w18 _ _ _ _ _ _ hD18 hDk.dents).mono ?_
  rw [decide_eq_true (rfl : P = P)]
  rintro e w19 ⟨rfl, hm⟩
  replace hI := hI.kept hm
  replace hM := hM.trans hm
  have hlnX := len_any w19 b R d hwd hI
  rw [HCD.out] at hlnX
  have HLX := hide hlnX
  have HM := hide hM
  clear hm hDk hD18 hlnX hI hM
  go_wp2_with fail
  refine Calls.mono HLX.out ?_
  rintro e w20 ⟨rfl, rfl⟩
  clear HLX
  go_wp2
  go_ret
  exact ⟨by simp, HM.out⟩
end Go.Proofs.Ytmamdacmpikdbaa

