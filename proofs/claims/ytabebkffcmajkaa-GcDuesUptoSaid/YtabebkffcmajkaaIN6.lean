import Derived.Test.YtabebkffcmajkaaIN5
import Derived.Test.YtabebkffcmajkaaMx4
import Derived.IntWalk
/-! Walk: steps. -/
namespace Go.Proofs.Ytabebkffcmajkaa
open Go.RowKit Go.Maps Go.Shelf
attribute [local go_sem] quietV loudUpon Oper.semAt_some

/-- a run that no sum over overflows -/
structure Tame (r : RunD) : Prop where
  off : 0 ≤ r.off
  page : 0 ≤ r.page
  count : 0 ≤ r.count
  most : r.count ≤ 512
  offs : r.off + r.count ≤ 100000
  pages : r.page + r.count ≤ 100000
def cut16 (c : Int) : Int := if 16 < c then 16 else c
def pieces : Nat → RunD → List RunD
  | 0, _ => []
  | k + 1, r => if r.count ≤ 0 then [] else ⟨r.off, r.page, cut16 r.count⟩ :: pieces k ⟨r.off + cut16 r.count, r.page + cut16 r.count, r.count - cut16 r.count⟩
theorem cut16_pos {c : Int} (h : 0 < c) : 0 < cut16 c ∧ cut16 c ≤ c := by unfold cut16; split <;> omega
theorem pieces_fuel : ∀ (k j : Nat) (r : RunD), r.count.toNat ≤ k → r.count.toNat ≤ j → pieces k r = pieces j r := by
  intro k
  induction k with
  | zero =>
    intro j r h h2
    cases j with
    | zero => rfl
    | succ j => unfold pieces; rw [if_pos (by omega)]
  | succ k ih =>
    intro j r h h2
    by_cases h0 : r.count ≤ 0
    · cases j with
      | zero => unfold pieces; rw [if_pos h0]
      | succ j => unfold pieces; rw [if_pos h0, if_pos h0]
    · have hc := cut16_pos (c := r.count) (by omega)
      cases j with
      | zero => omega
      | succ j =>
        unfold pieces
        rw [if_neg h0, if_neg h0, ih j _ (by show (r.count - cut16 r.count).toNat ≤ k; omega) (by show (r.count - cut16 r.count).toNat ≤ j; omega)]
def piecesOf (r : RunD) : List RunD := pieces r.count.toNat r
def nextRun (r : RunD) : RunD := ⟨r.off + cut16 r.count, r.page + cut16 r.count, r.count - cut16 r.count⟩
theorem piecesOf_none {r : RunD} (h : ¬ 0 < r.count) : piecesOf r = [] := by unfold piecesOf; rw [show r.count.toNat = 0 by omega]; rfl
theorem piecesOf_some {r : RunD} (h : 0 < r.count) : piecesOf r = ⟨r.off, r.page, cut16 r.count⟩ :: piecesOf (nextRun r) := by
  have hc := cut16_pos h
  obtain ⟨j, hj⟩ : ∃ j, r.count.toNat = j + 1 := ⟨r.count.toNat - 1, by omega⟩
  unfold piecesOf nextRun
  rw [hj]
  conv => lhs; unfold pieces
  rw [if_neg (by omega), pieces_fuel j (r.count - cut16 r.count).toNat _ (by show (r.count - cut16 r.count).toNat ≤ j; omega) (Nat.le_refl _)]
theorem pieces_length : ∀ (k : Nat) (r : RunD), (pieces k r).length ≤ k
  | 0, _ => by simp [pieces]
  | k + 1, r => by
    unfold pieces
    split
    · simp
    · have := pieces_length k ⟨r.off + cut16 r.count, r.page + cut16 r.count, r.count - cut16 r.count⟩
      simp only [List.length_cons]; omega
theorem Tame.next {r : RunD} (h : Tame r) (h0 : 0 < r.count) : Tame (nextRun r) := by
  have hc := cut16_pos h0
  obtain ⟨h1, h2, h3, h4, h5, h6⟩ := h
  unfold nextRun
  exact ⟨by show 0 ≤ r.off + cut16 r.count; omega, by show 0 ≤ r.page + cut16 r.count; omega, by show 0 ≤ r.count - cut16 r.count; omega, by show r.count - cut16 r.count ≤ 512; omega,
    by show r.off + cut16 r.count + (r.count - cut16 r.count) ≤ 100000; omega, by show r.page + cut16 r.count + (r.count - cut16 r.count) ≤ 100000; omega⟩
def runSteps (z : Int) (r : RunD) : List StepD := (piecesOf r).map fun p => .write p z
theorem runSteps_length (z : Int) {r : RunD} (h : Tame r) : (runSteps z r).length ≤ 512 := by
  have := pieces_length r.count.toNat r
  have := h.most
  have := h.count
  unfold runSteps piecesOf; rw [List.length_map]; omega
/-- the steps that a node's map means -/
def mapSteps (n : NodeD) : List StepD := n.map.flatMap (runSteps n.size)
def sizeSteps (n : NodeD) : List StepD := if mapSteps n = [] ∧ 0 < n.size then [.resize n.size] else mapSteps n
def addOf (p : ByteArray × Int) : StepD := .add p.1 p.2
def stepsOf (n : NodeD) : List StepD := sizeSteps n ++ n.names.map addOf
theorem oneStep : ∀ (s : StepD), ∀ u ∈ encStep s, u.oneCell' = true := by
  intro s u hu
  simp only [encStep, List.mem_singleton] at hu
  subst hu; cases s <;> rfl
theorem infoStep : (Try.prog.info? 43).map (fun i => (i.zero, i.size, i.bytes)) = some (some .nilIface, 1, 16) := by kernel_rfl

theorem own_ne {w : World} {base sz n : Nat} {e : TypeId} {v : Value} {xs : List Value} (h : w.ownsRow base e sz v n xs) {m : Nat} {t : TypeId} {cs : Array Value} (hb : Blk w m t cs) (hne : t ≠ e) {g : Nat} (hg : v.ownBlock = some g) : m ≠ g := by
  rintro rfl
  obtain ⟨_, cur, hh⟩ := own_blk h hg
  rw [hb] at hh
  cases hh
  exact hne rfl
theorem piece_eq {z : Int} {K T : List StepD} {r : RunD} (h : K ++ runSteps z r = T) (h0 : 0 < r.count) : (K ++ [.write ⟨r.off, r.page, cut16 r.count⟩ z]) ++ runSteps z (nextRun r) = T := by
  rw [← h]; unfold runSteps; rw [piecesOf_some h0]; simp
theorem piece_end {z : Int} {K T : List StepD} {r : RunD} (h : K ++ runSteps z r = T) (h0 : ¬ 0 < r.count) : K = T := by
  rw [← h]; unfold runSteps; rw [piecesOf_none h0]; simp
theorem steps_snoc (n : NodeD) {j : Nat} (hj : j < n.map.length) : (n.map.take (j + 1)).flatMap (runSteps n.size) = (n.map.take j).flatMap (runSteps n.size) ++ runSteps n.size n.map[j] := by
  rw [List.take_succ_eq_append_getElem hj, List.flatMap_append]; congr 1; simp

set_option maxRecDepth 100000 in
set_option maxHeartbeats 8000000 in
theorem steps_any (w : World) (n : NodeD) (vm vn vl : Value) (h : NodeAt w n vm vn vl) (s : Nat) (kd : Int) (tp ip : Value) (bs : Blk w s 55 #[.int .i64 kd, .int .i64 n.size, tp, ip]) (hmap : n.map.length ≤ 512) (htame : ∀ r ∈ n.map, Tame r) :
    Calls Try.prog 21 #[.pointer (some ⟨s, 0, none⟩), .agg (nodeC n vm vn vl)] w fun e w' => ∃ v, e = .returned v ∧ w'.ownsRow w.heap.size 43 1 v (stepsOf n).length (rowOf encStep (stepsOf n)) ∧ Mod None_ w w' := by
  obtain ⟨An, cn, rfl, hcn1, hcn2, _⟩ := id h.names
  obtain ⟨Am, cm, rfl, hcm1, hcm2, hml, _, _⟩ := id h.map
  have HN := hide h
  have hnl := h.nlen
  have HT := hide htame
  clear h htame
  have hln : ∀ w, (Builtin.len_ #[23] 3 #[.slice An n.names.length cn]).run Try.prog w = .ok (.int .i64 n.names.length) w := fun w => by simp [Builtin.len_, run_underlying Try.underlying23]; rfl
  have hlm : ∀ w, (Builtin.len_ #[22] 3 #[.slice Am n.map.length cm]).run Try.prog w = .ok (.int .i64 n.map.length) w := fun w => by simp [Builtin.len_, run_underlying Try.underlying22]; rfl
  have hll : ∀ w A (n c : Nat), (Builtin.len_ #[40] 3 #[.slice A n c]).run Try.prog w = .ok (.int .i64 n) w := fun w A n c => by simp [Builtin.len_, run_underlying Try.underlying40]; rfl
  unfold nodeC
  go_enter Try.func21, Try.ntmps21
  obtain ⟨m, hm⟩ : ∃ m, m = w.heap.size := ⟨_, rfl⟩
  obtain ⟨w1, hw1⟩ : ∃ w1, w1 = w.alloc (.cells (nodeC n (.slice Am n.map.length cm) (.slice An n.names.length cn) vl) 26) := ⟨_, rfl⟩
  have hM : Mod None_ w w1 := by rw [hw1]; exact (Mod.refl _ w).alloc _
  have b1 : Blk w1 m 26 (nodeC n (.slice Am n.map.length cm) (.slice An n.names.length cn) vl) := by rw [hw1, hm]; exact Blk.new w 26 _
  have hsz1 : m + 1 ≤ w1.heap.size := b1.lt
  have hgem : w.heap.size ≤ m := by omega
  have hgem2 : m ≤ w.heap.size := by omega
  have hsm : s < m := by rw [hm]; exact bs.lt
  unfold nodeC at hw1
  have HW1 := hide hw1
  have HMM := hide hm
  clear hw1 hm
  go_wp2_with fail
  rw [← HMM.out, ← HW1.out]
  clear HMM HW1
  go_loopw [14, 5] (fun s14 s5 wr => ∃ (j : Nat) (L : List StepD) (v5 : Value), v5 = s5 ∧ j ≤ n.map.length ∧ s14 = .int .i64 j ∧ L = (n.map.take j).flatMap (runSteps n.size) ∧ L.length ≤ j * 512 ∧ wr.ownsRow w1.heap.size 43 1 v5 L.length (rowOf encStep L) ∧ Mod None_ w wr ∧ w1.heap.size ≤ wr.heap.size ∧ Blk wr m 26 (nodeC n (.slice Am n.map.length cm) (.slice An n.names.length cn) vl)) (fun s14 _ _ => n.map.length - (intOf s14).toNat)
  case atStart => exact ⟨0, [], _, rfl, Nat.zero_le _, rfl, rfl, Nat.zero_le _, ⟨rfl, .inl ⟨rfl, rfl⟩⟩, hM, Nat.le_refl _, b1⟩
  clear b1 hM
  obtain ⟨j, L, v5, rfl, hj, rfl, hL, hLl, hown, hM, hsz, b1⟩ := hrel
  by_cases hlt : j < n.map.length
  · have hji : (j : Int) < n.map.length := by omega
    have hsn := steps_snoc n hlt
    have hcell := (HN.out.kept hM).map.list
    obtain ⟨_, _, hcv, _, _, hcell⟩ := hcell
    simp only [Value.slice.injEq, true_and] at hcv
    obtain ⟨rfl, rfl⟩ := hcv
    obtain ⟨g, o, rfl, hg, hcell⟩ := hcell (by omega)
    have x0 : wr.cell? ⟨g, o + j * 3, none⟩ = some (.int .i64 n.map[j].off) := hcell j hlt 0 _ rfl
    have x1 : wr.cell? ⟨g, o + j * 3 + 1, none⟩ = some (.int .i64 n.map[j].page) := hcell j hlt 1 _ rfl
    have x2 : wr.cell? ⟨g, o + j * 3 + 2, none⟩ = some (.int .i64 n.map[j].count) := hcell j hlt 2 _ rfl
    have htx := HT.out _ (List.getElem_mem hlt)
    obtain ⟨x, hx⟩ : ∃ x, x = n.map[j] := ⟨_, rfl⟩
    rw [← hx] at x0 x1 x2 hsn htx
    rw [← hL] at hsn
    have hsl := runSteps_length n.size htx
    obtain ⟨ma, hma⟩ : ∃ k, k = wr.heap.size := ⟨_, rfl⟩
    obtain ⟨wa, hwa⟩ : ∃ wa, wa = wr.alloc (.cells #[.int .i64 x.off, .int .i64 x.page, .int .i64 x.count] 51) := ⟨_, rfl⟩
    have hmwa : Mod None_ wr wa := by rw [hwa]; exact (Mod.refl _ wr).alloc _
    have bx : Blk wa ma 51 #[.int .i64 x.off, .int .i64 x.page, .int .i64 x.count] := by rw [hwa, hma]; exact Blk.new wr 51 _
    have hmam : m < ma := by rw [hma]; exact b1.lt
    have hama : w1.heap.size ≤ ma := by rw [hma]; exact hsz
    replace b1 := b1.mod hmwa (by first | exact id | omega | (unfold Ix; omega) | (unfold LateS Ix; omega))
    replace hM := hM.trans hmwa
    replace hown := own_mod hown hmwa (fun _ _ f => f)
    replace hsz : w1.heap.size ≤ wa.heap.size := Nat.le_trans hsz hmwa.size
    have HWA := hide hwa
    have HMA := hide hma
    have HSN := hide hsn
    have HX := hide hx
    clear hwa hma hmwa hsn hx hcell hL
    go_wp2_with fail
    rw [← HMA.out, ← HWA.out]
    clear HMA HWA x0 x1 x2
    go_loopw [5] (fun s5 wv => ∃ (r : RunD) (K : List StepD) (v6 : Value), v6 = s5 ∧ Blk wv ma 51 #[.int .i64 r.off, .int .i64 r.page, .int .i64 r.count] ∧ Tame r ∧ K ++ runSteps n.size r = L ++ runSteps n.size x ∧ wv.ownsRow w1.heap.size 43 1 v6 K.length (rowOf encStep K) ∧ Mod None_ w wv ∧ w1.heap.size ≤ wv.heap.size ∧ Blk wv m 26 (nodeC n (.slice (some ⟨g, o, none⟩) n.map.length cm) (.slice An n.names.length cn) vl)) (fun _ wv => (intOf ((wv.cell? ⟨ma, 2, none⟩).getD (.int .i64 0))).toNat)
    case atStart => exact ⟨x, L, _, rfl, bx, htx, rfl, hown, hM, hsz, b1⟩
    clear bx hown hM hsz b1
    obtain ⟨r, K, v6, rfl, bx, htr, hK, hown, hM, hsz, b1⟩ := hrel
    have hKl : K.length ≤ j * 512 + 512 := by
      have := congrArg List.length hK
      simp only [List.length_append] at this
      omega
    have HKQ := hide hK
    clear hK
    have x2 : wr.cell? ⟨ma, 2, none⟩ = some (.int .i64 r.count) := bx.cell 2
    by_cases hr0 : 0 < r.count
    · skip
      have hcc := cut16_pos hr0
      obtain ⟨c, hc⟩ : ∃ c, c = cut16 r.count := ⟨_, rfl⟩
      have hmin : min r.count 16 = c := by rw [hc]; unfold cut16; split <;> omega
      have hpe := piece_eq HKQ.out hr0
      have hnt := htr.next hr0
      rw [← hc] at hpe hcc
      obtain ⟨t1, t2, t3, t4, t5, t6⟩ := htr
      have x0 : wr.cell? ⟨ma, 0, none⟩ = some (.int .i64 r.off) := bx.cell 0
      have x1 : wr.cell? ⟨ma, 1, none⟩ = some (.int .i64 r.page) := bx.cell 1
      have HC := hide hc
      have HMIN := hide hmin
      have HPE := hide hpe
      have HNT := hide hnt
      clear hc hmin hpe hnt
      have y2 : (wr.alloc (.cells #[.int .i64 r.off, .int .i64 r.page, .int .i64 r.count] 51)).cell? ⟨ma, 2, none⟩ = some (.int .i64 r.count) := (bx.alloc (.cells #[.int .i64 r.off, .int .i64 r.page, .int .i64 r.count] 51)).cell 2
      go_wp2_with fail
      rw [HMIN.out]
      obtain ⟨mb, hmb⟩ : ∃ k, k = wr.heap.size := ⟨_, rfl⟩
      obtain ⟨wb, hwb⟩ : ∃ wb, wb = wr.alloc (.cells #[.int .i64 r.off, .int .i64 r.page, .int .i64 c] 51) := ⟨_, rfl⟩
      rw [← hmb, ← hwb]
      have hmwb : Mod None_ wr wb := by rw [hwb]; exact (Mod.refl _ wr).alloc _
      have bp : Blk wb mb 51 #[.int .i64 r.off, .int .i64 r.page, .int .i64 c] := by rw [hwb, hmb]; exact Blk.new wr 51 _
      have hltmb : ma < mb := by rw [hmb]; exact bx.lt
      replace b1 := b1.mod hmwb (by first | exact id | omega | (unfold Ix; omega) | (unfold LateS Ix; omega))
      replace bx := bx.mod hmwb (by first | exact id | omega | (unfold Ix; omega) | (unfold LateS Ix; omega))
      replace hM := hM.trans hmwb
      replace hown := own_mod hown hmwb (fun _ _ f => f)
      replace hsz : w1.heap.size ≤ wb.heap.size := Nat.le_trans hsz hmwb.size
      have bs2 : Blk wb s 55 #[.int .i64 kd, .int .i64 n.size, tp, ip] := bs.mod hM id
      have X2 := hide x2
      clear hmb hwb hmwb x0 x1 x2 y2
      refine region_mxw [(true, 0), (true, 1), (true, 2), (true, 3), (true, 4), (true, 5), (true, 6), (true, 7), (false, 8), (false, 9), (true, 10)] (fun w' => Blk w' mb 51 #[.int .i64 r.off, .int .i64 r.page, .int .i64 c] ∧ Blk w' s 55 #[.int .i64 kd, .int .i64 n.size, tp, ip]) (by kernel_rfl) (by kernel_rfl) ?_
      rintro w3 hw3
      have hm3 : Mod None_ wb w3 := by rw [hw3]; exact (Mod.refl _ wb).drew
      replace b1 := b1.mod hm3 (by first | exact id | omega | (unfold Ix; omega) | (unfold LateS Ix; omega))
      replace bx := bx.mod hm3 (by first | exact id | omega | (unfold Ix; omega) | (unfold LateS Ix; omega))
      replace bp := bp.mod hm3 (by first | exact id | omega | (unfold Ix; omega) | (unfold LateS Ix; omega))
      replace bs2 := bs2.mod hm3 (by first | exact id | omega | (unfold Ix; omega) | (unfold LateS Ix; omega))
      replace hM := hM.trans hm3
      replace hown := own_mod hown hm3 (fun _ _ f => f)
      replace hsz : w1.heap.size ≤ w3.heap.size := Nat.le_trans hsz hm3.size
      clear hw3 hm3
      refine ⟨⟨bp, bs2⟩, ?_⟩
      iterate 8 (refine mxw_quiet rfl (fun w' i1 KK hKK => by have i10 := i1.1.cell 0; have i11 := i1.1.cell 1; have i12 := i1.1.cell 2; have i20 := i1.2.cell 1; (try go_simp); exact hKK) ?_; try go_frame)
      refine mxw_loud rfl (fun KK hKK => ?_)
      go_simp
      refine ⟨⟨bp.alloc _, bs2.alloc _⟩, hKK _ _ ?_⟩
      clear hKK KK
      try go_frame
      refine mxw_append_row encStep 40 43 .nilIface 1 16 Try.underlying40 infoStep rfl (by decide) (fun _ => rfl) oneStep rfl rfl (.tmp 26) (.tmp 34) rfl w3 w1.heap.size v6 K (.write ⟨r.off, r.page, c⟩ n.size) rfl rfl w3.heap.size rfl rfl hown hsz (by unfold maxLen; omega) (by omega) ?_
      intro v8 w8 hown8 hm8 hat8
      replace bx := bx.mod hm8 (fun e => own_ne hown bx (by decide) e.symm rfl)
      replace bp := bp.mod hm8 (fun e => own_ne hown bp (by decide) e.symm rfl)
      replace bs2 := bs2.mod hm8 (fun e => own_ne hown bs2 (by decide) e.symm rfl)
      replace b1 := b1.mod hm8 (fun e => own_ne hown b1 (by decide) e.symm rfl)
      replace hM := hM.trans' hm8 (fun k hk e => by have := (own_blk hown e.symm).1; omega)
      replace hsz : w1.heap.size ≤ w8.heap.size := Nat.le_trans hsz hm8.size
      clear hown hm8 hat8
      refine ⟨⟨bp, bs2⟩, ?_⟩
      try go_frame
      iterate 1 (refine mxw_quiet rfl (fun w' i1 KK hKK => by (try go_simp); exact hKK) ?_; try go_frame)
      refine mxw_nil ?_
      go_wp2_with fail
      have e1 : IntKind.i64.wrap (r.off + c) = r.off + c := IntWalk.i64_in _ (by omega)
      have e2 : IntKind.i64.wrap (r.page + c) = r.page + c := IntWalk.i64_in _ (by omega)
      have e3 : IntKind.i64.wrap (r.count - c) = r.count - c := IntWalk.i64_in _ (by omega)
      refine region_jxw [(true, 0), (true, 1), (true, 2), (true, 3), (true, 4), (true, 5), (true, 6), (true, 7), (true, 8), (true, 9), (true, 10), (true, 11), (true, 12), (true, 13), (true, 14), (true, 15), (false, 16), (true, 17), (false, 18), (true, 19), (false, 20)] [16, 18, 20] (fun w' => Blk w' mb 51 #[.int .i64 r.off, .int .i64 r.page, .int .i64 c])
        (fun d w' => (d = 16 → w'.cell? ⟨ma, 0, none⟩ = some (.int .i64 r.off)) ∧ (d = 18 → w'.cell? ⟨ma, 1, none⟩ = some (.int .i64 r.page)) ∧ (d = 20 → w'.cell? ⟨ma, 2, none⟩ = some (.int .i64 r.count))) (by kernel_rfl) (by kernel_rfl) ?_
      rintro w9 hw9
      have hm9 : Mod None_ w8 w9 := by rw [hw9]; exact (Mod.refl _ w8).drew
      replace b1 := b1.mod hm9 (by first | exact id | omega | (unfold Ix; omega) | (unfold LateS Ix; omega))
      replace bx := bx.mod hm9 (by first | exact id | omega | (unfold Ix; omega) | (unfold LateS Ix; omega))
      replace bp := bp.mod hm9 (by first | exact id | omega | (unfold Ix; omega) | (unfold LateS Ix; omega))
      replace hM := hM.trans hm9
      replace hown8 := own_mod hown8 hm9 (fun _ _ f => f)
      replace hsz : w1.heap.size ≤ w9.heap.size := Nat.le_trans hsz hm9.size
      clear hw9 hm9 bs2
      refine ⟨bp, fun d _ => ⟨fun _ => bx.cell 0, fun _ => bx.cell 1, fun _ => bx.cell 2⟩, ?_⟩
      refine jxw_quiet rfl rfl [] (by kernel_rfl) (fun w' i1 i2 KK hKK => by have i10 := i1.cell 0; have i11 := i1.cell 1; have i12 := i1.cell 2; (try go_simp); exact hKK) ?_
      try go_frame
      refine jxw_quiet rfl rfl [16] (by kernel_rfl) (fun w' i1 i2 KK hKK => by have i10 := i1.cell 0; have i11 := i1.cell 1; have i12 := i1.cell 2; have j16 := (i2 16 (by simp)).1 rfl; (try go_simp); exact hKK) ?_
      try go_frame
      refine jxw_quiet rfl rfl [] (by kernel_rfl) (fun w' i1 i2 KK hKK => by have i10 := i1.cell 0; have i11 := i1.cell 1; have i12 := i1.cell 2; (try go_simp); exact hKK) ?_
      try go_frame
      refine jxw_quiet rfl rfl [] (by kernel_rfl) (fun w' i1 i2 KK hKK => by have i10 := i1.cell 0; have i11 := i1.cell 1; have i12 := i1.cell 2; (try go_simp); exact hKK) ?_
      try go_frame
      refine jxw_quiet rfl rfl [] (by kernel_rfl) (fun w' i1 i2 KK hKK => by have i10 := i1.cell 0; have i11 := i1.cell 1; have i12 := i1.cell 2; (try go_simp); exact hKK) ?_
      try go_frame
      refine jxw_quiet rfl rfl [] (by kernel_rfl) (fun w' i1 i2 KK hKK => by have i10 := i1.cell 0; have i11 := i1.cell 1; have i12 := i1.cell 2; (try go_simp); exact hKK) ?_
      try go_frame
      refine jxw_quiet rfl rfl [18] (by kernel_rfl) (fun w' i1 i2 KK hKK => by have i10 := i1.cell 0; have i11 := i1.cell 1; have i12 := i1.cell 2; have j18 := (i2 18 (by simp)).2.1 rfl; (try go_simp); exact hKK) ?_
      try go_frame
      refine jxw_quiet rfl rfl [] (by kernel_rfl) (fun w' i1 i2 KK hKK => by have i10 := i1.cell 0; have i11 := i1.cell 1; have i12 := i1.cell 2; (try go_simp); exact hKK) ?_
      try go_frame
      refine jxw_quiet rfl rfl [] (by kernel_rfl) (fun w' i1 i2 KK hKK => by have i10 := i1.cell 0; have i11 := i1.cell 1; have i12 := i1.cell 2; (try go_simp); exact hKK) ?_
      try go_frame
      refine jxw_quiet rfl rfl [] (by kernel_rfl) (fun w' i1 i2 KK hKK => by have i10 := i1.cell 0; have i11 := i1.cell 1; have i12 := i1.cell 2; (try go_simp); exact hKK) ?_
      try go_frame
      refine jxw_quiet rfl rfl [] (by kernel_rfl) (fun w' i1 i2 KK hKK => by have i10 := i1.cell 0; have i11 := i1.cell 1; have i12 := i1.cell 2; (try go_simp); exact hKK) ?_
      try go_frame
      refine jxw_quiet rfl rfl [20] (by kernel_rfl) (fun w' i1 i2 KK hKK => by have i10 := i1.cell 0; have i11 := i1.cell 1; have i12 := i1.cell 2; have j20 := (i2 20 (by simp)).2.2 rfl; (try go_simp); exact hKK) ?_
      try go_frame
      refine jxw_quiet rfl rfl [] (by kernel_rfl) (fun w' i1 i2 KK hKK => by have i10 := i1.cell 0; have i11 := i1.cell 1; have i12 := i1.cell 2; (try go_simp); exact hKK) ?_
      try go_frame
      refine jxw_quiet rfl rfl [] (by kernel_rfl) (fun w' i1 i2 KK hKK => by have i10 := i1.cell 0; have i11 := i1.cell 1; have i12 := i1.cell 2; (try go_simp); exact hKK) ?_
      try go_frame
      refine jxw_quiet rfl rfl [] (by kernel_rfl) (fun w' i1 i2 KK hKK => by have i10 := i1.cell 0; have i11 := i1.cell 1; have i12 := i1.cell 2; (try go_simp); exact hKK) ?_
      try go_frame
      refine jxw_quiet rfl rfl [] (by kernel_rfl) (fun w' i1 i2 KK hKK => by have i10 := i1.cell 0; have i11 := i1.cell 1; have i12 := i1.cell 2; (try go_simp); exact hKK) ?_
      try go_frame
      have fz : w9.frozen? ⟨ma, 0, none⟩ = false := bx.frozen 0
      have cz := bx.cell 0
      refine jxw_loud rfl (fun KK hKK => ?_)
      go_simp
      obtain ⟨w10, hw10⟩ : ∃ w', w' = w9.setCell ⟨ma, 0, none⟩ (.int .i64 (r.off + c)) := ⟨_, rfl⟩
      have hmw10 : Mod (· = ma) w9 w10 := by rw [hw10]; exact (Mod.refl (· = ma) w9).setCell (p := ⟨ma, 0, none⟩) (.inr rfl) _
      have b0x := bx
      replace bx : Blk w10 ma 51 #[.int .i64 (r.off + c), .int .i64 r.page, .int .i64 r.count] := by rw [hw10]; exact bx.set_ 0 (.int .i64 (r.off + c))
      replace bp := bp.mod hmw10 (by omega)
      replace b1 := b1.mod hmw10 (by omega)
      replace hown8 := own_mod hown8 hmw10 (fun g hg e => own_ne hown8 (b0x) (by decide) hg e.symm)
      replace hM := hM.trans' hmw10 (fun k hk e => by omega)
      replace hsz : w1.heap.size ≤ w10.heap.size := Nat.le_trans hsz hmw10.size
      rw [← hw10]
      clear b0x hw10 hmw10 fz cz
      refine ⟨⟨bp, fun d hd hn => ⟨fun e => (hn (by simp [e])).elim, fun _ => bx.cell 1, fun _ => bx.cell 2⟩⟩, hKK _ _ ?_⟩
      clear hKK KK
      try go_frame
      refine jxw_quiet rfl rfl [] (by kernel_rfl) (fun w' i1 i2 KK hKK => by have i10 := i1.cell 0; have i11 := i1.cell 1; have i12 := i1.cell 2; (try go_simp); exact hKK) ?_
      try go_frame
      have fz : w10.frozen? ⟨ma, 1, none⟩ = false := bx.frozen 1
      have cz := bx.cell 1
      refine jxw_loud rfl (fun KK hKK => ?_)
      go_simp
      obtain ⟨w11, hw11⟩ : ∃ w', w' = w10.setCell ⟨ma, 1, none⟩ (.int .i64 (r.page + c)) := ⟨_, rfl⟩
      have hmw11 : Mod (· = ma) w10 w11 := by rw [hw11]; exact (Mod.refl (· = ma) w10).setCell (p := ⟨ma, 1, none⟩) (.inr rfl) _
      have b0x := bx
      replace bx : Blk w11 ma 51 #[.int .i64 (r.off + c), .int .i64 (r.page + c), .int .i64 r.count] := by rw [hw11]; exact bx.set_ 1 (.int .i64 (r.page + c))
      replace bp := bp.mod hmw11 (by omega)
      replace b1 := b1.mod hmw11 (by omega)
      replace hown8 := own_mod hown8 hmw11 (fun g hg e => own_ne hown8 (b0x) (by decide) hg e.symm)
      replace hM := hM.trans' hmw11 (fun k hk e => by omega)
      replace hsz : w1.heap.size ≤ w11.heap.size := Nat.le_trans hsz hmw11.size
      rw [← hw11]
      clear b0x hw11 hmw11 fz cz
      refine ⟨⟨bp, fun d hd hn => ⟨fun e => (hn (by simp [e])).elim, fun e => (hn (by simp [e])).elim, fun _ => bx.cell 2⟩⟩, hKK _ _ ?_⟩
      clear hKK KK
      try go_frame
      refine jxw_quiet rfl rfl [] (by kernel_rfl) (fun w' i1 i2 KK hKK => by have i10 := i1.cell 0; have i11 := i1.cell 1; have i12 := i1.cell 2; (try go_simp); exact hKK) ?_
      try go_frame
      have fz : w11.frozen? ⟨ma, 2, none⟩ = false := bx.frozen 2
      have cz := bx.cell 2
      refine jxw_loud rfl (fun KK hKK => ?_)
      go_simp
      obtain ⟨w12, hw12⟩ : ∃ w', w' = w11.setCell ⟨ma, 2, none⟩ (.int .i64 (r.count - c)) := ⟨_, rfl⟩
      have hmw12 : Mod (· = ma) w11 w12 := by rw [hw12]; exact (Mod.refl (· = ma) w11).setCell (p := ⟨ma, 2, none⟩) (.inr rfl) _
      have b0x := bx
      replace bx : Blk w12 ma 51 #[.int .i64 (r.off + c), .int .i64 (r.page + c), .int .i64 (r.count - c)] := by rw [hw12]; exact bx.set_ 2 (.int .i64 (r.count - c))
      replace bp := bp.mod hmw12 (by omega)
      replace b1 := b1.mod hmw12 (by omega)
      replace hown8 := own_mod hown8 hmw12 (fun g hg e => own_ne hown8 (b0x) (by decide) hg e.symm)
      replace hM := hM.trans' hmw12 (fun k hk e => by omega)
      replace hsz : w1.heap.size ≤ w12.heap.size := Nat.le_trans hsz hmw12.size
      rw [← hw12]
      clear b0x hw12 hmw12 fz cz
      refine ⟨⟨bp, fun d hd hn => ⟨fun e => (hn (by simp [e])).elim, fun e => (hn (by simp [e])).elim, fun e => (hn (by simp [e])).elim⟩⟩, hKK _ _ ?_⟩
      clear hKK KK
      try go_frame
      refine jxw_nil ?_
      go_wp2_with fail
      go_roundw
      case rel => exact ⟨nextRun r, _, _, rfl, (by unfold nextRun; rw [← HC.out]; exact bx), HNT.out, HPE.out, hown8, hM, hsz, b1⟩
      case measure =>
        have z1 := bx.cell 2
        have z2 : (w12.cell? ⟨ma, 2, none⟩) = some (.int .i64 (r.count - c)) := z1
        rw [z2, X2.out]
        simp [intOf]
        omega
    · skip
      have hke := piece_end HKQ.out hr0
      have HKE := hide hke
      clear hke
      go_wp2_with fail
      go_roundw
      case rel => exact ⟨j + 1, K, _, rfl, by omega, by simp, by rw [HKE.out, HSN.out], by omega, hown, hM, hsz, b1⟩
      case measure => simp [intOf]; omega
  · skip
    obtain rfl : j = n.map.length := by omega
    have hjn : ¬ (n.map.length : Int) < n.map.length := by omega
    rw [List.take_length] at hL
    obtain rfl : L = mapSteps n := hL
    clear hlt
    obtain ⟨A5, c5s, rfl⟩ := own_slice hown
    have bs2 : Blk wr s 55 #[.int .i64 kd, .int .i64 n.size, tp, ip] := bs.mod hM id
    have c1 : wr.cell? ⟨s, 1, none⟩ = some (.int .i64 n.size) := bs2.cell 1
    have c5 : wr.cell? ⟨m, 5, none⟩ = some (.slice An n.names.length cn) := b1.cell 5
    have hsl : (mapSteps n).length ≤ 262144 := by omega
    by_cases hcs : mapSteps n = [] ∧ 0 < n.size
    · have hss : sizeSteps n = [.resize n.size] := by unfold sizeSteps; rw [if_pos hcs]
      obtain ⟨hc1, hc2⟩ := hcs
      rw [hc1] at hown
      have hc1x := hc1
      have HSL := hide hss
      clear hss hc1 hsl
      simp only [hc1x, List.length_nil]
      have d2 : decide (0 < n.size) = true := decide_eq_true hc2
      go_wp2_with ((with_reducible refine at_slot 73 ?_); refine wpList_append_row encStep 40 43 .nilIface 1 16 Try.underlying40 infoStep rfl (by decide) (fun _ => rfl) oneStep rfl (.tmp 65) (.tmp 72) rfl wr w1.heap.size (.slice A5 0 c5s) ([] : List StepD) (.resize n.size) rfl rfl wr.heap.size rfl rfl hown hsz (by unfold maxLen; simp) (by simp) ?_; intro v8 w8 hown8 hm8 hat8
                   have b18 := b1.mod hm8 (fun e => own_ne hown b1 (by decide) e.symm rfl)
                   have hM8 := hM.trans' hm8 (fun k hk e => by have := (own_blk hown e.symm).1; omega)
                   have hz8 := Nat.le_trans hsz hm8.size
                   have c58 : w8.cell? ⟨m, 5, none⟩ = some (.slice An n.names.length cn) := b18.cell 5
                   clear hown hM hsz hm8 hat8 b1 bs2 c1 c5 b18
                   go_frame)
      have hown : w8.ownsRow w1.heap.size 43 1 v8 (sizeSteps n).length (rowOf encStep (sizeSteps n)) := by rw [HSL.out]; exact hown8
      have hM := hM8
      have hsz := hz8
      have hsl : (sizeSteps n).length ≤ 262144 := by rw [HSL.out]; simp
      clear hown8 hM8 hz8 c58
      go_loopw [77, 5] (fun s77 s5 wq => ∃ (k : Nat) (L : List StepD) (v7 : Value), v7 = s5 ∧ k ≤ n.names.length ∧ s77 = .int .i64 k ∧ L = sizeSteps n ++ (n.names.take k).map addOf ∧ L.length ≤ 262145 + k ∧ wq.ownsRow w1.heap.size 43 1 v7 L.length (rowOf encStep L) ∧ Mod None_ w wq ∧ w1.heap.size ≤ wq.heap.size) (fun s77 _ _ => n.names.length - (intOf s77).toNat)
      case atStart => exact ⟨0, sizeSteps n, _, rfl, Nat.zero_le _, rfl, by simp, by omega, hown, hM, hsz⟩
      clear hown hM hsz
      obtain ⟨k, L, v7, rfl, hk, rfl, hL, hLl, hown, hM, hsz⟩ := hrel
      by_cases hlt : k < n.names.length
      · have hki : (k : Int) < n.names.length := by omega
        have hLs : L ++ [addOf n.names[k]] = sizeSteps n ++ (n.names.take (k + 1)).map addOf := by rw [hL, List.take_succ_eq_append_getElem hlt, List.map_append, List.append_assoc]; rfl
        obtain ⟨_, _, hcv, _, _, hcell⟩ := (HN.out.kept hM).names
        simp only [Value.slice.injEq, true_and] at hcv
        obtain ⟨rfl, rfl⟩ := hcv
        obtain ⟨g, o, rfl, hg, hcell⟩ := hcell (by omega)
        have x0 : wr.cell? ⟨g, o + k * 2, none⟩ = some (.string n.names[k].1) := hcell k hlt 0 (.string n.names[k].1) rfl
        have x1 : wr.cell? ⟨g, o + k * 2 + 1, none⟩ = some (.int .i64 n.names[k].2) := hcell k hlt 1 (.int .i64 n.names[k].2) rfl
        obtain ⟨x, hx⟩ : ∃ x, x = n.names[k] := ⟨_, rfl⟩
        rw [← hx] at x0 x1 hLs
        have hma : Mod None_ wr (wr.alloc (.cells #[.string x.1, .int .i64 x.2] 49)) := (Mod.refl _ wr).alloc _
        have hown2 := own_mod hown hma (fun _ _ f => f)
        have hM2 := hM.trans hma
        have hsz2 : w1.heap.size ≤ (wr.alloc (.cells #[.string x.1, .int .i64 x.2] 49)).heap.size := Nat.le_trans hsz hma.size
        have HLS := hide hLs
        have HO2 := hide hown2
        have HM2 := hide hM2
        have HZ2 := hide hsz2
        clear hcell hx hLs hown hM hsz hma hown2 hM2 hsz2 hL
        go_wp2_with ((with_reducible refine at_slot 86 ?_); refine wpList_append_row encStep 40 43 .nilIface 1 16 Try.underlying40 infoStep rfl (by decide) (fun _ => rfl) oneStep rfl (.tmp 81) (.tmp 85) rfl (wr.alloc (.cells #[.string x.1, .int .i64 x.2] 49)) w1.heap.size v7 L (addOf x) rfl rfl (wr.heap.size + 1) (by simp) rfl HO2.out HZ2.out (by unfold maxLen; omega) (by omega) ?_; intro v8 w8 hown8 hm8 hat8
                     have hM8 := HM2.out.trans' hm8 (fun k hk e => by have := (own_blk HO2.out e.symm).1; omega)
                     have hz8 := Nat.le_trans HZ2.out hm8.size
                     have L1 := hide hown8
                     have L2 := hide hM8
                     have L3 := hide hz8
                     clear hown8 hm8 hat8 hM8 hz8
                     go_frame)
        go_roundw
        case rel => exact ⟨k + 1, _, _, rfl, by omega, by simp, HLS.out, by simp only [List.length_append, List.length_singleton]; omega, L1.out, L2.out, L3.out⟩
        case measure => simp [intOf]; omega
      · obtain rfl : k = n.names.length := by omega
        have hkn : ¬ (n.names.length : Int) < n.names.length := by omega
        rw [List.take_length] at hL
        obtain rfl : L = stepsOf n := hL
        have hown3 : wr.ownsRow w.heap.size 43 1 v7 (stepsOf n).length (rowOf encStep (stepsOf n)) := by
          refine ⟨hown.1, ?_⟩
          rcases hown.2 with h | ⟨g, cap, cur, h1, h2, h3⟩
          · exact .inl h
          · exact .inr ⟨g, cap, cur, h1, by omega, h3⟩
        have HO := hide hown3
        have HM := hide hM
        clear hown hown3 hM hlt
        go_wp2
        go_ret
        exact ⟨_, rfl, HO.out, HM.out⟩
    · have hss : sizeSteps n = mapSteps n := by unfold sizeSteps; rw [if_neg hcs]
      have HSL := hide hss
      have hd : (((mapSteps n).length : Int) == 0) = false ∨ ((((mapSteps n).length : Int) == 0) = true ∧ decide (0 < n.size) = false) := by
        by_cases h0 : mapSteps n = []
        · right
          exact ⟨by rw [h0]; rfl, decide_eq_false (fun h => hcs ⟨h0, h⟩)⟩
        · left
          have : (mapSteps n).length ≠ 0 := fun h => h0 (List.length_eq_zero_iff.1 h)
          simpa using this
      clear hss hcs
      rcases hd with d1 | ⟨d1, d2⟩
      · go_wp2_with fail
        go_loopw [77, 5] (fun s77 s5 wq => ∃ (k : Nat) (L : List StepD) (v7 : Value), v7 = s5 ∧ k ≤ n.names.length ∧ s77 = .int .i64 k ∧ L = sizeSteps n ++ (n.names.take k).map addOf ∧ L.length ≤ 262145 + k ∧ wq.ownsRow w1.heap.size 43 1 v7 L.length (rowOf encStep L) ∧ Mod None_ w wq ∧ w1.heap.size ≤ wq.heap.size) (fun s77 _ _ => n.names.length - (intOf s77).toNat)
        case atStart => exact ⟨0, sizeSteps n, _, rfl, Nat.zero_le _, rfl, by simp, by rw [HSL.out]; omega, by rw [HSL.out]; exact hown, hM, hsz⟩
        clear hown hM hsz
        obtain ⟨k, L, v7, rfl, hk, rfl, hL, hLl, hown, hM, hsz⟩ := hrel
        by_cases hlt : k < n.names.length
        · have hki : (k : Int) < n.names.length := by omega
          have hLs : L ++ [addOf n.names[k]] = sizeSteps n ++ (n.names.take (k + 1)).map addOf := by rw [hL, List.take_succ_eq_append_getElem hlt, List.map_append, List.append_assoc]; rfl
          obtain ⟨_, _, hcv, _, _, hcell⟩ := (HN.out.kept hM).names
          simp only [Value.slice.injEq, true_and] at hcv
          obtain ⟨rfl, rfl⟩ := hcv
          obtain ⟨g, o, rfl, hg, hcell⟩ := hcell (by omega)
          have x0 : wr.cell? ⟨g, o + k * 2, none⟩ = some (.string n.names[k].1) := hcell k hlt 0 (.string n.names[k].1) rfl
          have x1 : wr.cell? ⟨g, o + k * 2 + 1, none⟩ = some (.int .i64 n.names[k].2) := hcell k hlt 1 (.int .i64 n.names[k].2) rfl
          obtain ⟨x, hx⟩ : ∃ x, x = n.names[k] := ⟨_, rfl⟩
          rw [← hx] at x0 x1 hLs
          have hma : Mod None_ wr (wr.alloc (.cells #[.string x.1, .int .i64 x.2] 49)) := (Mod.refl _ wr).alloc _
          have hown2 := own_mod hown hma (fun _ _ f => f)
          have hM2 := hM.trans hma
          have hsz2 : w1.heap.size ≤ (wr.alloc (.cells #[.string x.1, .int .i64 x.2] 49)).heap.size := Nat.le_trans hsz hma.size
          have HLS := hide hLs
          have HO2 := hide hown2
          have HM2 := hide hM2
          have HZ2 := hide hsz2
          clear hcell hx hLs hown hM hsz hma hown2 hM2 hsz2 hL
          go_wp2_with ((with_reducible refine at_slot 86 ?_); refine wpList_append_row encStep 40 43 .nilIface 1 16 Try.underlying40 infoStep rfl (by decide) (fun _ => rfl) oneStep rfl (.tmp 81) (.tmp 85) rfl (wr.alloc (.cells #[.string x.1, .int .i64 x.2] 49)) w1.heap.size v7 L (addOf x) rfl rfl (wr.heap.size + 1) (by simp) rfl HO2.out HZ2.out (by unfold maxLen; omega) (by omega) ?_; intro v8 w8 hown8 hm8 hat8
                       have hM8 := HM2.out.trans' hm8 (fun k hk e => by have := (own_blk HO2.out e.symm).1; omega)
                       have hz8 := Nat.le_trans HZ2.out hm8.size
                       have L1 := hide hown8
                       have L2 := hide hM8
                       have L3 := hide hz8
                       clear hown8 hm8 hat8 hM8 hz8
                       go_frame)
          go_roundw
          case rel => exact ⟨k + 1, _, _, rfl, by omega, by simp, HLS.out, by simp only [List.length_append, List.length_singleton]; omega, L1.out, L2.out, L3.out⟩
          case measure => simp [intOf]; omega
        · obtain rfl : k = n.names.length := by omega
          have hkn : ¬ (n.names.length : Int) < n.names.length := by omega
          rw [List.take_length] at hL
          obtain rfl : L = stepsOf n := hL
          have hown3 : wr.ownsRow w.heap.size 43 1 v7 (stepsOf n).length (rowOf encStep (stepsOf n)) := by
            refine ⟨hown.1, ?_⟩
            rcases hown.2 with h | ⟨g, cap, cur, h1, h2, h3⟩
            · exact .inl h
            · exact .inr ⟨g, cap, cur, h1, by omega, h3⟩
          have HO := hide hown3
          have HM := hide hM
          clear hown hown3 hM hlt
          go_wp2
          go_ret
          exact ⟨_, rfl, HO.out, HM.out⟩
      · go_wp2_with fail
        go_loopw [77, 5] (fun s77 s5 wq => ∃ (k : Nat) (L : List StepD) (v7 : Value), v7 = s5 ∧ k ≤ n.names.length ∧ s77 = .int .i64 k ∧ L = sizeSteps n ++ (n.names.take k).map addOf ∧ L.length ≤ 262145 + k ∧ wq.ownsRow w1.heap.size 43 1 v7 L.length (rowOf encStep L) ∧ Mod None_ w wq ∧ w1.heap.size ≤ wq.heap.size) (fun s77 _ _ => n.names.length - (intOf s77).toNat)
        case atStart => exact ⟨0, sizeSteps n, _, rfl, Nat.zero_le _, rfl, by simp, by rw [HSL.out]; omega, by rw [HSL.out]; exact hown, hM, hsz⟩
        clear hown hM hsz
        obtain ⟨k, L, v7, rfl, hk, rfl, hL, hLl, hown, hM, hsz⟩ := hrel
        by_cases hlt : k < n.names.length
        · have hki : (k : Int) < n.names.length := by omega
          have hLs : L ++ [addOf n.names[k]] = sizeSteps n ++ (n.names.take (k + 1)).map addOf := by rw [hL, List.take_succ_eq_append_getElem hlt, List.map_append, List.append_assoc]; rfl
          obtain ⟨_, _, hcv, _, _, hcell⟩ := (HN.out.kept hM).names
          simp only [Value.slice.injEq, true_and] at hcv
          obtain ⟨rfl, rfl⟩ := hcv
          obtain ⟨g, o, rfl, hg, hcell⟩ := hcell (by omega)
          have x0 : wr.cell? ⟨g, o + k * 2, none⟩ = some (.string n.names[k].1) := hcell k hlt 0 (.string n.names[k].1) rfl
          have x1 : wr.cell? ⟨g, o + k * 2 + 1, none⟩ = some (.int .i64 n.names[k].2) := hcell k hlt 1 (.int .i64 n.names[k].2) rfl
          obtain ⟨x, hx⟩ : ∃ x, x = n.names[k] := ⟨_, rfl⟩
          rw [← hx] at x0 x1 hLs
          have hma : Mod None_ wr (wr.alloc (.cells #[.string x.1, .int .i64 x.2] 49)) := (Mod.refl _ wr).alloc _
          have hown2 := own_mod hown hma (fun _ _ f => f)
          have hM2 := hM.trans hma
          have hsz2 : w1.heap.size ≤ (wr.alloc (.cells #[.string x.1, .int .i64 x.2] 49)).heap.size := Nat.le_trans hsz hma.size
          have HLS := hide hLs
          have HO2 := hide hown2
          have HM2 := hide hM2
          have HZ2 := hide hsz2
          clear hcell hx hLs hown hM hsz hma hown2 hM2 hsz2 hL
          go_wp2_with ((with_reducible refine at_slot 86 ?_); refine wpList_append_row encStep 40 43 .nilIface 1 16 Try.underlying40 infoStep rfl (by decide) (fun _ => rfl) oneStep rfl (.tmp 81) (.tmp 85) rfl (wr.alloc (.cells #[.string x.1, .int .i64 x.2] 49)) w1.heap.size v7 L (addOf x) rfl rfl (wr.heap.size + 1) (by simp) rfl HO2.out HZ2.out (by unfold maxLen; omega) (by omega) ?_; intro v8 w8 hown8 hm8 hat8
                       have hM8 := HM2.out.trans' hm8 (fun k hk e => by have := (own_blk HO2.out e.symm).1; omega)
                       have hz8 := Nat.le_trans HZ2.out hm8.size
                       have L1 := hide hown8
                       have L2 := hide hM8
                       have L3 := hide hz8
                       clear hown8 hm8 hat8 hM8 hz8
                       go_frame)
          go_roundw
          case rel => exact ⟨k + 1, _, _, rfl, by omega, by simp, HLS.out, by simp only [List.length_append, List.length_singleton]; omega, L1.out, L2.out, L3.out⟩
          case measure => simp [intOf]; omega
        · obtain rfl : k = n.names.length := by omega
          have hkn : ¬ (n.names.length : Int) < n.names.length := by omega
          rw [List.take_length] at hL
          obtain rfl : L = stepsOf n := hL
          have hown3 : wr.ownsRow w.heap.size 43 1 v7 (stepsOf n).length (rowOf encStep (stepsOf n)) := by
            refine ⟨hown.1, ?_⟩
            rcases hown.2 with h | ⟨g, cap, cur, h1, h2, h3⟩
            · exact .inl h
            · exact .inr ⟨g, cap, cur, h1, by omega, h3⟩
          have HO := hide hown3
          have HM := hide hM
          clear hown hown3 hM hlt
          go_wp2
          go_ret
          exact ⟨_, rfl, HO.out, HM.out⟩
end Go.Proofs.Ytabebkffcmajkaa

