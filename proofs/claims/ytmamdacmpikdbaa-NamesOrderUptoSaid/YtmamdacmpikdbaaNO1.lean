import Derived.Test.YtmamdacmpikdbaaE2
import Derived.Test.YtmamdacmpikdbaaNK1
/-! The walk of NamesOrder. -/
namespace Go.Proofs.Ytmamdacmpikdbaa
open Go.RowKit Go.Maps

/-- the first loop: the steps with good names, the first of each name -/
def OrdRel (w : World) (ops : List OpD) (n : Nat) (l i : Value) (wr : World) : Prop :=
  ∃ k : Nat, k + n = ops.length ∧ i = .int .i64 k ∧ wr.ownsRow w.heap.size 41 6 l (uniqOps (ops.take k)).length (opCells (uniqOps (ops.take k))) ∧ Mod None_ w wr

set_option maxRecDepth 100000 in
set_option maxHeartbeats 20000000 in
theorem order_any (w : World) (v : Value) (ops : List OpD) (hO : OpsAt w v ops) :
    Calls Try.prog 6 #[v] w fun e w' => e = .returned (.bool true) ∧ Mod None_ w w' := by
  obtain ⟨i0, hi0, hz0, hsz0, hby0⟩ := info_parts info41
  obtain ⟨A, c, rfl, hol, hok, hoc⟩ := hO
  have HOK := hide hok
  have HOC := hide hoc
  clear hok hoc
  go_enter Try.func6, Try.ntmps6
  go_wp2_with fail
  refine (first_any w).mono ?_
  rintro e w1 ⟨rfl, hM1⟩
  go_wp2_with fail
  go_loopg [3, 4, 5, 6] ops.length (fun n l i again kk wr => OrdRel w ops n l i wr)
  case atStart => exact ⟨0, by omega, rfl, ⟨rfl, .inl ⟨rfl, rfl⟩⟩, hM1⟩
  case round =>
    clear hM1
    obtain ⟨k, hk, rfl, hown, hM⟩ := hrel
    by_cases hkl : k < ops.length
    · have hki : (k : Int) < ops.length := by omega
      obtain ⟨w5, rfl⟩ : ∃ w5, w5 = wr := ⟨_, rfl⟩
      obtain ⟨g, o, rfl, hg, hcc⟩ := HOC.out (by omega)
      obtain ⟨c0, c1, c2, c3, c4, c5⟩ := hcc k hkl
      have hxo := HOK.out ops[k] (List.getElem_mem hkl)
      have htk : ops.take (k + 1) = ops.take k ++ [ops[k]] := List.take_succ_eq_append_getElem hkl
      obtain ⟨x, hx⟩ : ∃ x, x = ops[k] := ⟨_, rfl⟩
      rw [← hx] at c0 c1 c2 c3 c4 c5 hxo htk
      have hus := uniqOps_snoc (ops.take k) x
      rw [← htk] at hus
      obtain ⟨L, hL⟩ : ∃ L, L = uniqOps (ops.take k) := ⟨_, rfl⟩
      rw [← hL] at hown hus
      have hLl : L.length ≤ k := by
        have := uniqOps_length (ops.take k)
        rw [List.length_take, ← hL] at this
        omega
      have hLo : ∀ y ∈ L, y.Ok := by
        rw [hL]
        exact uniqFold_mem _ _ (fun y hy => HOK.out y (List.mem_of_mem_take hy)) (by simp)
      have HUS := hide hus
      have HK := hide hk
      have HLO := hide hLo
      have hLO := own_ops hown (by omega) hLo
      obtain ⟨A2, cc2, hu, _, _, hl4⟩ := hLO
      subst hu
      have HXO := hide hxo
      obtain ⟨_, _, _, hxd, hxi⟩ := hxo
      have HL4 := hide hl4
      have HOW := hide hown
      clear hk hLo hus htk hx hL hcc hl4 hown
      go_wp2_with fail
      go_loopg [5, 6] L.length (fun n a jj wr' => ∃ j : Nat, j + n = L.length ∧ a = .bool (seenB (L.take j) x) ∧ jj = .int .i64 j ∧ Mod None_ w5 wr')
      case atStart => exact ⟨0, by omega, rfl, rfl, Mod.refl _ _⟩
      case round =>
        obtain ⟨j, hj, rfl, rfl, hm⟩ := hrel
        have hM3 : Mod None_ w wr.drew := hM.trans hm.drew
        have hm3 : Mod None_ w5 wr.drew := hm.drew
        by_cases hjl : j < L.length
        · have hji : (j : Int) < L.length := by omega
          obtain ⟨g2, o2, rfl, hg2, hc2⟩ := HL4.out (by omega)
          obtain ⟨_, _, _, d3, d4, _⟩ := hc2 j hjl
          have hyo := HLO.out L[j] (List.getElem_mem hjl)
          have htj : L.take (j + 1) = L.take j ++ [L[j]] := List.take_succ_eq_append_getElem hjl
          obtain ⟨y, hy⟩ : ∃ y, y = L[j] := ⟨_, rfl⟩
          rw [← hy] at d3 d4 hyo htj
          obtain ⟨_, _, _, hyd, _⟩ := hyo
          have hsb : seenB (L.take (j + 1)) x = (seenB (L.take j) x || decide (y.name = x.name ∧ inoOf y.dir = inoOf x.dir)) := by rw [htj, seenB_snoc]
          have HSB := hide hsb
          have HJ := hide hj
          have e3 : wr.drew.cell? ⟨g, o + k * 6 + 3, none⟩ = some (.int .i64 x.dir) := (World.cell?_of_block (hM3.block g hg id)).trans c3
          have e4 : wr.drew.cell? ⟨g, o + k * 6 + 4, none⟩ = some (.string x.name) := (World.cell?_of_block (hM3.block g hg id)).trans c4
          replace d3 := (World.cell?_of_block (hm3.block g2 hg2 id)).trans d3
          replace d4 := (World.cell?_of_block (hm3.block g2 hg2 id)).trans d4
          obtain ⟨sb, hsbv⟩ : ∃ sb, sb = seenB (L.take j) x := ⟨_, rfl⟩
          rw [← hsbv] at hsb ⊢
          have HSV := hide hsbv
          clear hy htj hsb hj hm hsbv c0 c1 c2 c3 c4 c5 hc2 hM
          cases sb with
          | true =>
            go_wp2_with fail
            refine region_stw (by kernel_rfl) (by kernel_rfl) ?_
            rintro w6 hw6
            rw [← hw6] at hm3
            clear hw6 d3 d4 e3 e4 hM3
            repeat (refine stw_step (fun K hK => ?_); go_simp; refine hK _ ?_; clear hK K)
            refine stw_nil ?_
            go_wp2_with fail
            go_roundg (gk - 1)
            case measure => have := HJ.out; omega
            case rel => exact ⟨j + 1, by have := HJ.out; omega, by rw [HSB.out, ← HSV.out]; rfl, by go_num, hm3⟩
          | false =>
            by_cases hnm : y.name = x.name
            · have en : (y.name.toList == x.name.toList) = true := by rw [hnm]; simp
              have HNM := hide hnm
              clear hnm
              by_cases hdr : inoOf y.dir = inoOf x.dir
              · have ed : (inoOf y.dir == inoOf x.dir) = true := by rw [hdr]; simp
                have HDR := hide hdr
                clear hdr
                go_wp2_with fail
                refine region_stw (by kernel_rfl) (by kernel_rfl) ?_
                rintro w6 hw6
                rw [← hw6] at hm3 d3 d4 e3 e4
                clear hw6 hM3
                repeat (first | (refine stw_step (fun K hK => ?_); go_simp; refine hK _ ?_; clear hK K) | (refine stw_step (fun K hK => ?_); go_simp; refine ⟨_, ino_left _ _ (by assumption), hK _ ?_⟩; clear hK K))
                refine stw_nil ?_
                clear ed en
                go_wp2_with fail
                go_roundg (gk - 1)
                case measure => have := HJ.out; omega
                case rel => exact ⟨j + 1, by have := HJ.out; omega, by rw [HSB.out, ← HSV.out, decide_eq_true (⟨HNM.out, HDR.out⟩ : _ ∧ _)]; rfl, by go_num, hm3⟩
              · have ed : (inoOf y.dir == inoOf x.dir) = false := by rw [beq_eq_false_iff_ne]; exact hdr
                have HDR := hide hdr
                clear hdr
                go_wp2_with fail
                refine region_stw (by kernel_rfl) (by kernel_rfl) ?_
                rintro w6 hw6
                rw [← hw6] at hm3 d3 d4 e3 e4
                clear hw6 hM3
                repeat (first | (refine stw_step (fun K hK => ?_); go_simp; refine hK _ ?_; clear hK K) | (refine stw_step (fun K hK => ?_); go_simp; refine ⟨_, ino_left _ _ (by assumption), hK _ ?_⟩; clear hK K))
                refine stw_nil ?_
                clear ed en
                go_wp2_with fail
                go_roundg (gk - 1)
                case measure => have := HJ.out; omega
                case rel => exact ⟨j + 1, by have := HJ.out; omega, by rw [HSB.out, ← HSV.out, decide_eq_false (fun e : _ ∧ _ => HDR.out e.2)]; rfl, by go_num, hm3⟩
            · have en : (y.name.toList == x.name.toList) = false := by
                rw [beq_eq_false_iff_ne]
                intro e
                rw [Go.Lib.toList_data, Go.Lib.toList_data] at e
                exact hnm (Go.WideShapes.bytes_inj e)
              have HNM := hide hnm
              clear hnm
              go_wp2_with fail
              refine region_stw (by kernel_rfl) (by kernel_rfl) ?_
              rintro w6 hw6
              rw [← hw6] at hm3 d3 d4 e3 e4
              clear hw6 hM3
              repeat (refine stw_step (fun K hK => ?_); go_simp; refine hK _ ?_; clear hK K)
              refine stw_nil ?_
              clear en
              go_wp2_with fail
              go_roundg (gk - 1)
              case measure => have := HJ.out; omega
              case rel => exact ⟨j + 1, by have := HJ.out; omega, by rw [HSB.out, ← HSV.out, decide_eq_false (fun e : _ ∧ _ => HNM.out e.1)]; rfl, by go_num, hm3⟩
        · obtain rfl : j = L.length := by omega
          have hji : ¬ (L.length : Int) < L.length := by omega
          have htl : L.take L.length = L := List.take_of_length_le (Nat.le_refl _)
          rw [htl]
          have hown := own_mod HOW.out hm (fun _ _ f => f)
          have hM6 := hM.trans hm
          have hb6 := hM6.block g hg id
          replace c0 := (World.cell?_of_block hb6).trans c0
          replace c1 := (World.cell?_of_block hb6).trans c1
          replace c2 := (World.cell?_of_block hb6).trans c2
          replace c3 := (World.cell?_of_block hb6).trans c3
          replace c4 := (World.cell?_of_block hb6).trans c4
          replace c5 := (World.cell?_of_block hb6).trans c5
          obtain ⟨sb, hsbv⟩ : ∃ sb, sb = seenB L x := ⟨_, rfl⟩
          rw [← hsbv]
          have HSV := hide hsbv
          have hbase := hM6.size
          clear hsbv hj htl hM3 hm3 hM hm hb6
          cases sb with
          | true =>
            have hsame : uniqOps (ops.take (k + 1)) = L := by rw [HUS.out]; unfold uniqStep; rw [if_neg (by rw [← HSV.out]; simp)]
            have HSM := hide hsame
            have HOWN := hide hown
            clear hsame hown
            go_wp2_with fail
            go_roundg (ops.length - k - 1)
            case measure => have := HK.out; omega
            case rel => exact ⟨k + 1, by have := HK.out; omega, by go_num, by rw [HSM.out]; exact HOWN.out, hM6⟩
          | false =>
            cases hgd : goodName x.name with
            | false =>
              have hsame : uniqOps (ops.take (k + 1)) = L := by rw [HUS.out]; unfold uniqStep; rw [if_neg (by rw [hgd]; simp)]
              have HSM := hide hsame
              have HOWN := hide hown
              clear hsame hown
              go_wp2_with fail
              have hgo := good_any x.name wr
              rw [hgd] at hgo
              refine hgo.mono ?_
              rintro e w8 ⟨rfl, rfl⟩
              clear hgo
              go_wp2_with fail
              go_roundg (ops.length - k - 1)
              case measure => have := HK.out; omega
              case rel => exact ⟨k + 1, by have := HK.out; omega, by go_num, by rw [HSM.out]; exact HOWN.out, hM6⟩
            | true =>
              have hmore : uniqOps (ops.take (k + 1)) = L ++ [x] := by rw [HUS.out]; unfold uniqStep; rw [if_pos ⟨HSV.out.symm, hgd⟩]
              have HMO := hide hmore
              have HOWN := hide hown
              clear hmore hown
              go_wp2_with fail
              have hgo := good_any x.name wr
              rw [hgd] at hgo
              refine hgo.mono ?_
              rintro e w8 ⟨rfl, rfl⟩
              clear hgo
              have hown7 : (wr.alloc (.cells #[.int .i64 x.kind, .int .i64 x.a, .int .i64 x.b, .int .i64 x.dir, .string x.name, .int .i64 x.ino] 41)).ownsRow w.heap.size 41 6 (.slice A2 L.length cc2) L.length (opCells L) := own_mod HOWN.out ((Mod.refl None_ wr).alloc _) (fun _ _ f => f)
              have hb7 : w.heap.size ≤ (wr.alloc (.cells #[.int .i64 x.kind, .int .i64 x.a, .int .i64 x.b, .int .i64 x.dir, .string x.name, .int .i64 x.ino] 41)).heap.size := by rw [alloc_size]; omega
              have hM7 : Mod None_ w (wr.alloc (.cells #[.int .i64 x.kind, .int .i64 x.a, .int .i64 x.b, .int .i64 x.dir, .string x.name, .int .i64 x.ino] 41)) := hM6.alloc _
              have hnews : ∀ (t : Nat) (u : Value), (opOne x)[t]? = some u → (wr.alloc (.cells #[.int .i64 x.kind, .int .i64 x.a, .int .i64 x.b, .int .i64 x.dir, .string x.name, .int .i64 x.ino] 41)).cell? ((⟨wr.heap.size, 0, none⟩ : Addr).add t) = some u := by
                intro t u ht
                have hadd : (⟨wr.heap.size, 0, none⟩ : Addr).add t = ⟨wr.heap.size, t, none⟩ := by unfold Addr.add; split <;> simp_all
                have hB : Blk (wr.alloc (.cells #[.int .i64 x.kind, .int .i64 x.a, .int .i64 x.b, .int .i64 x.dir, .string x.name, .int .i64 x.ino] 41)) wr.heap.size 41 (opOne x).toArray := Blk.new _ _ _
                rw [hadd, hB.cell]
                simpa using ht
              have h1c : ∀ u ∈ opOne x, u.oneCell' = true := by
                intro u hu
                simp only [opOne, List.mem_cons, List.not_mem_nil, or_false] at hu
                rcases hu with rfl | rfl | rfl | rfl | rfl | rfl <;> rfl
              have HN := hide hnews
              have H1 := hide h1c
              clear hnews h1c hM6
              go_wp2_with ((with_reducible refine at_slot 72 ?_); refine wpList_append_own _ rfl (.tmp 66) (.tmp 71) 23 rfl w.heap.size 41 i0 _ 6 56 Try.underlying23 hi0 hz0 hsz0 hby0 rfl (by decide) (.slice A2 L.length cc2) L.length _ rfl hown7 ⟨wr.heap.size, 0, none⟩ 1 1 (opOne x) rfl rfl HN.out H1.out (by simp only [maxLen]; omega) (by omega) hb7 ?_; intro v8 w8 hown8 hg8 _; go_frame)
              go_roundg (ops.length - k - 1)
              case measure => have := HK.out; omega
              case rel =>
                refine ⟨k + 1, by have := HK.out; omega, by go_num, ?_, hM7.trans' (Mod.of_grown hg8) (fun b hb e => ?_)⟩
                · rw [HMO.out, List.length_append, opCells_snoc]
                  exact hown8
                · have := (own_blk hown7 e.symm).1; omega
    · obtain rfl : k = ops.length := by omega
      obtain ⟨w5, rfl⟩ : ∃ w5, w5 = wr := ⟨_, rfl⟩
      have hki : ¬ (ops.length : Int) < ops.length := by omega
      have ht : ops.take ops.length = ops := List.take_of_length_le (Nat.le_refl _)
      rw [ht] at hown
      have hU := uniqOps_uniq ops
      have hLl := uniqOps_length ops
      have hLo : ∀ y ∈ uniqOps ops, y.Ok := uniqFold_mem _ _ (fun y hy => HOK.out y hy) (by simp)
      obtain ⟨L, hL⟩ : ∃ L, L = uniqOps ops := ⟨_, rfl⟩
      rw [← hL] at hown hU hLl hLo
      have hLO := own_ops hown (by omega) hLo
      obtain ⟨A2, cc2, hu, _, _, hl4⟩ := id hLO
      subst hu
      have HLO := hide hLO
      have HL4 := hide hl4
      have HLo := hide hLo
      have HU := hide hU
      have hl5 : L.length ≤ 2513169434843 := by omega
      clear hL ht hLO hl4 hLo hown hk hU
      go_wp2_with fail
      refine (filled_any w5 _ L HLO.out).mono ?_
      rintro e w6 ⟨rfl, hI6, hM6⟩
      obtain ⟨b, hb⟩ : ∃ b, b = w5.heap.size := ⟨_, rfl⟩
      rw [← hb] at hI6 ⊢
      have hge : w.heap.size ≤ b := by have := hM.size; omega
      have hM6' := hM.trans hM6
      clear hb
      go_wp2_with fail
      refine (new_any w6).mono ?_
      rintro e w7 ⟨rfl, hI7, hM7, _⟩
      obtain ⟨b2, hb2⟩ : ∃ b2, b2 = w6.heap.size := ⟨_, rfl⟩
      have hge2 : w6.heap.size ≤ b2 := by omega
      rw [← hb2] at hI7 ⊢
      clear hb2
      have HLO6 := hide (HLO.out.mod hM6)
      have hwr : IntKind.i64.wrap ((L.length : Int) - 1) = (L.length : Int) - 1 := by rw [IntWalk.i64_in _ (by omega)]
      go_wp2_with fail
      clear hwr
      go_loopg [9, 10] L.length (fun n i e wr => i = .int .i64 ((n : Int) - 1) ∧ n ≤ L.length ∧ IndexAt wr b2 (fillRows (L.reverse.take (L.length - n))) ∧ Mod None_ w6 wr)
      case atStart => exact ⟨rfl, Nat.le_refl _, by rw [Nat.sub_self]; exact hI7, hM7⟩
      case round =>
        clear hI7 hM7
        obtain ⟨rfl, hn, hI, hm⟩ := hrel
        rcases gk with _ | t
        · have hti : ¬ (0 : Int) ≤ ((0 : Nat) : Int) - 1 := by omega
          have hrt : L.reverse.take (L.length - 0) = L.reverse := List.take_of_length_le (by simp)
          rw [hrt] at hI
          have HI2 := hide hI
          have hw1 : ((0 : Nat) : Int) - 1 = -1 := by omega
          rw [hw1]
          have hI1 := hI6.kept hm
          have hMw := hM6'.trans hm
          clear hw1 hti hrt hn hm hI6 hM6' hM6 HLO6 HL4
          obtain ⟨w8, rfl⟩ : ∃ w8, w8 = wr := ⟨_, rfl⟩
          have hperm := fill_perm HU.out
          have hflen : (fillRows L).length = L.length := fill_len HU.out
          obtain ⟨R, hR⟩ : ∃ R, R = fillRows L := ⟨_, rfl⟩
          obtain ⟨R2, hR2⟩ : ∃ R2, R2 = fillRows L.reverse := ⟨_, rfl⟩
          rw [← hR, ← hR2] at hperm
          rw [← hR] at hI1 hflen
          rw [← hR2] at hI HI2
          have hRl : R.length ≤ 2513169434843 := by omega
          have hRl2 : R2.length ≤ 2513169434843 := by rw [← hperm.length_eq]; exact hRl
          have hs1 : sumN (cntDir R) 256 = R.length := sumN_dir hI1.ok
          have hLP : ∀ d, listPairs R d = listPairs R2 d := fun d => listPairs_perm hperm hI1.nodup d
          have hCI : ∀ d, cntIno R d = cntIno R2 d := fun d => cntIno_perm hperm d
          have HS1 := hide hs1
          have HLP := hide hLP
          have HCI := hide hCI
          have HFL := hide hflen
          have HI1 := hide hI1
          clear hperm hflen hR hR2 hs1 hLP hCI hI hI1
          go_wp2_with fail
          go_loopg [11, 12] 256 (fun n s d wr => ∃ q : Nat, q + n = 256 ∧ s = .int .i64 (sumN (cntDir R) q : Nat) ∧ d = .int .i64 ((q : Int) + 1) ∧ Mod None_ w8 wr)
          case atStart => exact ⟨0, by omega, rfl, by go_num, Mod.refl _ _⟩
          case round =>
            obtain ⟨q, hq, rfl, rfl, hm⟩ := hrel
            by_cases hqm : q < 256
            · have hqi : (q : Int) + 1 ≤ 256 := by omega
              have hwq : (Lit.int .i64 ((q : Int) + 1)).wf = true := wf_i64 (by omega) (by omega)
              have hI1 := HI1.out.kept hm
              have hI2 := HI2.out.kept hm
              have hsum : sumN (cntDir R) (q + 1) = sumN (cntDir R) q + cntDir R ((q : Int) + 1) := by
                have e : ((q + 1 : Nat) : Int) = (q : Int) + 1 := by omega
                show sumN (cntDir R) q + cntDir R ((q + 1 : Nat) : Int) = _
                rw [e]
              have hle1 : sumN (cntDir R) (q + 1) ≤ 2513169434843 := Nat.le_trans (sumN_le (cntDir R) (show q + 1 ≤ 256 by omega)) (by rw [HS1.out]; exact hRl)
              rw [hsum] at hle1
              have HSU := hide hsum
              obtain ⟨a1, ha1⟩ : ∃ a, a = sumN (cntDir R) q := ⟨_, rfl⟩
              rw [← ha1] at hle1 ⊢
              have HA1 := hide ha1
              obtain ⟨m, hmz⟩ : ∃ m, m = cntDir R ((q : Int) + 1) := ⟨_, rfl⟩
              rw [← hmz] at hle1
              have HMZ := hide hmz
              have hb1 : (a1 : Int) + m ≤ 2513169434843 := by omega
              clear hsum ha1 hmz hle1
              go_wp2_with fail
              refine (list_dents wr b R ((q : Int) + 1) (by omega) hwq hI1).mono ?_
              rintro e w9 ⟨v9, rfl, hD9, hm9⟩
              have hI1' := hI1.kept hm9
              have hI2' := hI2.kept hm9
              have hm9' := hm.trans hm9
              obtain ⟨A9, c9, rfl, hc91, hc92, hA9⟩ := hD9
              rw [listPairs_length, ← HMZ.out] at hc91 ⊢
              clear hA9 hI1 hI2 hm hm9
              go_wp2_with fail
              refine (list_dents w9 b R ((q : Int) + 1) (by omega) hwq hI1').mono ?_
              rintro e w10 ⟨v10, rfl, hD10, hm10⟩
              have hI1 := hI1'.kept hm10
              have hI2 := hI2'.kept hm10
              have hm10' := hm9'.trans hm10
              clear hI1' hI2' hm9' hm10
              go_wp2_with fail
              refine (list_dents w10 b2 R2 ((q : Int) + 1) (by omega) hwq hI2).mono ?_
              rintro e w11 ⟨v11, rfl, hD11, hm11⟩
              have hI1' := hI1.kept hm11
              have hI2' := hI2.kept hm11
              have hm11' := hm10'.trans hm11
              replace hD10 := hD10.mod hm11 (fun _ _ f => f)
              clear hI1 hI2 hm10' hm11
              go_wp2_with fail
              have hsm := same_any w11 _ _ v10 v11 _ _ hD10 hD11
              rw [decide_eq_true (HLP.out _)] at hsm
              refine hsm.mono ?_
              rintro e w12 ⟨rfl, hm12⟩
              have hI1 := hI1'.kept hm12
              have hI2 := hI2'.kept hm12
              have hm12' := hm11'.trans hm12
              clear hI1' hI2' hm11' hm12 hsm hD10 hD11
              go_wp2_with fail
              refine (links_any w12 b R ((q : Int) + 1) hwq hI1).mono ?_
              rintro e w13 ⟨rfl, rfl⟩
              go_wp2_with fail
              have hlk := links_any w12 b2 R2 ((q : Int) + 1) hwq hI2
              rw [← HCI.out] at hlk
              refine hlk.mono ?_
              rintro e w13 ⟨rfl, rfl⟩
              obtain ⟨z, hz⟩ : ∃ z, z = cntIno R ((q : Int) + 1) := ⟨_, rfl⟩
              rw [← hz]
              have hzz : ((z : Int) != z) = false := by simp
              clear hlk hz
              go_wp2
              go_roundg (gk - 1)
              case measure => omega
              case rel =>
                refine ⟨q + 1, by omega, ?_, by go_num, hm12'⟩
                rw [HSU.out, ← HA1.out, ← HMZ.out]; go_num
            · obtain rfl : q = 256 := by omega
              have hqi : ¬ ((256 : Nat) : Int) + 1 ≤ 256 := by omega
              rw [HS1.out, HFL.out]
              have hfin := hMw.trans hm
              clear hq hqi hm
              go_wp2
              go_ret
              exact ⟨by simp, hfin⟩
        · have htl : t < L.length := by omega
          have hti : (t : Int) < L.length := by omega
          have htx : ((t + 1 : Nat) : Int) - 1 = t := by omega
          rw [htx]
          obtain ⟨g, o, rfl, hg, hcc⟩ := HL4.out (by omega)
          obtain ⟨_, _, _, c3, c4, c5⟩ := hcc t htl
          have hxo := HLo.out L[t] (List.getElem_mem htl)
          have hrl : L.length - (t + 1) < L.reverse.length := by simp; omega
          have hrt : L.reverse.take (L.length - t) = L.reverse.take (L.length - (t + 1)) ++ [L[t]] := by
            have e1 : L.length - t = L.length - (t + 1) + 1 := by omega
            rw [e1, List.take_succ_eq_append_getElem hrl]
            congr 2
            rw [List.getElem_reverse]
            congr 1
            omega
          have hgx := HU.out.good L[t] (List.getElem_mem htl)
          have hsx : seenB (L.reverse.take (L.length - (t + 1))) L[t] = false := by
            have hUr := HU.out.rev
            have hp := hUr.apart
            have hsub : (L.reverse.take (L.length - t)).Pairwise Apart := hp.sublist (List.take_sublist _ _)
            rw [hrt, List.pairwise_append] at hsub
            exact seenB_false.2 fun a ha => hsub.2.2 a ha _ (by simp)
          obtain ⟨x, hx⟩ : ∃ x, x = L[t] := ⟨_, rfl⟩
          rw [← hx] at c3 c4 c5 hxo hrt hgx hsx
          have hM3 : Mod None_ w6 wr.drew := hm.drew
          have hM53 : Mod None_ w5 wr.drew := hM6.trans hM3
          replace c3 := (World.cell?_of_block (hM53.block g hg id)).trans c3
          replace c4 := (World.cell?_of_block (hM53.block g hg id)).trans c4
          replace c5 := (World.cell?_of_block (hM53.block g hg id)).trans c5
          have hI3 : IndexAt wr.drew b2 (fillRows (L.reverse.take (L.length - (t + 1)))) := hI.drew
          have hpe := put_new hgx hsx
          have hpr : putRows (fillRows (L.reverse.take (L.length - (t + 1)))) (inoOf x.dir) x.name (inoOf x.ino) = fillRows (L.reverse.take (L.length - t)) := by
            rw [hrt, fillRows_snoc]; rfl
          have hfl : (fillRows (L.reverse.take (L.length - (t + 1)))).length < 4611686018427387900 := by
            have h1 := fillRows_length (L.reverse.take (L.length - (t + 1)))
            have h2 : (L.reverse.take (L.length - (t + 1))).length ≤ L.length := by rw [List.length_take, List.length_reverse]; omega
            omega
          have HPE := hide hpe
          have HPR := hide hpr
          obtain ⟨_, _, _, hxd, hxi⟩ := hxo
          have htp : 0 ≤ (t : Int) := by omega
          clear htx hcc hrl hrt hgx hsx hx hM53 hI hm hpe hpr
          go_wp2_with fail
          refine region_stw_tail 18 (by kernel_rfl) (by kernel_rfl) ?_
          rintro w8 hw8
          rw [← hw8] at hM3 hI3 c3 c4 c5
          clear hw8
          simp only [List.take_succ_cons, List.take_zero, List.drop_succ_cons, List.drop_zero]
          repeat (first | (refine stw_step (fun K hK => ?_); go_simp; refine hK _ ?_; clear hK K) | (refine stw_step (fun K hK => ?_); go_simp; refine ⟨_, ino_left _ _ (by assumption), hK _ ?_⟩; clear hK K))
          refine stw_nil ?_
          go_wp2_with fail
          refine (put_eq w8 b2 _ _ (inoOf x.dir) x.name (inoOf x.ino) 0 hfl hI3 HPE.out HPR.out).mono ?_
          rintro e w9 ⟨rfl, hm9, hI9⟩
          have hM9 := ix_new hM3 hm9 hge2
          clear hM3 hI3 hm9 c3 c4 c5
          have hwr : IntKind.i64.wrap ((t : Int) - 1) = (t : Int) - 1 := by rw [IntWalk.i64_in _ (by omega)]
          go_wp2
          go_roundg t
          case measure => omega
          case rel => exact ⟨rfl, by omega, hI9, hM9⟩
end Go.Proofs.Ytmamdacmpikdbaa
