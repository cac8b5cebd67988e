import Derived.Test.YtabebkffcmajkaaRGB
import Derived.Test.YtabebkffcmajkaaIN4
/-! Reference walk: Pages. -/
namespace Go.Proofs.Ytabebkffcmajkaa
open Go.RowKit Go.Maps Go.Shelf

def pagesN (x : RunD) (k : Nat) : List Int := (List.range k).map fun i : Nat => x.page + (i : Int)
def mapPages (l : List RunD) : List Int := l.flatMap fun r => pagesN r r.count.toNat
theorem pagesN_snoc (x : RunD) (k : Nat) : pagesN x (k + 1) = pagesN x k ++ [x.page + k] := by unfold pagesN; rw [List.range_succ, List.map_append]; rfl
theorem pagesN_length (x : RunD) (k : Nat) : (pagesN x k).length = k := by simp [pagesN]
theorem mapPages_snoc {l : List RunD} {k : Nat} (h : k < l.length) : mapPages (l.take (k + 1)) = mapPages (l.take k) ++ pagesN l[k] l[k].count.toNat := by
  unfold mapPages; rw [List.take_succ_eq_append_getElem h, List.flatMap_append]; simp
theorem mapPages_eq (l : List RunD) : mapPages l = l.flatMap (fun r => (runItems r).map Prod.snd) := by
  unfold mapPages
  congr 1
  funext r
  unfold runItems pagesN
  rw [List.map_map]; rfl
theorem good_runs {n : NodeD} (h : nodeGood n = true) : (∀ r ∈ n.map, refRun r = true) ∧ (n.kind = 1 ∧ n.names = [] ∧ n.map = runsT (tableOf n.map) ∨ n.kind = 2 ∧ n.map = [] ∧ n.size = 0) := by
  rw [← refGood_eq] at h
  unfold refGood at h
  split at h
  · rename_i hk
    unfold refFile at h
    simp only [Bool.and_eq_true, decide_eq_true_eq] at h
    obtain ⟨⟨⟨_, h2⟩, h3⟩, h4⟩ := h
    refine ⟨fun r hr => ?_, .inl ⟨hk, List.length_eq_zero_iff.1 h2, h4⟩⟩
    have := List.all_eq_true.1 h3 r hr
    simp only [refEnd, Bool.and_eq_true] at this
    exact this.1
  · split at h
    · rename_i hk
      unfold refDir at h
      simp only [Bool.and_eq_true, decide_eq_true_eq] at h
      have h0 : n.map = [] := List.length_eq_zero_iff.1 h.1.2
      exact ⟨(fun r hr => by rw [h0] at hr; cases hr), .inr ⟨hk, h0, h.1.1⟩⟩
    · cases h
theorem pagesOf_good {n : NodeD} (h : nodeGood n = true) : pagesOf n = mapPages n.map := by
  obtain ⟨hr, ⟨hk, _, he⟩ | ⟨hk, he, _⟩⟩ := good_runs h
  · unfold pagesOf
    rw [if_pos ⟨h, hk⟩, mapPages_eq]
    exact pages_runs hr he
  · unfold pagesOf
    rw [if_neg (by rintro ⟨_, e⟩; omega), he]
    rfl
theorem pagesOf_bad {n : NodeD} (h : ¬ nodeGood n = true) : pagesOf n = [] := by unfold pagesOf; rw [if_neg (fun e => h e.1)]

set_option maxRecDepth 100000 in
set_option maxHeartbeats 2000000 in
theorem refPages_any (w : World) (n : NodeD) (vm vn vl : Value) (h : NodeAt w n vm vn vl) : Calls Try.prog 12 #[.agg (nodeC n vm vn vl)] w (PagesPost w n) := by
  obtain ⟨Am, cm, rfl, hcm1, hcm2, hml, _, _⟩ := id h.map
  have hlm : ∀ w, (Builtin.len_ #[22] 3 #[.slice Am n.map.length cm]).run Try.prog w = .ok (.int .i64 n.map.length) w := fun w => by simp [Builtin.len_, run_underlying Try.underlying22]; rfl
  have hM : Mod None_ w (w.alloc (.cells (nodeC n (.slice Am n.map.length cm) vn vl) 26)) := (Mod.refl None_ w).alloc _
  have HS := hide (refGood_any _ n _ vn vl (h.kept hM))
  have b1 : Blk (w.alloc (.cells (nodeC n (.slice Am n.map.length cm) vn vl) 26)) w.heap.size 26 (nodeC n (.slice Am n.map.length cm) vn vl) := Blk.new w 26 _
  have HN := hide h
  have HM := hide hM
  have B1 := hide b1
  clear hM h b1
  unfold nodeC at HM HS B1 ⊢
  go_enter Try.func12, Try.ntmps12
  obtain ⟨m, hm⟩ : ∃ m, m = w.heap.size := ⟨_, rfl⟩
  rw [← hm] at B1
  have HMM := hide hm
  clear hm
  go_wp2_with fail
  rw [← HMM.out]
  refine Calls.mono HS.out ?_
  rintro e w2 ⟨rfl, hm2⟩
  have hM := HM.out.trans hm2
  have b1 := B1.out.mod hm2 id
  clear hm2 HM HS B1 HMM
  by_cases hg : nodeGood n = true
  · have hpo := pagesOf_good hg
    obtain ⟨hl512, htame⟩ := good_tame hg
    have HPO := hide hpo
    have HTA := hide htame
    rw [hg]
    clear hpo htame hg
    go_wp2_with fail
    go_loopw [5, 4] (fun s5 s4 wr => ∃ (k : Nat) (L : List Int) (v4 : Value), v4 = s4 ∧ k ≤ n.map.length ∧ s5 = .int .i64 k ∧ L = mapPages (n.map.take k) ∧ L.length ≤ k * 512 ∧ wr.ownsRow w2.heap.size 3 1 v4 L.length (rowOf encInt L) ∧ Mod None_ w2 wr) (fun s5 _ _ => n.map.length - (intOf s5).toNat)
    case atStart => exact ⟨0, [], _, rfl, Nat.zero_le _, rfl, rfl, Nat.zero_le _, ⟨rfl, .inl ⟨rfl, rfl⟩⟩, Mod.refl _ _⟩
    obtain ⟨k, L, v4, rfl, hk, rfl, hL, hLl, hown, hmr⟩ := hrel
    have c4 : wr.cell? ⟨m, 4, none⟩ = some (.slice Am n.map.length cm) := (b1.mod hmr id).cell 4
    by_cases hlt : k < n.map.length
    · have hki : (k : Int) < n.map.length := by omega
      obtain ⟨_, _, hcv, _, _, hcell⟩ := (HN.out.kept hM).map.list
      simp only [Value.slice.injEq, true_and] at hcv
      obtain ⟨rfl, rfl⟩ := hcv
      obtain ⟨g, o, rfl, hg, hcell⟩ := hcell (by omega)
      have x1 : w2.cell? ⟨g, o + k * 3 + 1, none⟩ = some (.int .i64 n.map[k].page) := hcell k hlt 1 _ rfl
      have x2 : w2.cell? ⟨g, o + k * 3 + 2, none⟩ = some (.int .i64 n.map[k].count) := hcell k hlt 2 _ rfl
      have htx := HTA.out _ (List.getElem_mem hlt)
      have hsn := mapPages_snoc hlt
      rw [← hL] at hsn
      obtain ⟨x, hx⟩ : ∃ x, x = n.map[k] := ⟨_, rfl⟩
      rw [← hx] at x1 x2 htx hsn
      obtain ⟨t1, t2, t3, t4, t5, t6⟩ := htx
      have HSN := hide hsn
      have HX1 := hide x1
      have HX2 := hide x2
      clear hcell hsn hx hL x1 x2
      go_wp2_with fail
      obtain ⟨wo, rfl⟩ : ∃ wo : World, wo = wr := ⟨_, rfl⟩
      go_loopw [6, 4] (fun s6 s4 wv => ∃ (i : Nat) (v5 : Value), v5 = s4 ∧ i ≤ x.count.toNat ∧ s6 = .int .i64 i ∧ wv.ownsRow w2.heap.size 3 1 v5 (L ++ pagesN x i).length (rowOf encInt (L ++ pagesN x i)) ∧ Mod None_ w2 wv) (fun s6 _ _ => x.count.toNat - (intOf s6).toNat)
      case atStart => exact ⟨0, _, rfl, Nat.zero_le _, rfl, by rw [show pagesN x 0 = [] from rfl, List.append_nil]; exact hown, hmr⟩
      clear hown hmr c4
      obtain ⟨i, v5, rfl, hi, rfl, hown, hmr⟩ := hrel
      have c4 : wr.cell? ⟨m, 4, none⟩ = some (.slice (some ⟨g, o, none⟩) n.map.length cm) := (b1.mod hmr id).cell 4
      have x1 := (World.cell?_of_block (hmr.block g hg id)).trans HX1.out
      have x2 := (World.cell?_of_block (hmr.block g hg id)).trans HX2.out
      have hpl := pagesN_length x i
      by_cases hic : i < x.count.toNat
      · have hii : (i : Int) < x.count := by omega
        have hps := pagesN_snoc x i
        have ew : IntKind.i64.wrap (x.page + (i : Int)) = x.page + i := IntWalk.i64_in _ (by omega)
        obtain ⟨P, hP⟩ : ∃ P, P = L ++ pagesN x i := ⟨_, rfl⟩
        have hPs : L ++ pagesN x (i + 1) = P ++ [x.page + i] := by rw [hps, ← List.append_assoc, hP]
        have hPl : P.length = L.length + i := by rw [hP, List.length_append, hpl]
        rw [← hP] at hown
        have HPS := hide hPs
        have hsz2 := hmr.size
        clear hps hP hPs hpl
        go_wp2_with ((with_reducible refine at_slot 38 ?_); refine wpList_append_row encInt 24 3 (.int .i64 0) 1 8 Try.underlying24 infoInt rfl (by decide) (fun _ => rfl) oneInt rfl (.tmp 28) (.tmp 37) rfl wr w2.heap.size v5 P (x.page + i) rfl rfl wr.heap.size rfl rfl hown hsz2 (by unfold maxLen; omega) (by omega) ?_; intro v8 w8 hown8 hm8 hat8
                     have hM8 := hmr.trans' hm8 (fun g hg e => by have := (own_blk hown e.symm).1; omega)
                     have L1 := hide hown8
                     have L2 := hide hM8
                     clear hown8 hm8 hat8 hM8 hown hmr c4 x1 x2
                     go_frame)
        go_roundw
        case rel => exact ⟨i + 1, _, rfl, by omega, by simp, by rw [HPS.out]; exact L1.out, L2.out⟩
        case measure => simp [intOf]; omega
      · obtain rfl : i = x.count.toNat := by omega
        have hii : ¬ ((x.count.toNat : Nat) : Int) < x.count := by omega
        rw [← HSN.out] at hown
        have hLen : (mapPages (n.map.take (k + 1))).length ≤ (k + 1) * 512 := by rw [HSN.out, List.length_append, hpl]; omega
        clear hic
        go_wp2_with fail
        go_roundw
        case rel => exact ⟨k + 1, _, _, rfl, by omega, by simp, rfl, hLen, hown, hmr⟩
        case measure => simp [intOf]; omega
    · obtain rfl : k = n.map.length := by omega
      have hkn : ¬ (n.map.length : Int) < n.map.length := by omega
      rw [List.take_length] at hL
      subst hL
      have hfin : PagesPost w n (.returned v4) wr := ⟨_, rfl, by rw [HPO.out]; exact list_of_ownRow (enc := encInt) (fun _ => rfl) hown, hM.trans hmr⟩
      have HF := hide hfin
      clear hfin hown hmr hlt
      go_wp2
      go_ret
      exact HF.out
  · have hb : nodeGood n = false := by simpa using hg
    have hfin : PagesPost w n (.returned (.slice none 0 0)) w2 := pages_none (fun e => hg e.1) hM
    have HF := hide hfin
    rw [hb]
    clear hfin hb hg
    go_wp2
    go_ret
    exact HF.out
end Go.Proofs.Ytabebkffcmajkaa
