import Derived.Test.YtabebkffcmajkaaRW
import Derived.Deep.CutRange
/-! Walk: Pages. -/
namespace Go.Proofs.Ytabebkffcmajkaa
open Go.RowKit Go.Maps Go.Shelf
attribute [local go_sem] quietV loudUpon Oper.semAt_some

def pagesOf (n : NodeD) : List Int := if nodeGood n = true ∧ n.kind = 1 then (itemsOf (tableOf n.map) 0 512 0).map Prod.snd else []
theorem infoInt : (Try.prog.info? 3).map (fun i => (i.zero, i.size, i.bytes)) = some (some (.int .i64 0), 1, 8) := by kernel_rfl
theorem oneInt : ∀ (x : Int), ∀ u ∈ encInt x, u.oneCell' = true := by
  intro x u hu
  simp only [encInt, List.mem_singleton] at hu
  subst hu; rfl
def PagesPost (w : World) (n : NodeD) : Ending → World → Prop := fun e w' => ∃ v, e = .returned v ∧ ListAt encInt 1 w' v (pagesOf n) ∧ Mod None_ w w'
theorem pages_none {w w' : World} {n : NodeD} (h : ¬ (nodeGood n = true ∧ n.kind = 1)) (hm : Mod None_ w w') : PagesPost w n (.returned (.slice none 0 0)) w' := by
  unfold PagesPost pagesOf; rw [if_neg h]
  exact ⟨_, rfl, ⟨none, 0, rfl, Nat.le_refl _, by unfold maxLen; omega, fun h => by simp at h⟩, hm⟩

set_option maxRecDepth 100000 in
set_option maxHeartbeats 8000000 in
theorem pages_any (w : World) (n : NodeD) (vm vn vl : Value) (h : NodeAt w n vm vn vl) : Calls Try.prog 10 #[.agg (nodeC n vm vn vl)] w (PagesPost w n) := by
  have hM : Mod None_ w (w.alloc (.cells (nodeC n vm vn vl) 26)) := (Mod.refl None_ w).alloc _
  have HS := hide (sense_any _ n vm vn vl (h.kept hM))
  have HM := hide hM
  clear hM h
  refine calls_of_wp_marks 3 Try.func10 rfl ?_
  simp only [Try.ntmps10, List.size_toArray, List.length_cons, List.length_nil, Nat.reduceAdd, Nat.reduceSub, Array.replicate_succ, Array.replicate_zero, List.push_toArray, List.append_toArray, List.nil_append, List.cons_append]
  unfold nodeC at HM HS ⊢
  go_wp2_with fail
  refine Calls.mono HS.out ?_
  rintro e w2 hp
  obtain ⟨hm2, hp⟩ := sense_pages hp
  have hM := HM.out.trans hm2
  clear hm2 HM HS
  by_cases hg : nodeGood n = true
  · rw [if_pos hg] at hp
    obtain ⟨s, k, tp, ip, rfl, bs, hs, hk⟩ := hp
    rcases hk with ⟨hk1, t, r, mid, leaf, many, rfl, hT⟩ | ⟨hk2, rfl⟩
    · have hpo : pagesOf n = (itemsOf (tableOf n.map) 0 512 0).map Prod.snd := by unfold pagesOf; rw [if_pos ⟨hg, hk1⟩]
      have HPO := hide hpo
      clear hpo hk1 hg hs
      have c2 : w2.cell? ⟨s, 2, none⟩ = some (.pointer (some ⟨t, 0, none⟩)) := bs.cell 2
      obtain ⟨m, hm⟩ : ∃ m, m = w2.heap.size := ⟨_, rfl⟩
      obtain ⟨w4, hw4⟩ : ∃ w4, w4 = w2.alloc (.cells #[.slice none 0 0] 24) := ⟨_, rfl⟩
      have hm4 : Mod None_ w2 w4 := by rw [hw4]; exact (Mod.refl _ w2).alloc _
      have hs4 : w4.heap.size = m + 1 := by rw [hw4, hm]; simp
      have b0 : Blk w4 m 24 #[.slice none 0 0] := by rw [hw4, hm]; exact Blk.new w2 24 _
      have hgem : m = w2.heap.size := hm
      have HW4 := hide hw4
      have HM2 := hide hgem
      have c22 := c2
      rw [← (World.cell?_of_block (hm4.block s bs.lt id))] at c22
      rw [hw4] at c22
      clear hm hw4 hgem
      go_wp2_with fail
      rw [← HW4.out, ← HM2.out]
      refine (from_call w4 t 0).mono ?_
      rintro e w3 ⟨rfl, hw3⟩
      simp only [hs4]
      have hM3 : Mod None_ w4 w3 := by rw [hw3]; exact ((Mod.refl _ w4).alloc _).alloc _
      have b1 : Blk w3 (m + 1) 52 #[.pointer (some ⟨t, 0, none⟩)] := by
        have := (Blk.new w4 52 #[.pointer (some ⟨t, 0, none⟩)]).alloc (.cells #[.int .i64 0] 3)
        rw [← hw3, hs4] at this
        exact this
      have b2 : Blk w3 (m + 1 + 1) 3 #[.int .i64 0] := by
        have := Blk.new (w4.alloc (.cells #[.pointer (some ⟨t, 0, none⟩)] 52)) 3 #[.int .i64 0]
        rw [← hw3, alloc_size, hs4] at this
        exact this
      replace b0 := b0.mod hM3 id
      have hR3 := (hT.kept hm4).kept hM3
      have hM5 := (hM.trans hm4).trans hM3
      have hml : m < w3.heap.size := b0.lt
      have hgem : w.heap.size ≤ m := by rw [HM2.out]; exact hM.size
      clear hw3 hM hm4 hM3 bs c2 c22 hT HW4 HM2 hs4
      go_wp2_with fail
      have hno : ownerAt w3 m = none := by unfold ownerAt; rw [b0.cell 0]; rfl
      have hst := from_stops 2 w3 (KpO w3.heap.size m) (fun W _ => KpO.refl _ _ W) (fun h k => h.trans k) (keep_own hml hno) t r mid leaf (tableOf n.map) many 0 (m + 1 + 1) (m + 1) hR3 (b2.cell 0) (b1.cell 0)
      have hNl := itemsOf_length (tableOf n.map) 0 512 0
      obtain ⟨P, hP⟩ : ∃ P, P = itemsOf (tableOf n.map) 0 512 0 := ⟨_, rfl⟩
      have HP := hide hP
      rw [← hP] at hst hNl
      clear hP
      refine wp_range_mid 3 (by omega) (gf := 38) (lb := #[.pointer (some ⟨m + 1 + 1, 0, none⟩), .pointer (some ⟨m + 1, 0, none⟩)]) rfl (enters_of Try.func38 (by kernel_rfl) rfl) hst (fun h k => h.trans k) (fun U l o o' hl h ho _ => KpO.putObj U l o o' (by omega) h ho) (Below.refl _ _) (fun _ => rfl)
        (fun pre U => RowI encInt 24 3 1 w3 m (pre.map Prod.snd) U) (fun _ _ _ => False) 0 (RowI encInt 24 3 1 w3 m (P.map Prod.snd))
        (fun pre A B row h hg hr => h.grown hml hg hr) (fun c pre A B row h _ _ => h)
        ⟨_, b0, ⟨rfl, .inl ⟨rfl, rfl⟩⟩, Mod.refl _ _⟩ ?done ?stop ?body ?rest
      case done =>
        rintro xs U hxs h
        obtain rfl : P = xs := hxs.symm
        exact h
      case stop =>
        rintro c pre U hp h
        exact h.elim
      case body =>
        apply Exists.intro
        refine ⟨?_, ?_⟩
        · intro l x U K hK
          gi_wp2
          exact hK
        · rintro l pre x U ⟨v, hv, hown, hM⟩ hlt
          obtain ⟨A, c, rfl⟩ := own_slice hown
          have cl : U.cell? ⟨m, 0, none⟩ = some (.slice A (pre.map Prod.snd).length c) := hv.cell 0
          have hsn : (pre ++ [x]).map Prod.snd = pre.map Prod.snd ++ [x.2] := by simp
          have hln : (pre.map Prod.snd).length < P.length := by simpa using hlt
          obtain ⟨R, hR⟩ : ∃ R, R = pre.map Prod.snd := ⟨_, rfl⟩
          rw [← hR] at hv hown cl hsn hln
          have HSN := hide hsn
          have hbU : w3.heap.size ≤ U.heap.size := hM.size
          clear hR hsn hst hlt
          gi_wp2_with ((with_reducible refine at_slotIn 28 ?_); refine wpListIn_append_row encInt 24 3 (.int .i64 0) 1 8 Try.underlying24 infoInt rfl (by decide) (fun _ => rfl) oneInt rfl (.tmp 25) (.tmp 27) rfl U w3.heap.size (.slice A R.length c) R x.2 rfl rfl U.heap.size rfl rfl hown hbU (by unfold maxLen; omega) (by omega) ?_; intro v8 w8 hown8 hm8 hat8; obtain ⟨N8, hN8⟩ : ∃ N, N = (R ++ [x.2]).length := ⟨_, rfl⟩; rw [← hN8] at hown8; have HN8 := hide hN8; clear hN8; obtain ⟨A2, c2, rfl⟩ := own_slice hown8; go_frame
                       obtain ⟨k1, k2, k3, k4, k5⟩ := grown_keeps 24 3 1 (by omega) hbU hv hown hown8 hm8 hat8
                       have hv8 := hv.mod hm8 (fun e => by have := (own_blk hown e.symm).1; omega)
                       have cl8 : w8.cell? ⟨m, 0, none⟩ = some (.slice A R.length c) := hv8.cell 0
                       have cf8 : w8.frozen? ⟨m, 0, none⟩ = false := hv8.frozen 0
                       have L1 := hide k1
                       have L2 := hide k2
                       have L3 := hide k3
                       have L4 := hide k4
                       have L5 := hide k5
                       clear k1 k2 k3 k4 k5 hown8 hm8 hat8 hv8)
          refine ⟨L1.out, L2.out, _, L3.out, ?_, hM.trans' L5.out (fun k hk e => by omega)⟩
          rw [HSN.out]
          have hL4 := L4.out
          rw [HN8.out] at hL4 ⊢
          exact hL4
      case rest =>
        rintro D U hD ⟨v, hv, hown, hM⟩ hdf
        obtain ⟨A, c, rfl⟩ := own_slice hown
        have cl : U.cell? ⟨m, 0, none⟩ = some (.slice A (P.map Prod.snd).length c) := hv.cell 0
        have hm3 : Mod (· = D) U (U.putObj D (.deferred none)) := (Mod.of_grown (grownBy_putObj' _ D _)).mono fun k _ e => by cases e; rfl
        have hfin : Mod None_ w (U.putObj D (.deferred none)) := ((hM5.trans' hM (fun k hk e => by omega))).trans' hm3 (fun k hk e => by have := hM5.size; omega)
        have hown2 := own_mod hown hm3 (fun g hg e => by
          subst e
          obtain ⟨_, cur, hh⟩ := own_blk hown hg
          rw [hdf] at hh; cases hh)
        have hli := list_of_ownRow (enc := encInt) (fun _ => rfl) hown2
        have hpost : PagesPost w n (.returned (.slice A (P.map Prod.snd).length c)) (U.putObj D (.deferred none)) := by
          unfold PagesPost
          rw [HPO.out, ← HP.out]
          exact ⟨_, rfl, hli, hfin⟩
        have HF := hide hpost
        have HD := hide hdf
        clear hfin hown hown2 hm3 hM hv hst hdf b0 b1 b2 hli hpost
        dsimp only
        go_wp2
        refine ⟨by simp, .inl ⟨_, _, rfl, run_takeDeferred HD.out, ?_⟩⟩
        refine ⟨.slice A (P.map Prod.snd).length c, ?_, HF.out⟩
        simp [results, Try.results10, go_sem]
    · have HF := hide (pages_none (n := n) (w := w) (fun h => by omega) hM)
      have c2 : w2.cell? ⟨s, 2, none⟩ = some (.pointer none) := bs.cell 2
      clear hg hM hk2
      go_wp2
      refine ⟨_, ?_, HF.out⟩
      simp [results, Try.results10, go_sem]
  · rw [if_neg hg] at hp
    obtain rfl := hp
    have HF := hide (pages_none (n := n) (w := w) (fun h => hg h.1) hM)
    clear hg hM
    go_wp2
    refine ⟨_, ?_, HF.out⟩
    simp [results, Try.results10, go_sem]
end Go.Proofs.Ytabebkffcmajkaa

