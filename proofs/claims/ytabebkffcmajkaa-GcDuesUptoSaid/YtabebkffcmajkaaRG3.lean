import Derived.Test.YtabebkffcmajkaaRGA
import Derived.IntWalk
import Derived.Deep.MidRow
/-! Reference walk: table. -/
namespace Go.Proofs.Ytabebkffcmajkaa
open Go.RowKit Go.Maps Go.Shelf
theorem Mod.setCells {S : Nat → Prop} {w : World} {b : Nat} : ∀ (vs : List Value) (o : Nat) (w' : World), Mod S w w' → (w.heap.size ≤ b ∨ S b) → Mod S w (w'.setCells b o vs)
  | [], _, _, h, _ => h
  | v :: r, o, _, h, hb => Mod.setCells r (o + 1) _ (h.setCell (p := ⟨b, o, Option.none⟩) hb v) hb
def tabCells (f : Nat → Int) : Array Value := Array.ofFn (n := 512) fun i => .int .i64 (f i)
theorem tabCells_get (f : Nat → Int) {i : Nat} (h : i < 512) : (tabCells f)[i]? = some (.int .i64 (f i)) := by simp [tabCells, h]
theorem tabCells_set (f : Nat → Int) {i : Nat} (h : i < 512) (v : Int) : (tabCells f).setIfInBounds i (.int .i64 v) = tabCells (setAt f i v) := by
  apply Array.ext
  · simp [tabCells]
  · intro j h1 h2
    simp only [tabCells, Array.getElem_ofFn, setAt]
    by_cases e : i = j
    · subst e; simp
    · have e2 : ¬ j = i := fun h => e h.symm
      rw [Array.getElem_setIfInBounds_ne (by simpa [tabCells] using h2) e]
      simp [e2]
theorem zeroTab : Try.zeroCells73 = tabCells (fun _ => 0) := by kernel_rfl
set_option maxRecDepth 100000 in
set_option maxHeartbeats 600000 in
theorem refTable_any (w : World) (v : Value) (l : List RunD) (h : RunsAt w v l) (hall : ∀ r ∈ l, refRun r = true) : Calls Try.prog 34 #[v] w fun e w' => e = .returned (.agg (tabCells (tableOf l))) ∧ Mod None_ w w' := by
  obtain ⟨A, c, rfl, hc1, hc2, hml, _, _⟩ := id h
  have hlm : ∀ w, (Builtin.len_ #[22] 3 #[.slice A l.length c]).run Try.prog w = .ok (.int .i64 l.length) w := fun w => by simp [Builtin.len_, run_underlying Try.underlying22]; rfl
  have HH := hide h
  have HA := hide hall
  clear h hall
  go_enter Try.func34, Try.ntmps34
  obtain ⟨m, hm⟩ : ∃ m, m = w.heap.size := ⟨_, rfl⟩
  obtain ⟨w1, hw1⟩ : ∃ w1, w1 = (w.alloc (.cells Try.zeroCells73 73)).alloc (.cells Try.zeroCells73 73) := ⟨_, rfl⟩
  have hM : Mod None_ w w1 := by rw [hw1]; exact ((Mod.refl _ w).alloc _).alloc _
  have b2 : Blk w1 m 73 (tabCells (fun _ => 0)) := by rw [hw1, hm, ← zeroTab]; exact (Blk.new w 73 _).alloc _
  have b3 : Blk w1 (m + 1) 73 (tabCells (fun _ => 0)) := by
    have := Blk.new (w.alloc (.cells Try.zeroCells73 73)) 73 Try.zeroCells73
    rw [← hw1, alloc_size, ← hm, zeroTab] at this
    exact this
  have hgem : w.heap.size ≤ m := by omega
  have HW := hide hw1
  have HM := hide hm
  clear hw1 hm
  go_wp2_with fail
  rw [← HW.out, ← HM.out]
  clear HW HM
  go_loopw [4] (fun s4 wr => ∃ k : Nat, k ≤ l.length ∧ s4 = .int .i64 k ∧ Mod None_ w wr ∧ Blk wr m 73 (tabCells (fun _ => 0)) ∧ Blk wr (m + 1) 73 (tabCells (tableOf (l.take k)))) (fun s4 _ => l.length - (intOf s4).toNat)
  case atStart => exact ⟨0, Nat.zero_le _, rfl, hM, b2, b3⟩
  clear hM b2 b3
  obtain ⟨k, hk, rfl, hM, b2, b3⟩ := hrel
  by_cases hlt : k < l.length
  · have hki : (k : Int) < l.length := by omega
    obtain ⟨_, _, hcv, _, _, hcell⟩ := (HH.out.kept hM).list
    simp only [Value.slice.injEq, true_and] at hcv
    obtain ⟨rfl, rfl⟩ := hcv
    obtain ⟨g, o, rfl, hg, hcell⟩ := hcell (by omega)
    have x0 : wr.cell? ⟨g, o + k * 3, none⟩ = some (.int .i64 l[k].off) := hcell k hlt 0 _ rfl
    have x1 : wr.cell? ⟨g, o + k * 3 + 1, none⟩ = some (.int .i64 l[k].page) := hcell k hlt 1 _ rfl
    have x2 : wr.cell? ⟨g, o + k * 3 + 2, none⟩ = some (.int .i64 l[k].count) := hcell k hlt 2 _ rfl
    have hrr := HA.out _ (List.getElem_mem hlt)
    have htk : tableOf (l.take (k + 1)) = setN (tableOf (l.take k)) l[k].off.toNat l[k].page l[k].count.toNat := by rw [List.take_succ_eq_append_getElem hlt, tableOf_snoc]
    have hgm : g < m := by
      rcases HH.out.list with ⟨_, _, hcv2, _, _, hc2'⟩
      simp only [Value.slice.injEq, true_and] at hcv2
      obtain ⟨g2, o2, e2, hg2, _⟩ := hc2' (by omega)
      rw [← hcv2.1] at e2
      simp only [Option.some.injEq, Addr.mk.injEq] at e2
      omega
    obtain ⟨x, hx⟩ : ∃ x, x = l[k] := ⟨_, rfl⟩
    rw [← hx] at x0 x1 x2 hrr htk
    simp only [refRun, dataB, Bool.and_eq_true, decide_eq_true_eq] at hrr
    obtain ⟨⟨⟨⟨⟨r1, r2⟩, r3⟩, r4⟩, r5, r6⟩, r7⟩ := hrr
    have HTK := hide htk
    clear hcell hx htk
    go_wp2_with fail
    go_loopw [5] (fun s5 wv => ∃ i : Nat, i ≤ x.count.toNat ∧ s5 = .int .i64 i ∧ Mod None_ w wv ∧ Mod (· = m + 1) wr wv ∧ Blk wv m 73 (tabCells (fun _ => 0)) ∧ Blk wv (m + 1) 73 (tabCells (setN (tableOf (l.take k)) x.off.toNat x.page i))) (fun s5 _ => x.count.toNat - (intOf s5).toNat)
    case atStart => exact ⟨0, Nat.zero_le _, rfl, hM, Mod.refl _ _, b2, b3⟩
    clear hM b2 b3
    obtain ⟨i, hi, rfl, hM, hmo, b2, b3⟩ := hrel
    have y0 := (World.cell?_of_block (hmo.block g hg (by omega))).trans x0
    have y1 := (World.cell?_of_block (hmo.block g hg (by omega))).trans x1
    have y2 := (World.cell?_of_block (hmo.block g hg (by omega))).trans x2
    by_cases hil : i < x.count.toNat
    · have hic : (i : Int) < x.count := by omega
      have e1 : x.off + (i : Int) = ((x.off.toNat + i : Nat) : Int) := by omega
      have hb : x.off.toNat + i < 512 := by omega
      have w1' : wrap64 (x.page + i) = x.page + i := by unfold wrap64; omega
      have fz : wr.frozen? ⟨m + 1, x.off.toNat + i, none⟩ = false := b3.frozen _
      have cz : wr.cell? ⟨m + 1, x.off.toNat + i, none⟩ = some (.int .i64 (setN (tableOf (l.take k)) x.off.toNat x.page i (x.off.toNat + i))) := by rw [b3.cell, tabCells_get _ hb]
      have W1 := hide w1'
      clear w1' x0 x1 x2
      go_wp2_with fail
      refine region_stw_tail 14 (by kernel_rfl) (by kernel_rfl) ?_
      rintro w4 hw4
      have hm4 : Mod None_ wr w4 := by rw [hw4]; exact (Mod.refl _ wr).drew
      replace y0 := (World.cell?_of_block (hm4.block g (Nat.lt_of_lt_of_le hg hmo.size) id)).trans y0
      replace y1 := (World.cell?_of_block (hm4.block g (Nat.lt_of_lt_of_le hg hmo.size) id)).trans y1
      replace b2 := b2.mod hm4 id
      replace b3 := b3.mod hm4 id
      replace hM := hM.trans hm4
      replace hmo := hmo.trans hm4.none
      clear hw4 hm4 y2 fz cz
      obtain ⟨q, hq⟩ : ∃ q, q = x.off.toNat + i := ⟨_, rfl⟩
      rw [← hq] at hb e1
      obtain ⟨z, hz⟩ : ∃ z, (tabCells (setN (tableOf (l.take k)) x.off.toNat x.page i))[q]? = some z := ⟨_, tabCells_get _ hb⟩
      have fz : w4.frozen? ⟨m + 1, q, none⟩ = false := b3.frozen _
      have cz : w4.cell? ⟨m + 1, q, none⟩ = some z := by rw [b3.cell]; exact hz
      have e3 : IntKind.i64.wrap (x.off + (i : Int)) = (q : Int) := by rw [e1]; exact IntWalk.i64_in _ (by omega)
      have hb2 : (q : Int) < 512 := by omega
      have HQ := hide hq
      clear hq hz
      have e4 : IntKind.i64.wrap (x.page + (i : Int)) = x.page + i := IntWalk.i64_in _ (by omega)
      clear e1
      repeat (refine stw_step (fun K hK => ?_); go_simp; refine hK _ ?_; clear hK K)
      refine stw_nil ?_
      go_wp2_with fail
      have b4 : Blk (w4.setCell ⟨m + 1, q, none⟩ (.int .i64 (x.page + i))) (m + 1) 73 (tabCells (setN (tableOf (l.take k)) x.off.toNat x.page (i + 1))) := by
        have := b3.set_ q (.int .i64 (x.page + i))
        rw [tabCells_set _ hb, ← W1.out, HQ.out] at this
        rw [← W1.out, HQ.out]
        exact this
      go_roundw
      case rel => exact ⟨i + 1, by omega, by simp, hM.setCell (p := ⟨m + 1, q, none⟩) (.inl (by show w.heap.size ≤ m + 1; omega)) _, hmo.setCell (p := ⟨m + 1, q, none⟩) (.inr rfl) _, b2.mod ((Mod.refl (· = m + 1) w4).setCell (p := ⟨m + 1, q, none⟩) (.inr rfl) _) (by omega), b4⟩
      case measure => simp [intOf]; omega
    · have hic : ¬ (i : Int) < x.count := by omega
      obtain rfl : i = x.count.toNat := by omega
      clear x0 x1 x2 hil
      go_wp2_with fail
      go_roundw
      case rel => exact ⟨k + 1, by omega, by simp, hM, b2, by rw [HTK.out]; exact b3⟩
      case measure => simp [intOf]; omega
  · obtain rfl : k = l.length := by omega
    have hkn : ¬ (l.length : Int) < l.length := by omega
    rw [List.take_length] at b3
    obtain ⟨T, hT, hTs⟩ : ∃ T : Array Value, T = tabCells (tableOf l) ∧ T.size = 512 := ⟨_, rfl, by rw [tabCells, Array.size_ofFn]⟩
    have ht2 : wr.there m 0 T.toList.toArray.size := fun j hj => by
      have hj2 : j < 512 := by rw [← hTs]; simpa using hj
      exact ⟨by rw [Nat.zero_add, b2.cell, tabCells_get _ hj2]; rfl, b2.frozen _⟩
    have ho : T.toList.toArray.all (·.oneCell') = true := by
      rw [Array.toArray_toList, Array.all_eq_true]
      intro i hi
      have hi2 : i < 512 := by rw [← hTs]; exact hi
      have e : T[i]? = some (.int .i64 (tableOf l i)) := by rw [hT]; exact tabCells_get _ hi2
      have e3 : T[i] = .int .i64 (tableOf l i) := by
        have := Array.getElem?_eq_getElem hi
        rw [e] at this
        exact (Option.some.inj this).symm
      rw [e3]; rfl
    rw [← hT] at b3
    have hr3 : wr.rangeAt (m + 1) 0 T.toList := fun j v hj => by rw [Nat.zero_add, b3.cell]; simpa using hj
    have hi5 : (Try.prog.info? 73).map (·.size) = some 512 := by kernel_rfl
    have hi6 : (Try.prog.info? 73).map (·.size) = some T.toList.length := by rw [hi5, Array.length_toList, hTs]
    have hi7 : (Try.prog.info? 73).map (·.size) = some T.toList.toArray.size := by rw [hi5, Array.toArray_toList, hTs]
    have H1 := hide hr3
    have H2 := hide ht2
    have H3 := hide ho
    have H6 := hide hi6
    have H7 := hide hi7
    have HT := hide hT
    have HB3 := hide b3
    clear hr3 ht2 ho hi5 hi6 hi7 hlt hT b3
    go_wp2_with ((with_reducible refine at_slot 36 ?_); refine wpList_load_mid rfl 73 (.tmp 3) rfl (m + 1) 0 rfl T.toList _ H1.out Try.underlying73 rfl H6.out ?_; refine wpList_store_mid rfl 73 (.tmp 2) (.tmp 36) rfl m 0 T.toList.toArray rfl rfl H2.out H7.out H3.out ?_; go_frame)
    have hrz : (wr.setCells m 0 T.toList).rangeAt m 0 T.toList := World.rangeAt_setCells_same wr m 0 _ (by have := H2.out; simpa using this)
    have hl := run_loadVar_mid (P := Try.prog) (wr.setCells m 0 T.toList) m 0 73 T.toList _ hrz Try.underlying73 rfl H6.out
    refine ⟨rfl, .agg T.toList.toArray, ?_, by rw [Array.toArray_toList, HT.out], Mod.setCells _ _ _ hM (.inl hgem)⟩
    simp [results, Try.results34, asAddr, hl]
end Go.Proofs.Ytabebkffcmajkaa
