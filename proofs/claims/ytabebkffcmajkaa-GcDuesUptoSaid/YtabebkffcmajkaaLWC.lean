import Derived.Test.YtabebkffcmajkaaLW
import Derived.Test.YtabebkffcmajkaaRG8
/-! Walk: InodeCanons. -/
namespace Go.Proofs.Ytabebkffcmajkaa
open Go.RowKit Go.Maps Go.Shelf
attribute [local go_sem] quietV loudUpon Oper.semAt_some

def canonErr (n : NodeD) : Int := if nodeGood n = true then 0 else 90
def canonList (n : NodeD) : List EntD := if nodeGood n = true then canonOf n else []
theorem list_none_at {α : Type} (enc : α → List Value) (sz : Nat) (w : World) : ListAt enc sz w (.slice none 0 0) ([] : List α) := ⟨none, 0, rfl, Nat.le_refl _, by unfold maxLen; omega, fun h => by simp at h⟩
theorem canon_post {w w' : World} {n : NodeD} {e : Ending} (h : CanonPost w n e w') : ∃ v, e = .returned (.tuple #[v, .int .i64 (canonErr n)]) ∧ ListAt encEntry 8 w' v (canonList n) ∧ Mod None_ w w' := by
  unfold canonErr canonList
  obtain ⟨hm, h⟩ := h
  by_cases hg : nodeGood n = true
  · rw [if_pos hg] at h ⊢
    rw [if_pos hg]
    obtain ⟨v, rfl, hl⟩ := h
    exact ⟨v, rfl, hl, hm⟩
  · rw [if_neg hg] at h ⊢
    rw [if_neg hg]
    subst h
    exact ⟨_, rfl, list_none_at _ _ _, hm⟩

set_option maxRecDepth 100000 in
set_option maxHeartbeats 1000000 in
theorem canons_any (w : World) (n : NodeD) (vm vn vl : Value) (h : NodeIn w n vm vn vl) : Calls Try.prog 3 #[.agg (nodeC n vm vn vl)] w (BoolPost w true) := by
  obtain ⟨m, hm⟩ : ∃ m, m = w.heap.size := ⟨_, rfl⟩
  obtain ⟨w1, hw1⟩ : ∃ w1, w1 = w.alloc (.cells (nodeC n vm vn vl) 26) := ⟨_, rfl⟩
  have hM : Mod None_ w w1 := by rw [hw1]; exact (Mod.refl _ w).alloc _
  have b1 : Blk w1 m 26 (nodeC n vm vn vl) := by rw [hw1, hm]; exact Blk.new w 26 _
  have HW1 := hide hw1
  have HMM := hide hm
  have HN := hide h
  have HI := hide (infoNode n vm vn vl)
  clear hw1 hm h
  go_enter Try.func3, Try.ntmps3
  go_upto_region 1 with fail
  rw [← HMM.out, ← HW1.out]
  clear HMM HW1
  go_wp2_with ((with_reducible refine at_slot 9 ?_); refine wpList_val rfl (ex_load rfl (run_loadRow b1 Try.underlying26 rfl HI.out)) ?_; go_frame)
  refine (lawSmall w1 n vm vn vl (HN.out.kept hM)).mono ?_
  rintro e w2 ⟨rfl, hm2⟩
  have hM2 := hM.trans hm2
  have b2 := b1.mod hm2 id
  clear hm2 hM b1
  cases hs : smallB n with
  | false =>
    clear hs b2
    go_wp2
    go_ret
    exact ⟨rfl, hM2⟩
  | true =>
    have HS := hide hs
    clear hs
    go_wp2_with ((with_reducible refine at_slot 12 ?_); refine wpList_val rfl (ex_load rfl (run_loadRow b2 Try.underlying26 rfl HI.out)) ?_; go_frame)
    refine (lawCopy w2 n vm vn vl (HN.out.kept hM2) HS.out).mono ?_
    rintro e w3 ⟨vm', vn', vl', rfl, ho, hm3⟩
    have hM3 := hM2.trans hm3
    have b3 := b2.mod hm3 id
    have hI' := ho.in_ HN.out
    have HI2 := hide (infoNode n vm' vn' vl')
    have hone : (nodeC n vm' vn' vl').all (·.oneCell') = true := by
      obtain ⟨_, _, rfl⟩ := own_slice ho.map
      obtain ⟨_, _, rfl⟩ := own_slice ho.names
      obtain ⟨_, _, rfl⟩ := own_slice ho.log
      simp [nodeC, Value.oneCell']
    obtain ⟨q, hq⟩ : ∃ q, q = w3.heap.size := ⟨_, rfl⟩
    obtain ⟨w4, hw4⟩ : ∃ w4, w4 = w3.alloc (.cells (nodeC n vm' vn' vl') 26) := ⟨_, rfl⟩
    have hm4 : Mod None_ w3 w4 := by rw [hw4]; exact (Mod.refl _ w3).alloc _
    have bq : Blk w4 q 26 (nodeC n vm' vn' vl') := by rw [hw4, hq]; exact Blk.new w3 26 _
    have b4 := b3.mod hm4 id
    have hM4 := hM3.trans hm4
    have HI3 := hide (hI'.kept hm4)
    have HO := hide hone
    have HQ := hide hq
    have HW4 := hide hw4
    clear hm3 hM2 b2 ho hI' hq hw4 hm4 hM3 b3 hone
    go_wp2_with (first
      | ((with_reducible refine at_slot 3 ?_); refine wpList_declare rfl rfl 26 3 (.tmp 13) rfl rfl rfl zeroNode (nodeC n vm' vn' vl') zeroNodeV HI2.out (nodeC_size _ _ _ _) HO.out (by simp) rfl ?_; go_frame; rw [← HW4.out, ← HQ.out])
      | ((with_reducible refine at_slot 15 ?_); refine wpList_val rfl (ex_load rfl (run_loadRow b4 Try.underlying26 rfl HI.out)) ?_; go_frame))
    clear HW4 HQ
    refine (canon_any w4 n vm vn vl ((HN.out.kept hM4).at_ HS.out)).mono ?_
    rintro e w5 hp
    obtain ⟨va, rfl, hla, hm5⟩ := canon_post hp
    have b5 := b4.mod hm5 id
    have bq5 := bq.mod hm5 id
    have hM5 := hM4.trans hm5
    have HI5 := hide (HI3.out.kept hm5)
    clear hp hm5 b4 bq hM4 HI3
    go_wp2_with ((with_reducible refine at_slot 20 ?_); refine wpList_val rfl (ex_load rfl (run_loadRow bq5 Try.underlying26 rfl HI2.out)) ?_; go_frame)
    refine (refCanon_any w5 n vm' vn' vl' (HI5.out.at_ HS.out)).mono ?_
    rintro e w6 hp
    obtain ⟨vb, rfl, hlb, hm6⟩ := canon_post hp
    have b6 := b5.mod hm6 id
    have bq6 := bq5.mod hm6 id
    have hM6 := hM5.trans hm6
    have HI6 := hide (HI5.out.kept hm6)
    have HE := hide (lawSameEntries w6 _ _ _ _ (hla.kept hm6) hlb)
    clear hp hm6 b5 bq5 hM5 HI5 hla hlb
    go_wp2_with fail
    refine Calls.mono HE.out ?_
    rintro e w7 ⟨rfl, hm7⟩
    simp only [decide_true]
    have b7 := b6.mod hm7 id
    have bq7 := bq6.mod hm7 id
    have hM7 := hM6.trans hm7
    have HI7 := hide (HI6.out.kept hm7)
    clear hm7 b6 bq6 hM6 HI6 HE
    go_wp2_with ((with_reducible refine at_slot 33 ?_); refine wpList_val rfl (ex_load rfl (run_loadRow b7 Try.underlying26 rfl HI.out)) ?_; go_frame)
    refine (pages_any w7 n vm vn vl ((HN.out.kept hM7).at_ HS.out)).mono ?_
    rintro e w8 ⟨vp, rfl, hlp, hm8⟩
    have b8 := b7.mod hm8 id
    have bq8 := bq7.mod hm8 id
    have hM8 := hM7.trans hm8
    have HI8 := hide (HI7.out.kept hm8)
    clear hm8 b7 bq7 hM7 HI7
    go_wp2_with ((with_reducible refine at_slot 36 ?_); refine wpList_val rfl (ex_load rfl (run_loadRow bq8 Try.underlying26 rfl HI2.out)) ?_; go_frame)
    refine (refPages_any w8 n vm' vn' vl' (HI8.out.at_ HS.out)).mono ?_
    rintro e w9 ⟨vr, rfl, hlr, hm9⟩
    have b9 := b8.mod hm9 id
    have bq9 := bq8.mod hm9 id
    have hM9 := hM8.trans hm9
    have HI9 := hide (HI8.out.kept hm9)
    have HE := hide (lawSameNumbers w9 _ _ _ _ (hlp.kept hm9) hlr)
    clear hm9 b8 bq8 hM8 HI8 hlp hlr
    go_wp2_with fail
    refine Calls.mono HE.out ?_
    rintro e w10 ⟨rfl, hm10⟩
    simp only [decide_true]
    have b10 := b9.mod hm10 id
    have bq10 := bq9.mod hm10 id
    have hM10 := hM9.trans hm10
    have HI10 := hide (HI9.out.kept hm10)
    clear hm10 b9 bq9 hM9 HI9 HE
    have e0 : w10.cell? ⟨m, 0, none⟩ = some (.int .i64 n.ino) := b10.cell 0
    have e1 : w10.cell? ⟨m, 1, none⟩ = some (.int .i64 n.kind) := b10.cell 1
    have e2 : w10.cell? ⟨m, 2, none⟩ = some (.int .i64 n.links) := b10.cell 2
    have e3 : w10.cell? ⟨m, 3, none⟩ = some (.int .i64 n.size) := b10.cell 3
    have e4 : w10.cell? ⟨m, 4, none⟩ = some (vm) := b10.cell 4
    have e5 : w10.cell? ⟨m, 5, none⟩ = some (vn) := b10.cell 5
    have e6 : w10.cell? ⟨m, 6, none⟩ = some (.int .i64 n.head) := b10.cell 6
    have e7 : w10.cell? ⟨m, 7, none⟩ = some (.int .i64 n.tail) := b10.cell 7
    have e8 : w10.cell? ⟨m, 8, none⟩ = some (vl) := b10.cell 8
    have e9 : w10.cell? ⟨m, 9, none⟩ = some (.int .i64 n.entries) := b10.cell 9
    have f0 : w10.cell? ⟨q, 0, none⟩ = some (.int .i64 n.ino) := bq10.cell 0
    have f1 : w10.cell? ⟨q, 1, none⟩ = some (.int .i64 n.kind) := bq10.cell 1
    have f2 : w10.cell? ⟨q, 2, none⟩ = some (.int .i64 n.links) := bq10.cell 2
    have f3 : w10.cell? ⟨q, 3, none⟩ = some (.int .i64 n.size) := bq10.cell 3
    have f4 : w10.cell? ⟨q, 4, none⟩ = some (vm') := bq10.cell 4
    have f5 : w10.cell? ⟨q, 5, none⟩ = some (vn') := bq10.cell 5
    have f6 : w10.cell? ⟨q, 6, none⟩ = some (.int .i64 n.head) := bq10.cell 6
    have f7 : w10.cell? ⟨q, 7, none⟩ = some (.int .i64 n.tail) := bq10.cell 7
    have f8 : w10.cell? ⟨q, 8, none⟩ = some (vl') := bq10.cell 8
    have f9 : w10.cell? ⟨q, 9, none⟩ = some (.int .i64 n.entries) := bq10.cell 9
    go_wp2_with fail
    refine (lawSameNode w10 n vm vn vl vm' vn' vl' (HN.out.kept hM10) HI10.out).mono ?_
    rintro e w11 ⟨rfl, hm11⟩
    have hM11 := hM10.trans hm11
    clear b10 bq10 HI10 hM10 hm11 e0 e1 e2 e3 e4 e5 e6 e7 e8 e9 f0 f1 f2 f3 f4 f5 f6 f7 f8 f9
    go_wp2
    go_ret
    exact ⟨rfl, hM11⟩
end Go.Proofs.Ytabebkffcmajkaa
