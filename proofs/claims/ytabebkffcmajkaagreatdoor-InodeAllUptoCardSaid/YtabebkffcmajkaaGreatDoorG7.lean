import Derived.Laws.BitsLemmas
import Derived.Laws.Closers25b
import Derived.Lib.BufferWrite
import Derived.Deep.CutRange
import Derived.Deep.MidRow
import Derived.Test.YtabebkffcmajkaaGreatDoorG6
set_option linter.unusedVariables false
set_option linter.unusedSimpArgs false
/-! Walks: codec's sums. -/
namespace Go.Proofs.YtabebkffcmajkaaGreatDoor
open Go.RowKit Go.Maps Go.Shelf
attribute [local go_sem] quietV loudUpon Oper.semAt_some

def sumTab : List Int := [0, 498536548, 997073096, 651767980, 1994146192, 1802195444, 1303535960, 1342533948, 3988292384, 4027552580, 3604390888, 3412177804, 2607071920, 2262029012, 2685067896, 3183342108]
/-- the table that the sums are made with lies there -/
def Steps (w : World) : Prop := 0 < w.heap.size ∧ ∀ i : Nat, i < 16 → w.cell? ⟨0, i, none⟩ = some (.int .u32 (sumTab.getD i 0))
theorem Steps.mod {S : Nat → Prop} {w w' : World} (h : Steps w) (hm : Mod S w w') (hs : ¬ S 0) : Steps w' :=
  ⟨Nat.lt_of_lt_of_le h.1 hm.size, fun i hi => (World.cell?_of_block (hm.block 0 h.1 hs)).trans (h.2 i hi)⟩
theorem Steps.kept {w w' : World} (h : Steps w) (hm : Mod None_ w w') : Steps w' := h.mod hm id
def encU8 (b : Int) : List Value := [.int .u8 b]
/-- a slice of bytes -/
structure BytesAt (w : World) (v : Value) (l : List Int) : Prop where
  list : ListAt encU8 1 w v l
  ok : ∀ b ∈ l, 0 ≤ b ∧ b < 256
theorem BytesAt.kept {w w' : World} {v : Value} {l : List Int} (h : BytesAt w v l) (hm : Mod None_ w w') : BytesAt w' v l := ⟨h.list.kept hm, h.ok⟩
def half4 (x : Int) : Int := bits .xor .u32 (sumTab.getD (x % 16).toNat 0) (x / 16)
def sumStep (r b : Int) : Int := half4 (half4 (bits .xor .u32 r b))
def neg32 (s : Int) : Int := bits .xor .u32 IntKind.u32.max s
def sumOf (s : Int) (l : List Int) : Int := neg32 (l.foldl sumStep (neg32 s))
def U32 (r : Int) : Prop := 0 ≤ r ∧ r < 4294967296
theorem bits_u32 (op : BinOp) (a b : Int) : U32 (bits op .u32 a b) := by have h1 := bits_lo_u32 op a b; have h2 := bits_hi_u32 op a b; exact ⟨h1, by omega⟩
theorem sumStep_u32 (r b : Int) : U32 (sumStep r b) := by unfold sumStep half4; exact bits_u32 _ _ _
theorem sumOf_u32 (s : Int) (l : List Int) : U32 (sumOf s l) := by unfold sumOf neg32; exact bits_u32 _ _ _
theorem fold_u32 (l : List Int) (s : Int) (h : U32 s) : U32 (l.foldl sumStep s) := by
  induction l generalizing s with
  | nil => exact h
  | cons b l ih => exact ih _ (sumStep_u32 _ _)

set_option maxRecDepth 100000 in
set_option maxHeartbeats 1000000 in
theorem sumOn_any (w : World) (s : Int) (v : Value) (l : List Int) (hs : Steps w) (hb : BytesAt w v l) : Calls Tryz.prog 81 #[.int .u32 s, v] w fun e w' => e = .returned (.int .u32 (sumOf s l)) ∧ w = w' := by
  obtain ⟨⟨A, c, rfl, hn, hc, hcell⟩, hok⟩ := hb
  unfold maxLen at hc
  have hll : ∀ w, (Builtin.len_ #[145] 3 #[.slice A l.length c]).run Tryz.prog w = .ok (.int .i64 l.length) w := fun w => by simp [Builtin.len_, run_underlying Tryz.underlying145]; rfl
  obtain ⟨r0, hr0⟩ : ∃ r, r = neg32 s := ⟨_, rfl⟩
  have E0 := hide hr0
  go_enter Tryz.func81, Tryz.ntmps81
  go_wp2_with fail
  rw [show bits .xor .u32 IntKind.u32.max s = r0 from hr0.symm]
  clear hr0
  go_loopw [12, 5] (fun s12 s5 wr => ∃ (k : Nat) (r : Int), k ≤ l.length ∧ s12 = .int .i64 k ∧ s5 = .int .u32 r ∧ r = (l.take k).foldl sumStep r0 ∧ w = wr) (fun s12 _ _ => l.length - (intOf s12).toNat)
  case atStart => exact ⟨0, r0, Nat.zero_le _, rfl, rfl, rfl, rfl⟩
  obtain ⟨k, r, hk, rfl, rfl, hr, rfl⟩ := hrel
  by_cases hlt : k < l.length
  · have hki : (k : Int) < l.length := by omega
    obtain ⟨g, o, rfl, hg, hcell⟩ := hcell (by omega)
    have hcb : w.cell? ⟨g, o + k, none⟩ = some (.int .u8 l[k]) := by simpa using hcell k hlt 0 _ rfl
    obtain ⟨hb0, hb1⟩ := hok _ (List.getElem_mem hlt)
    have hnext : sumStep r l[k] = (l.take (k + 1)).foldl sumStep r0 := by rw [List.take_succ_eq_append_getElem hlt, List.foldl_append, ← hr]; rfl
    obtain ⟨b, hbb⟩ : ∃ b, b = l[k] := ⟨_, rfl⟩
    rw [← hbb] at hcb hb0 hb1 hnext
    have HN := hide hnext
    clear hnext hbb hcell hr
    go_upto_region 6 with fail
    obtain ⟨x, hx⟩ : ∃ x, x = bits .xor .u32 r b := ⟨_, rfl⟩
    have hx1 : U32 x := by rw [hx]; exact bits_u32 _ _ _
    rw [← hx]
    have HX := hide hx
    clear hx hcb
    obtain ⟨hx0, hx1⟩ := hx1
    obtain ⟨j, hj⟩ : ∃ j : Nat, x % 16 = j := ⟨(x % 16).toNat, by omega⟩
    have hj16 : (j : Int) < 16 := by omega
    have hct := hs.2 j (by omega)
    have a1 : bits .and .u32 x 15 = (j : Int) := by rw [← hj]; exact bits_mask .u32 32 (by decide) (fun n h0 h1 => by rw [IntKind.wrap_u32]; omega) 4 (by decide) x hx0 hx1
    have HY : Hid (half4 x = bits .xor .u32 (sumTab.getD j 0) (x / 16)) := hide (by unfold half4; rw [hj]; rfl)
    obtain ⟨t, ht⟩ : ∃ t, t = sumTab.getD j 0 := ⟨_, rfl⟩
    rw [← ht] at hct HY
    clear hj ht
    go_upto_region 7 with fail
    rw [← HY.out]
    obtain ⟨y, hy⟩ : ∃ y, y = half4 x := ⟨_, rfl⟩
    have hy1 : U32 y := by rw [hy]; exact bits_u32 _ _ _
    rw [← hy]
    rw [← hy] at HY
    have HYY := hide hy
    clear hy hct a1
    obtain ⟨hy0, hy1⟩ := hy1
    obtain ⟨j2, hj2⟩ : ∃ j : Nat, y % 16 = j := ⟨(y % 16).toNat, by omega⟩
    have hj216 : (j2 : Int) < 16 := by omega
    have hct := hs.2 j2 (by omega)
    have a1 : bits .and .u32 y 15 = (j2 : Int) := by rw [← hj2]; exact bits_mask .u32 32 (by decide) (fun n h0 h1 => by rw [IntKind.wrap_u32]; omega) 4 (by decide) y hy0 hy1
    have HZ : Hid (half4 y = bits .xor .u32 (sumTab.getD j2 0) (y / 16)) := hide (by unfold half4; rw [hj2]; rfl)
    obtain ⟨t2, ht2⟩ : ∃ t, t = sumTab.getD j2 0 := ⟨_, rfl⟩
    rw [← ht2] at hct HZ
    clear hj2 ht2
    go_wp2_with fail
    go_roundw
    case rel => exact ⟨k + 1, _, by omega, by simp, rfl, by rw [← HN.out, ← HZ.out, HYY.out, HX.out]; rfl, trivial⟩
    case measure => simp [intOf]; omega
  · obtain rfl : k = l.length := by omega
    have hkn : ¬ (l.length : Int) < l.length := by omega
    rw [List.take_length] at hr
    have HR := hide hr
    clear hr
    go_wp2
    go_ret
    exact ⟨by unfold sumOf; rw [← E0.out, ← HR.out]; rfl, rfl⟩
theorem sum_any (w : World) (v : Value) (l : List Int) (hs : Steps w) (hb : BytesAt w v l) : Calls Tryz.prog 72 #[v] w fun e w' => e = .returned (.int .u32 (sumOf 0 l)) ∧ w = w' := by
  obtain ⟨s, hs0⟩ : ∃ s, s = sumOf 0 l := ⟨_, rfl⟩
  have H := hide (sumOn_any w 0 v l hs hb)
  rw [← hs0] at H ⊢
  clear hs hb hs0
  go_enter Tryz.func72, Tryz.ntmps72
  go_wp2_with fail
  refine Calls.mono H.out ?_
  rintro e w2 ⟨rfl, rfl⟩
  go_wp2
  go_ret
  exact ⟨rfl, rfl⟩
end Go.Proofs.YtabebkffcmajkaaGreatDoor

/-! Walks: layout's within and goodEntry. (Printed by mk_LY1.py.) -/
namespace Go.Proofs.YtabebkffcmajkaaGreatDoor
open Go.RowKit Go.Maps Go.Shelf
attribute [local go_sem] quietV loudUpon Oper.semAt_some

def wi (n lo hi : Int) : Bool := decide (lo ≤ n) && decide (n ≤ hi)
theorem within_any (w : World) (n lo hi : Int) : Calls Tryz.prog 70 #[.int .i64 n, .int .i64 lo, .int .i64 hi] w fun e w' => e = .returned (.bool (wi n lo hi)) ∧ w = w' := by
  by_cases h1 : lo ≤ n
  · have d1 : decide (lo ≤ n) = true := decide_eq_true h1
    by_cases h2 : n ≤ hi
    · have d2 : decide (n ≤ hi) = true := decide_eq_true h2
      have E : Hid (wi n lo hi = true) := hide (by unfold wi; rw [d1, d2]; rfl)
      go_enter Tryz.func70, Tryz.ntmps70
      go_wp2
      go_ret
      exact ⟨by rw [E.out]; rfl, rfl⟩
    · have d2 : decide (n ≤ hi) = false := decide_eq_false h2
      have E : Hid (wi n lo hi = false) := hide (by unfold wi; rw [d2]; simp)
      go_enter Tryz.func70, Tryz.ntmps70
      go_wp2
      go_ret
      exact ⟨by rw [E.out]; rfl, rfl⟩
  · have d1 : decide (lo ≤ n) = false := decide_eq_false h1
    have E : Hid (wi n lo hi = false) := hide (by unfold wi; rw [d1]; rfl)
    go_enter Tryz.func70, Tryz.ntmps70
    go_wp2
    go_ret
    exact ⟨by rw [E.out]; rfl, rfl⟩
def seqB (e : EntD) : Bool := !(decide (e.seq = 0)) && !(decide (4611686018427387904 < e.seq))
def noPagesB (e : EntD) : Bool := (e.off == 0) && ((e.count == 0) && (e.page == 0))
def sizeB (e : EntD) : Bool := wi e.size 0 262144
def noNameB (e : EntD) : Bool := e.name.toList.isEmpty
def roomB (e : EntD) : Bool := wi e.count 1 16 && (wi e.off 0 (512 - e.count) && wi e.page 5 (1024 - e.count))
def goodEnt (e : EntD) : Bool :=
  seqB e && (if e.kind = 1 then roomB e && (sizeB e && (noNameB e && (e.ino == 0)))
    else if e.kind = 2 then noPagesB e && (sizeB e && (noNameB e && (e.ino == 0)))
    else if e.kind = 3 then noPagesB e && ((e.size == 0) && (wi e.ino 2 256 && goodName e.name))
    else if e.kind = 4 then noPagesB e && ((e.size == 0) && ((e.ino == 0) && goodName e.name)) else false)
theorem wi_iff {n lo hi : Int} : wi n lo hi = true ↔ lo ≤ n ∧ n ≤ hi := by simp [wi]
theorem beqB_false {a : Int} (h : (a == 0) = false) : ¬ a = 0 := by simpa using h
theorem seqB_false1 {e : EntD} (h : e.seq = 0) : goodEnt e = false := by unfold goodEnt seqB; rw [decide_eq_true h]; rfl
theorem seqB_false2 {e : EntD} (h : 4611686018427387904 < e.seq) : goodEnt e = false := by unfold goodEnt seqB; rw [decide_eq_true h]; simp
theorem goodEnt_of {e : EntD} (h1 : ¬ e.seq = 0) (h2 : ¬ 4611686018427387904 < e.seq) : goodEnt e = (if e.kind = 1 then roomB e && (sizeB e && (noNameB e && (e.ino == 0)))
    else if e.kind = 2 then noPagesB e && (sizeB e && (noNameB e && (e.ino == 0)))
    else if e.kind = 3 then noPagesB e && ((e.size == 0) && (wi e.ino 2 256 && goodName e.name))
    else if e.kind = 4 then noPagesB e && ((e.size == 0) && ((e.ino == 0) && goodName e.name)) else false) := by
  unfold goodEnt seqB; rw [decide_eq_false h1, decide_eq_false h2]; rfl

set_option maxRecDepth 100000 in
set_option maxHeartbeats 2000000 in
theorem goodEntry_any (w : World) (e : EntD) : Calls Tryz.prog 57 #[.agg (encEntry e).toArray] w (BoolPost w (goodEnt e)) := by
  unfold encEntry
  go_enter Tryz.func57, Tryz.ntmps57
  obtain ⟨m, hm⟩ : ∃ m, m = w.heap.size := ⟨_, rfl⟩
  obtain ⟨w1, hw1⟩ : ∃ w1, w1 = w.alloc (.cells (encEntry e).toArray 49) := ⟨_, rfl⟩
  have hM : Mod None_ w w1 := by rw [hw1]; exact (Mod.refl _ w).alloc _
  have b1 : Blk w1 m 49 (encEntry e).toArray := by rw [hw1, hm]; exact Blk.new w 49 _
  have c0 : w1.cell? ⟨m, 0, none⟩ = some (.int .i64 e.kind) := b1.cell 0
  have c1 : w1.cell? ⟨m, 1, none⟩ = some (.int .u64 e.seq) := b1.cell 1
  have c2 : w1.cell? ⟨m, 2, none⟩ = some (.int .i64 e.off) := b1.cell 2
  have c3 : w1.cell? ⟨m, 3, none⟩ = some (.int .i64 e.count) := b1.cell 3
  have c4 : w1.cell? ⟨m, 4, none⟩ = some (.int .i64 e.page) := b1.cell 4
  have c5 : w1.cell? ⟨m, 5, none⟩ = some (.int .i64 e.size) := b1.cell 5
  have c6 : w1.cell? ⟨m, 6, none⟩ = some (.int .i64 e.ino) := b1.cell 6
  have c7 : w1.cell? ⟨m, 7, none⟩ = some (.string e.name) := b1.cell 7
  unfold encEntry at hw1
  have HW1 := hide hw1
  have HMM := hide hm
  have B1 := hide b1
  clear hw1 hm b1
  go_upto_region 1 with fail
  rw [← HMM.out, ← HW1.out]
  clear HMM HW1
  by_cases hq0 : e.seq = 0
  · have d0 : (e.seq == 0) = true := by simp [hq0]
    have hfin : BoolPost w (goodEnt e) (.returned (.bool false)) w1 := by rw [seqB_false1 hq0]; exact ⟨rfl, hM⟩
    have HF := hide hfin
    clear hfin hq0
    go_wp2
    go_ret
    exact HF.out
  have d0 : (e.seq == 0) = false := by simpa using hq0
  by_cases hq1 : 4611686018427387904 < e.seq
  · have d1 : decide (4611686018427387904 < e.seq) = true := decide_eq_true hq1
    have hfin : BoolPost w (goodEnt e) (.returned (.bool false)) w1 := by rw [seqB_false2 hq1]; exact ⟨rfl, hM⟩
    have HF := hide hfin
    clear hfin hq1 hq0
    go_wp2
    go_ret
    exact HF.out
  have d1 : decide (4611686018427387904 < e.seq) = false := decide_eq_false hq1
  have HG := hide (goodEnt_of hq0 hq1)
  clear hq0 hq1
  go_upto_region 3 with fail
  go_cut [3, 4] from 15 to 30 (fun s3 s4 wx => s3 = .bool (noNameB e) ∧ s4 = .bool (noPagesB e) ∧ Mod None_ w wx ∧ Blk wx m 49 (encEntry e).toArray)
  case first =>
    have hnn : noNameB e = e.name.toList.isEmpty := rfl
    have HNN := hide hnn
    clear hnn
    by_cases hn : e.name.toList = []
    · have he : e.name.toList.isEmpty = true := by rw [hn]; rfl
      have HE := hide he
      by_cases h2 : e.off = 0
      · have f2 : (e.off == 0) = true := by simp [h2]
        by_cases h3 : e.count = 0
        · have f3 : (e.count == 0) = true := by simp [h3]
          by_cases h4 : e.page = 0
          · have f4 : (e.page == 0) = true := by simp [h4]
            have HNP : Hid (noPagesB e = true) := hide (by unfold noPagesB; rw [f2, f3, f4]; rfl)
            clear h2 h3 h4
            go_wp2_with fail
            refine region_stw (by kernel_rfl) (by kernel_rfl) ?_
            rintro w3 hw3
            have hm3 : Mod None_ w1 w3 := by rw [hw3]; exact (Mod.refl _ w1).drew
            have hM3 := hM.trans hm3
            have b3 := B1.out.mod hm3 id
            have y2 : w3.cell? ⟨m, 2, none⟩ = some (.int .i64 e.off) := b3.cell 2
            have y3 : w3.cell? ⟨m, 3, none⟩ = some (.int .i64 e.count) := b3.cell 3
            have y4 : w3.cell? ⟨m, 4, none⟩ = some (.int .i64 e.page) := b3.cell 4
            have y7 : w3.cell? ⟨m, 7, none⟩ = some (.string e.name) := b3.cell 7
            clear hw3 hm3
            repeat (refine stw_step (fun K hK => ?_); go_simp; refine hK _ ?_; clear hK K)
            refine stw_nil ?_
            go_wp2_with fail
            go_meet
            case rel => exact ⟨by rw [HNN.out, HE.out], by rw [HNP.out], hM3, b3⟩
          · have f4 : (e.page == 0) = false := by simpa using h4
            have HNP : Hid (noPagesB e = false) := hide (by unfold noPagesB; rw [f4]; simp)
            clear h2 h3 h4
            go_wp2_with fail
            refine region_stw (by kernel_rfl) (by kernel_rfl) ?_
            rintro w3 hw3
            have hm3 : Mod None_ w1 w3 := by rw [hw3]; exact (Mod.refl _ w1).drew
            have hM3 := hM.trans hm3
            have b3 := B1.out.mod hm3 id
            have y2 : w3.cell? ⟨m, 2, none⟩ = some (.int .i64 e.off) := b3.cell 2
            have y3 : w3.cell? ⟨m, 3, none⟩ = some (.int .i64 e.count) := b3.cell 3
            have y4 : w3.cell? ⟨m, 4, none⟩ = some (.int .i64 e.page) := b3.cell 4
            have y7 : w3.cell? ⟨m, 7, none⟩ = some (.string e.name) := b3.cell 7
            clear hw3 hm3
            repeat (refine stw_step (fun K hK => ?_); go_simp; refine hK _ ?_; clear hK K)
            refine stw_nil ?_
            go_wp2_with fail
            go_meet
            case rel => exact ⟨by rw [HNN.out, HE.out], by rw [HNP.out], hM3, b3⟩
        · have f3 : (e.count == 0) = false := by simpa using h3
          have HNP : Hid (noPagesB e = false) := hide (by unfold noPagesB; rw [f3]; simp)
          clear h2 h3
          go_wp2_with fail
          refine region_stw (by kernel_rfl) (by kernel_rfl) ?_
          rintro w3 hw3
          have hm3 : Mod None_ w1 w3 := by rw [hw3]; exact (Mod.refl _ w1).drew
          have hM3 := hM.trans hm3
          have b3 := B1.out.mod hm3 id
          have y2 : w3.cell? ⟨m, 2, none⟩ = some (.int .i64 e.off) := b3.cell 2
          have y3 : w3.cell? ⟨m, 3, none⟩ = some (.int .i64 e.count) := b3.cell 3
          have y4 : w3.cell? ⟨m, 4, none⟩ = some (.int .i64 e.page) := b3.cell 4
          have y7 : w3.cell? ⟨m, 7, none⟩ = some (.string e.name) := b3.cell 7
          clear hw3 hm3
          repeat (refine stw_step (fun K hK => ?_); go_simp; refine hK _ ?_; clear hK K)
          refine stw_nil ?_
          go_wp2_with fail
          go_meet
          case rel => exact ⟨by rw [HNN.out, HE.out], by rw [HNP.out], hM3, b3⟩
      · have f2 : (e.off == 0) = false := by simpa using h2
        have HNP : Hid (noPagesB e = false) := hide (by unfold noPagesB; rw [f2]; simp)
        clear h2
        go_wp2_with fail
        refine region_stw (by kernel_rfl) (by kernel_rfl) ?_
        rintro w3 hw3
        have hm3 : Mod None_ w1 w3 := by rw [hw3]; exact (Mod.refl _ w1).drew
        have hM3 := hM.trans hm3
        have b3 := B1.out.mod hm3 id
        have y2 : w3.cell? ⟨m, 2, none⟩ = some (.int .i64 e.off) := b3.cell 2
        have y3 : w3.cell? ⟨m, 3, none⟩ = some (.int .i64 e.count) := b3.cell 3
        have y4 : w3.cell? ⟨m, 4, none⟩ = some (.int .i64 e.page) := b3.cell 4
        have y7 : w3.cell? ⟨m, 7, none⟩ = some (.string e.name) := b3.cell 7
        clear hw3 hm3
        repeat (refine stw_step (fun K hK => ?_); go_simp; refine hK _ ?_; clear hK K)
        refine stw_nil ?_
        go_wp2_with fail
        go_meet
        case rel => exact ⟨by rw [HNN.out, HE.out], by rw [HNP.out], hM3, b3⟩
    · have he : e.name.toList.isEmpty = false := by
        cases hq : e.name.toList with
        | nil => exact absurd hq hn
        | cons a l => rfl
      have HE := hide he
      by_cases h2 : e.off = 0
      · have f2 : (e.off == 0) = true := by simp [h2]
        by_cases h3 : e.count = 0
        · have f3 : (e.count == 0) = true := by simp [h3]
          by_cases h4 : e.page = 0
          · have f4 : (e.page == 0) = true := by simp [h4]
            have HNP : Hid (noPagesB e = true) := hide (by unfold noPagesB; rw [f2, f3, f4]; rfl)
            clear h2 h3 h4
            go_wp2_with fail
            refine region_stw (by kernel_rfl) (by kernel_rfl) ?_
            rintro w3 hw3
            have hm3 : Mod None_ w1 w3 := by rw [hw3]; exact (Mod.refl _ w1).drew
            have hM3 := hM.trans hm3
            have b3 := B1.out.mod hm3 id
            have y2 : w3.cell? ⟨m, 2, none⟩ = some (.int .i64 e.off) := b3.cell 2
            have y3 : w3.cell? ⟨m, 3, none⟩ = some (.int .i64 e.count) := b3.cell 3
            have y4 : w3.cell? ⟨m, 4, none⟩ = some (.int .i64 e.page) := b3.cell 4
            have y7 : w3.cell? ⟨m, 7, none⟩ = some (.string e.name) := b3.cell 7
            clear hw3 hm3
            repeat (refine stw_step (fun K hK => ?_); go_simp; refine hK _ ?_; clear hK K)
            refine stw_nil ?_
            go_wp2_with fail
            go_meet
            case rel => exact ⟨by rw [HNN.out, HE.out], by rw [HNP.out], hM3, b3⟩
          · have f4 : (e.page == 0) = false := by simpa using h4
            have HNP : Hid (noPagesB e = false) := hide (by unfold noPagesB; rw [f4]; simp)
            clear h2 h3 h4
            go_wp2_with fail
            refine region_stw (by kernel_rfl) (by kernel_rfl) ?_
            rintro w3 hw3
            have hm3 : Mod None_ w1 w3 := by rw [hw3]; exact (Mod.refl _ w1).drew
            have hM3 := hM.trans hm3
            have b3 := B1.out.mod hm3 id
            have y2 : w3.cell? ⟨m, 2, none⟩ = some (.int .i64 e.off) := b3.cell 2
            have y3 : w3.cell? ⟨m, 3, none⟩ = some (.int .i64 e.count) := b3.cell 3
            have y4 : w3.cell? ⟨m, 4, none⟩ = some (.int .i64 e.page) := b3.cell 4
            have y7 : w3.cell? ⟨m, 7, none⟩ = some (.string e.name) := b3.cell 7
            clear hw3 hm3
            repeat (refine stw_step (fun K hK => ?_); go_simp; refine hK _ ?_; clear hK K)
            refine stw_nil ?_
            go_wp2_with fail
            go_meet
            case rel => exact ⟨by rw [HNN.out, HE.out], by rw [HNP.out], hM3, b3⟩
        · have f3 : (e.count == 0) = false := by simpa using h3
          have HNP : Hid (noPagesB e = false) := hide (by unfold noPagesB; rw [f3]; simp)
          clear h2 h3
          go_wp2_with fail
          refine region_stw (by kernel_rfl) (by kernel_rfl) ?_
          rintro w3 hw3
          have hm3 : Mod None_ w1 w3 := by rw [hw3]; exact (Mod.refl _ w1).drew
          have hM3 := hM.trans hm3
          have b3 := B1.out.mod hm3 id
          have y2 : w3.cell? ⟨m, 2, none⟩ = some (.int .i64 e.off) := b3.cell 2
          have y3 : w3.cell? ⟨m, 3, none⟩ = some (.int .i64 e.count) := b3.cell 3
          have y4 : w3.cell? ⟨m, 4, none⟩ = some (.int .i64 e.page) := b3.cell 4
          have y7 : w3.cell? ⟨m, 7, none⟩ = some (.string e.name) := b3.cell 7
          clear hw3 hm3
          repeat (refine stw_step (fun K hK => ?_); go_simp; refine hK _ ?_; clear hK K)
          refine stw_nil ?_
          go_wp2_with fail
          go_meet
          case rel => exact ⟨by rw [HNN.out, HE.out], by rw [HNP.out], hM3, b3⟩
      · have f2 : (e.off == 0) = false := by simpa using h2
        have HNP : Hid (noPagesB e = false) := hide (by unfold noPagesB; rw [f2]; simp)
        clear h2
        go_wp2_with fail
        refine region_stw (by kernel_rfl) (by kernel_rfl) ?_
        rintro w3 hw3
        have hm3 : Mod None_ w1 w3 := by rw [hw3]; exact (Mod.refl _ w1).drew
        have hM3 := hM.trans hm3
        have b3 := B1.out.mod hm3 id
        have y2 : w3.cell? ⟨m, 2, none⟩ = some (.int .i64 e.off) := b3.cell 2
        have y3 : w3.cell? ⟨m, 3, none⟩ = some (.int .i64 e.count) := b3.cell 3
        have y4 : w3.cell? ⟨m, 4, none⟩ = some (.int .i64 e.page) := b3.cell 4
        have y7 : w3.cell? ⟨m, 7, none⟩ = some (.string e.name) := b3.cell 7
        clear hw3 hm3
        repeat (refine stw_step (fun K hK => ?_); go_simp; refine hK _ ?_; clear hK K)
        refine stw_nil ?_
        go_wp2_with fail
        go_meet
        case rel => exact ⟨by rw [HNN.out, HE.out], by rw [HNP.out], hM3, b3⟩
  case rest =>
    obtain ⟨rfl, rfl, hMc, bc⟩ := hcut
    clear hM c0 c1 c2 c3 c4 c5 c6 c7 B1
    have c0 : wc.cell? ⟨m, 0, none⟩ = some (.int .i64 e.kind) := bc.cell 0
    have c2 : wc.cell? ⟨m, 2, none⟩ = some (.int .i64 e.off) := bc.cell 2
    have c3 : wc.cell? ⟨m, 3, none⟩ = some (.int .i64 e.count) := bc.cell 3
    have c4 : wc.cell? ⟨m, 4, none⟩ = some (.int .i64 e.page) := bc.cell 4
    have c5 : wc.cell? ⟨m, 5, none⟩ = some (.int .i64 e.size) := bc.cell 5
    have c6 : wc.cell? ⟨m, 6, none⟩ = some (.int .i64 e.ino) := bc.cell 6
    have c7 : wc.cell? ⟨m, 7, none⟩ = some (.string e.name) := bc.cell 7
    obtain ⟨bn, hbn⟩ : ∃ b, b = noNameB e := ⟨_, rfl⟩
    obtain ⟨bp, hbp⟩ : ∃ b, b = noPagesB e := ⟨_, rfl⟩
    rw [← hbn, ← hbp]
    rw [← hbn, ← hbp] at HG
    clear hbn hbp
    go_wp2_with fail
    refine (within_any wc e.size 0 262144).mono ?_
    rintro ee w2 ⟨rfl, rfl⟩
    rw [show wi e.size 0 262144 = sizeB e from rfl]
    obtain ⟨bs, hbs⟩ : ∃ b, b = sizeB e := ⟨_, rfl⟩
    rw [← hbs]
    rw [← hbs] at HG
    clear hbs
    by_cases hk1 : e.kind = 1
    · have k1 : (e.kind == 1) = true := by simp [hk1]
      have HK := hide (HG.out.trans (if_pos hk1))
      clear hk1
      go_wp2_with fail
      refine (within_any wc e.count 1 16).mono ?_
      rintro e2 w2 ⟨rfl, rfl⟩
      cases r1 : wi e.count 1 16 with
      | false =>
        have HF : Hid (BoolPost w (goodEnt e) (.returned (.bool false)) wc) := hide (by rw [HK.out]; unfold roomB; rw [r1]; exact ⟨rfl, hMc⟩)
        clear r1
        go_wp2
        go_ret
        exact HF.out
      | true =>
        have R1 := hide r1
        obtain ⟨q1, q2⟩ := wi_iff.1 r1
        clear r1
        go_wp2_with fail
        refine (within_any wc e.off 0 (512 - e.count)).mono ?_
        rintro e2 w2 ⟨rfl, rfl⟩
        cases r2 : wi e.off 0 (512 - e.count) with
        | false =>
          have HF : Hid (BoolPost w (goodEnt e) (.returned (.bool false)) wc) := hide (by rw [HK.out]; unfold roomB; rw [R1.out, r2]; exact ⟨rfl, hMc⟩)
          clear r2
          go_wp2
          go_ret
          exact HF.out
        | true =>
          have R2 := hide r2
          clear r2
          go_wp2_with fail
          refine (within_any wc e.page 5 (1024 - e.count)).mono ?_
          rintro e2 w2 ⟨rfl, rfl⟩
          cases r3 : wi e.page 5 (1024 - e.count) with
          | false =>
            have HF : Hid (BoolPost w (goodEnt e) (.returned (.bool false)) wc) := hide (by rw [HK.out]; unfold roomB; rw [R1.out, R2.out, r3]; exact ⟨rfl, hMc⟩)
            clear r3
            go_wp2
            go_ret
            exact HF.out
          | true =>
            have HR : Hid (roomB e = true) := hide (by unfold roomB; rw [R1.out, R2.out, r3]; rfl)
            clear r3
            cases bs with
            | false =>
              have HF : Hid (BoolPost w (goodEnt e) (.returned (.bool false)) wc) := hide (by rw [HK.out, HR.out]; exact ⟨rfl, hMc⟩)
              go_wp2
              go_ret
              exact HF.out
            | true =>
              cases bn with
              | false =>
                have HF : Hid (BoolPost w (goodEnt e) (.returned (.bool false)) wc) := hide (by rw [HK.out, HR.out]; exact ⟨rfl, hMc⟩)
                go_wp2
                go_ret
                exact HF.out
              | true =>
                cases zeino : (e.ino == 0) with
                | false =>
                  have HF : Hid (BoolPost w (goodEnt e) (.returned (.bool false)) wc) := hide (by rw [HK.out, HR.out, zeino]; exact ⟨rfl, hMc⟩)
                  go_wp2
                  go_ret
                  exact HF.out
                | true =>
                  have HF : Hid (BoolPost w (goodEnt e) (.returned (.bool true)) wc) := hide (by rw [HK.out, HR.out, zeino]; exact ⟨rfl, hMc⟩)
                  go_wp2
                  go_ret
                  exact HF.out
    by_cases hk2 : e.kind = 2
    · have k1 : (e.kind == 1) = false := by simp [hk2]
      have k2 : (e.kind == 2) = true := by simp [hk2]
      have HK := hide ((HG.out.trans (if_neg hk1)).trans (if_pos hk2))
      clear hk1 hk2
      cases bp with
      | false =>
        have HF : Hid (BoolPost w (goodEnt e) (.returned (.bool false)) wc) := hide (by rw [HK.out]; exact ⟨rfl, hMc⟩)
        go_wp2
        go_ret
        exact HF.out
      | true =>
        cases bs with
        | false =>
          have HF : Hid (BoolPost w (goodEnt e) (.returned (.bool false)) wc) := hide (by rw [HK.out]; exact ⟨rfl, hMc⟩)
          go_wp2
          go_ret
          exact HF.out
        | true =>
          cases bn with
          | false =>
            have HF : Hid (BoolPost w (goodEnt e) (.returned (.bool false)) wc) := hide (by rw [HK.out]; exact ⟨rfl, hMc⟩)
            go_wp2
            go_ret
            exact HF.out
          | true =>
            cases zeino : (e.ino == 0) with
            | false =>
              have HF : Hid (BoolPost w (goodEnt e) (.returned (.bool false)) wc) := hide (by rw [HK.out, zeino]; exact ⟨rfl, hMc⟩)
              go_wp2
              go_ret
              exact HF.out
            | true =>
              have HF : Hid (BoolPost w (goodEnt e) (.returned (.bool true)) wc) := hide (by rw [HK.out, zeino]; exact ⟨rfl, hMc⟩)
              go_wp2
              go_ret
              exact HF.out
    by_cases hk3 : e.kind = 3
    · have k1 : (e.kind == 1) = false := by simp [hk3]
      have k2 : (e.kind == 2) = false := by simp [hk3]
      have k3 : (e.kind == 3) = true := by simp [hk3]
      have HK := hide (((HG.out.trans (if_neg hk1)).trans (if_neg hk2)).trans (if_pos hk3))
      clear hk1 hk2 hk3
      cases bp with
      | false =>
        have HF : Hid (BoolPost w (goodEnt e) (.returned (.bool false)) wc) := hide (by rw [HK.out]; exact ⟨rfl, hMc⟩)
        go_wp2
        go_ret
        exact HF.out
      | true =>
        cases zesize : (e.size == 0) with
        | false =>
          have HF : Hid (BoolPost w (goodEnt e) (.returned (.bool false)) wc) := hide (by rw [HK.out, zesize]; exact ⟨rfl, hMc⟩)
          go_wp2
          go_ret
          exact HF.out
        | true =>
          go_wp2_with fail
          refine (within_any wc e.ino 2 256).mono ?_
          rintro e2 w2 ⟨rfl, rfl⟩
          cases reino : wi e.ino 2 256 with
          | false =>
            have HF : Hid (BoolPost w (goodEnt e) (.returned (.bool false)) wc) := hide (by rw [HK.out, zesize, reino]; exact ⟨rfl, hMc⟩)
            go_wp2
            go_ret
            exact HF.out
          | true =>
            go_wp2_with fail
            refine (validName_any e.name wc).mono ?_
            rintro e2 w9 ⟨rfl, hm9⟩
            have hM9 := hMc.trans hm9
            cases rg : goodName e.name with
            | false =>
              have HF : Hid (BoolPost w (goodEnt e) (.returned (.bool false)) w9) := hide (by rw [HK.out, zesize, reino, rg]; exact ⟨rfl, hM9⟩)
              go_wp2
              go_ret
              exact HF.out
            | true =>
              have HF : Hid (BoolPost w (goodEnt e) (.returned (.bool true)) w9) := hide (by rw [HK.out, zesize, reino, rg]; exact ⟨rfl, hM9⟩)
              go_wp2
              go_ret
              exact HF.out
    by_cases hk4 : e.kind = 4
    · have k1 : (e.kind == 1) = false := by simp [hk4]
      have k2 : (e.kind == 2) = false := by simp [hk4]
      have k3 : (e.kind == 3) = false := by simp [hk4]
      have k4 : (e.kind == 4) = true := by simp [hk4]
      have HK := hide ((((HG.out.trans (if_neg hk1)).trans (if_neg hk2)).trans (if_neg hk3)).trans (if_pos hk4))
      clear hk1 hk2 hk3 hk4
      cases bp with
      | false =>
        have HF : Hid (BoolPost w (goodEnt e) (.returned (.bool false)) wc) := hide (by rw [HK.out]; exact ⟨rfl, hMc⟩)
        go_wp2
        go_ret
        exact HF.out
      | true =>
        cases zesize : (e.size == 0) with
        | false =>
          have HF : Hid (BoolPost w (goodEnt e) (.returned (.bool false)) wc) := hide (by rw [HK.out, zesize]; exact ⟨rfl, hMc⟩)
          go_wp2
          go_ret
          exact HF.out
        | true =>
          cases zeino : (e.ino == 0) with
          | false =>
            have HF : Hid (BoolPost w (goodEnt e) (.returned (.bool false)) wc) := hide (by rw [HK.out, zesize, zeino]; exact ⟨rfl, hMc⟩)
            go_wp2
            go_ret
            exact HF.out
          | true =>
            go_wp2_with fail
            refine (validName_any e.name wc).mono ?_
            rintro e2 w9 ⟨rfl, hm9⟩
            have hM9 := hMc.trans hm9
            cases rg : goodName e.name with
            | false =>
              have HF : Hid (BoolPost w (goodEnt e) (.returned (.bool false)) w9) := hide (by rw [HK.out, zesize, zeino, rg]; exact ⟨rfl, hM9⟩)
              go_wp2
              go_ret
              exact HF.out
            | true =>
              have HF : Hid (BoolPost w (goodEnt e) (.returned (.bool true)) w9) := hide (by rw [HK.out, zesize, zeino, rg]; exact ⟨rfl, hM9⟩)
              go_wp2
              go_ret
              exact HF.out
    have k1 : (e.kind == 1) = false := by simpa using hk1
    have k2 : (e.kind == 2) = false := by simpa using hk2
    have k3 : (e.kind == 3) = false := by simpa using hk3
    have k4 : (e.kind == 4) = false := by simpa using hk4
    have HF : Hid (BoolPost w (goodEnt e) (.returned (.bool false)) wc) := hide (by rw [((((HG.out.trans (if_neg hk1)).trans (if_neg hk2)).trans (if_neg hk3)).trans (if_neg hk4))]; exact ⟨rfl, hMc⟩)
    clear hk1 hk2 hk3 hk4
    go_wp2
    go_ret
    exact HF.out
end Go.Proofs.YtabebkffcmajkaaGreatDoor

/-! Walks: codec's Close. -/
namespace Go.Proofs.YtabebkffcmajkaaGreatDoor
open Go.RowKit Go.Maps Go.Shelf
attribute [local go_sem] quietV loudUpon Oper.semAt_some

def lineC (f : Nat → Int) : Array Value := Array.ofFn (n := 64) fun i => .int .u8 (f i)
theorem lineC_size (f : Nat → Int) : (lineC f).size = 64 := by simp [lineC]
theorem lineC_get (f : Nat → Int) {i : Nat} (h : i < 64) : (lineC f)[i]? = some (.int .u8 (f i)) := by simp [lineC, h]
theorem lineC_set (f : Nat → Int) {i : Nat} (h : i < 64) (v : Int) : (lineC f).setIfInBounds i (.int .u8 v) = lineC (setAt f i v) := by
  apply Array.ext
  · simp [lineC]
  · intro j h1 h2
    simp only [lineC, Array.getElem_ofFn, setAt]
    by_cases e : i = j
    · subst e; simp
    · have e2 : ¬ j = i := fun h => e h.symm
      rw [Array.getElem_setIfInBounds_ne (by simpa [lineC] using h2) e]
      simp [e2]
theorem lineC_one (f : Nat → Int) : (lineC f).all (·.oneCell') = true := by
  rw [Array.all_eq_true]
  intro i hi
  have hi2 : i < 64 := by rw [← lineC_size f]; exact hi
  have e := lineC_get f hi2
  rw [Array.getElem?_eq_getElem hi] at e
  rw [Option.some.inj e]; rfl
theorem infoLine (f : Nat → Int) : (Tryz.prog.info? 88).map (·.size) = some (lineC f).size := by rw [lineC_size]; kernel_rfl
theorem zeroLine (w : World) : (zeroValue 88).run Tryz.prog w = .ok (.agg (lineC fun _ => 0)) w := by kernel_rfl
def Bytes (f : Nat → Int) : Prop := ∀ i, 0 ≤ f i ∧ f i < 256
theorem Bytes.set {f : Nat → Int} (h : Bytes f) (k : Nat) {v : Int} (hv : 0 ≤ v ∧ v < 256) : Bytes (setAt f k v) := fun i => by
  unfold setAt
  split
  · exact hv
  · exact h i
def closeN (f : Nat → Int) (s : Int) : Nat → (Nat → Int)
  | 0 => f
  | i + 1 => setAt (closeN f s i) (60 + i) (s / 256 ^ i % 256)
def closeOf (f : Nat → Int) : Nat → Int := closeN f (sumOf 0 ((List.range 60).map f)) 4

set_option maxRecDepth 100000 in
set_option maxHeartbeats 1000000 in
theorem close_any (w : World) (f : Nat → Int) (hs : Steps w) (hf : Bytes f) : Calls Tryz.prog 60 #[.agg (lineC f)] w fun e w' => e = .returned (.agg (lineC (closeOf f))) ∧ Mod None_ w w' := by
  obtain ⟨m, hm⟩ : ∃ m, m = w.heap.size := ⟨_, rfl⟩
  obtain ⟨w1, hw1⟩ : ∃ w1, w1 = (w.alloc (.cells (lineC f) 88)).alloc (.cells (lineC fun _ => 0) 88) := ⟨_, rfl⟩
  have hM : Mod None_ w w1 := by rw [hw1]; exact ((Mod.refl _ w).alloc _).alloc _
  have b1 : Blk w1 m 88 (lineC f) := by rw [hw1, hm]; exact (Blk.new w 88 _).alloc _
  have b2 : Blk w1 (m + 1) 88 (lineC fun _ => 0) := by
    have := Blk.new (w.alloc (.cells (lineC f) 88)) 88 (lineC fun _ => 0)
    rw [← hw1, alloc_size, ← hm] at this
    exact this
  have hgem : w.heap.size ≤ m := by omega
  have hs1 := hs.kept hM
  have hby : BytesAt w1 (.slice (some ⟨m, 0, none⟩) 60 64) ((List.range 60).map f) := by
    refine ⟨⟨some ⟨m, 0, none⟩, 64, by simp, by simp, by unfold maxLen; omega, fun _ => ⟨m, 0, rfl, b1.lt, fun i hi j u hj => ?_⟩⟩, fun b hb => ?_⟩
    · have hi2 : i < 60 := by simpa using hi
      match j, hj with
      | 0, hj =>
        obtain rfl : Value.int .u8 (f i) = u := by simpa [encU8] using hj
        rw [b1.cell]
        simpa using lineC_get f (show i < 64 by omega)
    · obtain ⟨i, _, rfl⟩ := List.mem_map.1 hb
      exact hf i
  have HSM := hide (sum_any w1 _ _ hs1 hby)
  have hsu := sumOf_u32 0 ((List.range 60).map f)
  obtain ⟨s, hs_⟩ : ∃ s, s = sumOf 0 ((List.range 60).map f) := ⟨_, rfl⟩
  rw [← hs_] at hsu HSM
  have HCL : Hid (closeOf f = closeN f s 4) := hide (by unfold closeOf; rw [← hs_])
  obtain ⟨T, hT⟩ : ∃ T : Array Value, T = lineC f := ⟨_, rfl⟩
  have HT := hide hT
  have HW1 := hide hw1
  have HMM := hide hm
  clear hw1 hm hs hby hs_ hs1 hT
  rw [← HT.out] at HW1 ⊢
  go_enter Tryz.func60, Tryz.ntmps60
  go_upto_region 1 with ((with_reducible refine at_slot 2 ?_); refine wpList_alloc rfl 88 rfl (.agg (lineC fun _ => 0)) zeroLine ?_; go_frame)
  simp only [alloc_size]
  rw [← HMM.out, show (Value.agg (lineC fun _ => 0)).cells = lineC fun _ => 0 from rfl, ← HW1.out]
  clear HW1
  go_wp2_with fail
  refine Calls.mono HSM.out ?_
  rintro e w2 ⟨rfl, rfl⟩
  obtain ⟨hsu0, hsu1⟩ := hsu
  clear HSM
  go_wp2_with fail
  go_loopw [7] (fun s7 wr => ∃ k : Nat, k ≤ 4 ∧ s7 = .int .i64 k ∧ Mod None_ w wr ∧ Blk wr m 88 (lineC (closeN f s k)) ∧ Blk wr (m + 1) 88 (lineC fun _ => 0)) (fun s7 _ => 4 - (intOf s7).toNat)
  case atStart => exact ⟨0, by omega, rfl, hM, b1, b2⟩
  clear hM b1 b2
  obtain ⟨k, hk, rfl, hM, b1, b2⟩ := hrel
  by_cases hlt : k < 4
  · rcases (show k = 0 ∨ k = 1 ∨ k = 2 ∨ k = 3 by omega) with rfl | rfl | rfl | rfl
    · have c1 : wr.cell? ⟨m, 60, none⟩ = some (.int .u8 (closeN f s 0 60)) := by rw [b1.cell, lineC_get _ (by omega)]
      have f1 : wr.frozen? ⟨m, 60, none⟩ = false := b1.frozen _
      have hb4 : Blk (wr.setCell ⟨m, 60, none⟩ (.int .u8 (s % 256))) m 88 (lineC (closeN f s 1)) := by
        have := b1.set_ 60 (.int .u8 (s % 256))
        rw [lineC_set _ (by omega)] at this
        show Blk _ m 88 (lineC (setAt (closeN f s 0) (60 + 0) (s / 256 ^ 0 % 256)))
        rw [show s / 256 ^ 0 % 256 = (s % 256) by omega]
        exact this
      have hm4 : Mod (· = m) wr (wr.setCell ⟨m, 60, none⟩ (.int .u8 (s % 256))) := (Mod.refl (· = m) wr).setCell (p := ⟨m, 60, none⟩) (.inr rfl) _
      have hM4 := hM.trans' hm4 (fun g hg e => by omega)
      have hb5 := b2.mod hm4 (by omega)
      have H1 := hide hb4
      have H2 := hide hM4
      have H3 := hide hb5
      clear hb4 hm4 hM4 hb5 b1 b2 hM
      go_wp2_with fail
      go_roundw
      case rel => exact ⟨1, by omega, rfl, H2.out, H1.out, H3.out⟩
      case measure => simp [intOf]
    · have c1 : wr.cell? ⟨m, 61, none⟩ = some (.int .u8 (closeN f s 1 61)) := by rw [b1.cell, lineC_get _ (by omega)]
      have f1 : wr.frozen? ⟨m, 61, none⟩ = false := b1.frozen _
      have hb4 : Blk (wr.setCell ⟨m, 61, none⟩ (.int .u8 (s / 256 % 256))) m 88 (lineC (closeN f s 2)) := by
        have := b1.set_ 61 (.int .u8 (s / 256 % 256))
        rw [lineC_set _ (by omega)] at this
        show Blk _ m 88 (lineC (setAt (closeN f s 1) (60 + 1) (s / 256 ^ 1 % 256)))
        rw [show s / 256 ^ 1 % 256 = (s / 256 % 256) by omega]
        exact this
      have hm4 : Mod (· = m) wr (wr.setCell ⟨m, 61, none⟩ (.int .u8 (s / 256 % 256))) := (Mod.refl (· = m) wr).setCell (p := ⟨m, 61, none⟩) (.inr rfl) _
      have hM4 := hM.trans' hm4 (fun g hg e => by omega)
      have hb5 := b2.mod hm4 (by omega)
      have H1 := hide hb4
      have H2 := hide hM4
      have H3 := hide hb5
      clear hb4 hm4 hM4 hb5 b1 b2 hM
      go_wp2_with fail
      go_roundw
      case rel => exact ⟨2, by omega, rfl, H2.out, H1.out, H3.out⟩
      case measure => simp [intOf]
    · have c1 : wr.cell? ⟨m, 62, none⟩ = some (.int .u8 (closeN f s 2 62)) := by rw [b1.cell, lineC_get _ (by omega)]
      have f1 : wr.frozen? ⟨m, 62, none⟩ = false := b1.frozen _
      have hb4 : Blk (wr.setCell ⟨m, 62, none⟩ (.int .u8 (s / 65536 % 256))) m 88 (lineC (closeN f s 3)) := by
        have := b1.set_ 62 (.int .u8 (s / 65536 % 256))
        rw [lineC_set _ (by omega)] at this
        show Blk _ m 88 (lineC (setAt (closeN f s 2) (60 + 2) (s / 256 ^ 2 % 256)))
        rw [show s / 256 ^ 2 % 256 = (s / 65536 % 256) by omega]
        exact this
      have hm4 : Mod (· = m) wr (wr.setCell ⟨m, 62, none⟩ (.int .u8 (s / 65536 % 256))) := (Mod.refl (· = m) wr).setCell (p := ⟨m, 62, none⟩) (.inr rfl) _
      have hM4 := hM.trans' hm4 (fun g hg e => by omega)
      have hb5 := b2.mod hm4 (by omega)
      have H1 := hide hb4
      have H2 := hide hM4
      have H3 := hide hb5
      clear hb4 hm4 hM4 hb5 b1 b2 hM
      go_wp2_with fail
      go_roundw
      case rel => exact ⟨3, by omega, rfl, H2.out, H1.out, H3.out⟩
      case measure => simp [intOf]
    · have c1 : wr.cell? ⟨m, 63, none⟩ = some (.int .u8 (closeN f s 3 63)) := by rw [b1.cell, lineC_get _ (by omega)]
      have f1 : wr.frozen? ⟨m, 63, none⟩ = false := b1.frozen _
      have hb4 : Blk (wr.setCell ⟨m, 63, none⟩ (.int .u8 (s / 16777216))) m 88 (lineC (closeN f s 4)) := by
        have := b1.set_ 63 (.int .u8 (s / 16777216))
        rw [lineC_set _ (by omega)] at this
        show Blk _ m 88 (lineC (setAt (closeN f s 3) (60 + 3) (s / 256 ^ 3 % 256)))
        rw [show s / 256 ^ 3 % 256 = (s / 16777216) by omega]
        exact this
      have hm4 : Mod (· = m) wr (wr.setCell ⟨m, 63, none⟩ (.int .u8 (s / 16777216))) := (Mod.refl (· = m) wr).setCell (p := ⟨m, 63, none⟩) (.inr rfl) _
      have hM4 := hM.trans' hm4 (fun g hg e => by omega)
      have hb5 := b2.mod hm4 (by omega)
      have H1 := hide hb4
      have H2 := hide hM4
      have H3 := hide hb5
      clear hb4 hm4 hM4 hb5 b1 b2 hM
      go_wp2_with fail
      go_roundw
      case rel => exact ⟨4, by omega, rfl, H2.out, H1.out, H3.out⟩
      case measure => simp [intOf]
  · obtain rfl : k = 4 := by omega
    rw [← HCL.out] at b1
    have hf0 := infoLine (closeOf f)
    have hbf := b2.row (lineC (closeOf f))
    have hl := run_loadVar_row (P := Tryz.prog) _ (m + 1) 88 88 _ (0, 0) _ hbf Tryz.underlying88 rfl hf0
    have hmr : Mod (· = m + 1) wr (wr.setRow (m + 1) (lineC (closeOf f))) := (Mod.refl (· = m + 1) wr).setRow (.inr rfl) _
    have hfin := hM.trans' hmr (fun g hg e => by omega)
    have HL := hide hl
    have HF := hide hfin
    clear hfin hmr hl hbf hM
    go_wp2_with (first
      | ((with_reducible refine at_slot 19 ?_); refine wpList_val rfl (ex_load rfl (run_loadRow b1 Tryz.underlying88 rfl hf0)) ?_; go_frame)
      | ((with_reducible refine at_none 88 2 19 ?_); refine wpList_store_row rfl 88 (.tmp 2) (.tmp 19) rfl (m + 1) (lineC (closeOf f)) rfl rfl 88 (lineC fun _ => 0) b2 hf0 (by rw [lineC_size, lineC_size]) (lineC_one _) ?_; go_frame))
    have hl := HL.out
    exact ⟨rfl, .agg (lineC (closeOf f)), by simp [results, Tryz.results60, asAddr, hl], rfl, HF.out⟩

/-! ### the pen -/
def penC (f : Nat → Int) (at_ : Int) : Array Value := lineC f ++ #[.int .i64 at_]
theorem penC_size (f : Nat → Int) (a : Int) : (penC f a).size = 65 := by simp [penC, lineC_size]
theorem penC_get (f : Nat → Int) (a : Int) {i : Nat} (h : i < 64) : (penC f a)[i]? = some (.int .u8 (f i)) := by
  unfold penC
  rw [Array.getElem?_append_left (by rw [lineC_size]; exact h), lineC_get _ h]
theorem penC_at (f : Nat → Int) (a : Int) : (penC f a)[64]? = some (.int .i64 a) := by
  unfold penC
  rw [Array.getElem?_append_right (by rw [lineC_size]; omega), lineC_size]; rfl
theorem penC_set (f : Nat → Int) (a : Int) {i : Nat} (h : i < 64) (v : Int) : (penC f a).setIfInBounds i (.int .u8 v) = penC (setAt f i v) a := by
  unfold penC
  rw [Array.setIfInBounds_append_left (by rw [lineC_size]; exact h), lineC_set _ h]
theorem penC_move (f : Nat → Int) (a b : Int) : (penC f a).setIfInBounds 64 (.int .i64 b) = penC f b := by
  unfold penC
  rw [Array.setIfInBounds_append_right (by rw [lineC_size]; omega), lineC_size]; rfl
def vN (v : Int) : Nat → Int
  | 0 => v
  | k + 1 => vN v k / 256
def putN (f : Nat → Int) (at_ : Nat) (v : Int) : Nat → (Nat → Int)
  | 0 => f
  | k + 1 => setAt (putN f at_ v k) (at_ + k) (vN v k % 256)
theorem vN_nonneg {v : Int} (h : 0 ≤ v) : ∀ k, 0 ≤ vN v k
  | 0 => h
  | k + 1 => by have := vN_nonneg h k; show 0 ≤ vN v k / 256; omega
theorem vN_lt {v : Int} (h : 0 ≤ v) (h2 : v < 18446744073709551616) : ∀ k, vN v k < 18446744073709551616
  | 0 => h2
  | k + 1 => by have := vN_lt h h2 k; have := vN_nonneg h k; show vN v k / 256 < _; omega
theorem putN_bytes {f : Nat → Int} (h : Bytes f) (a : Nat) (v : Int) : ∀ k, Bytes (putN f a v k)
  | 0 => h
  | k + 1 => (putN_bytes h a v k).set _ (by omega)

set_option maxRecDepth 100000 in
set_option maxHeartbeats 1000000 in
theorem number_any (w : World) (pb : Nat) (f : Nat → Int) (a n : Nat) (v : Int) (hb : Blk w pb 120 (penC f a)) (h0 : 0 ≤ v) (h1 : v < 18446744073709551616) (ha : a + n ≤ 64) :
    Calls Tryz.prog 58 #[.pointer (some ⟨pb, 0, none⟩), .int .u64 v, .int .i64 n] w fun e w' => e = .returned (.tuple #[]) ∧ Blk w' pb 120 (penC (putN f a v n) ((a + n : Nat) : Int)) ∧ Mod (· = pb) w w' := by
  go_enter Tryz.func58, Tryz.ntmps58
  go_wp2_with fail
  go_loopw [7, 1] (fun s7 s1 wr => ∃ k : Nat, k ≤ n ∧ s7 = .int .i64 k ∧ s1 = .int .u64 (vN v k) ∧ Blk wr pb 120 (penC (putN f a v k) ((a + k : Nat) : Int)) ∧ Mod (· = pb) w wr) (fun s7 _ _ => n - (intOf s7).toNat)
  case atStart => exact ⟨0, Nat.zero_le _, rfl, rfl, hb, Mod.refl _ _⟩
  clear hb
  obtain ⟨k, hk, rfl, rfl, hb, hM⟩ := hrel
  by_cases hlt : k < n
  · have hki : (k : Int) < n := by omega
    have hv0 := vN_nonneg h0 k
    have hv1 := vN_lt h0 h1 k
    obtain ⟨q, hq⟩ : ∃ q, q = a + k := ⟨_, rfl⟩
    have hq64 : q < 64 := by omega
    have hqi : (q : Int) < 64 := by omega
    obtain ⟨u, hu⟩ : ∃ u, u = vN v k := ⟨_, rfl⟩
    obtain ⟨F, hF⟩ : ∃ F, F = putN f a v k := ⟨_, rfl⟩
    have hnx : putN f a v (k + 1) = setAt F q (u % 256) := by rw [hF, hq, hu]; rfl
    have hnv : vN v (k + 1) = u / 256 := by rw [hu]; rfl
    rw [← hq, ← hF] at hb
    rw [← hu] at hv0 hv1
    rw [← hu]
    have c64 : wr.cell? ⟨pb, 64, none⟩ = some (.int .i64 q) := by rw [hb.cell, penC_at]
    have cq : wr.cell? ⟨pb, q, none⟩ = some (.int .u8 (F q)) := by rw [hb.cell, penC_get _ _ hq64]
    have fq : wr.frozen? ⟨pb, q, none⟩ = false := hb.frozen _
    have HQ := hide hq
    have HNX := hide hnx
    have HNV := hide hnv
    clear hq hu hF hnx hnv
    go_wp2_with fail
    refine region_stw_tail 10 (by kernel_rfl) (by kernel_rfl) ?_
    rintro w4 hw4
    have hm4 : Mod None_ wr w4 := by rw [hw4]; exact (Mod.refl _ wr).drew
    have hb4 := hb.mod hm4 id
    have hM4 := hM.trans hm4.none
    replace c64 : w4.cell? ⟨pb, 64, none⟩ = some (.int .i64 q) := by rw [hb4.cell, penC_at]
    replace cq : w4.cell? ⟨pb, q, none⟩ = some (.int .u8 (F q)) := by rw [hb4.cell, penC_get _ _ hq64]
    replace fq : w4.frozen? ⟨pb, q, none⟩ = false := hb4.frozen _
    clear hw4 hm4 hb hM
    repeat (refine stw_step (fun K hK => ?_); go_simp; refine hK _ ?_; clear hK K)
    refine stw_nil ?_
    go_upto_region 4 with fail
    obtain ⟨w5, hw5⟩ : ∃ x, x = w4.setCell ⟨pb, q, none⟩ (.int .u8 (u % 256)) := ⟨_, rfl⟩
    rw [← hw5]
    have hm5 : Mod (· = pb) w4 w5 := by rw [hw5]; exact (Mod.refl (· = pb) w4).setCell (p := ⟨pb, q, none⟩) (.inr rfl) _
    have hb5 : Blk w5 pb 120 (penC (setAt F q (u % 256)) q) := by
      have := hb4.set_ q (.int .u8 (u % 256))
      rw [penC_set _ _ hq64, ← hw5] at this
      exact this
    have hM5 := hM4.trans hm5
    have c65 : w5.cell? ⟨pb, 64, none⟩ = some (.int .i64 q) := by rw [hb5.cell, penC_at]
    have f65 : w5.frozen? ⟨pb, 64, none⟩ = false := hb5.frozen _
    clear hw5 hm5 hb4 hM4 c64 cq fq
    have hq1 : (q : Int) + 1 = ((q + 1 : Nat) : Int) := by omega
    have HQ1 := hide hq1
    clear hq1
    have eq1 : IntKind.i64.wrap ((q : Int) + 1) = (q : Int) + 1 := IntWalk.i64_in _ (by omega)
    have H6 : Hid (Blk (w5.setCell ⟨pb, 64, none⟩ (.int .i64 ((q : Int) + 1))) pb 120 (penC (setAt F q (u % 256)) ((q : Int) + 1)) ∧ Mod (· = pb) w (w5.setCell ⟨pb, 64, none⟩ (.int .i64 ((q : Int) + 1)))) := hide ⟨by
      have := hb5.set_ 64 (.int .i64 ((q : Int) + 1))
      rw [penC_move] at this
      exact this, hM5.trans ((Mod.refl (· = pb) w5).setCell (p := ⟨pb, 64, none⟩) (.inr rfl) _)⟩
    clear hb5 hM5
    go_wp2_with fail
    go_roundw
    case rel => exact ⟨k + 1, by omega, by simp, by rw [HNV.out], by rw [HNX.out, show a + (k + 1) = q + 1 by have := HQ.out; omega, ← HQ1.out]; exact H6.out.1, H6.out.2⟩
    case measure => simp [intOf]; omega
  · obtain rfl : k = n := by omega
    have hkn : ¬ (k : Int) < k := by omega
    go_wp2
    refine ⟨rfl, .tuple #[], ?_, rfl, ?_, hM⟩
    · simp [results, Tryz.results58]
    · first | exact hb | simpa using hb
end Go.Proofs.YtabebkffcmajkaaGreatDoor

/-! Walks: pen.text, PackEntry. -/
namespace Go.Proofs.YtabebkffcmajkaaGreatDoor
open Go.RowKit Go.Maps Go.Shelf
attribute [local go_sem] quietV loudUpon Oper.semAt_some

def putS (f : Nat → Int) (a : Nat) (s : ByteArray) : Nat → Int := fun i => if a ≤ i ∧ i < a + s.size then ((s.data.toList.getD (i - a) 0).toNat : Int) else f i
theorem putS_bytes {f : Nat → Int} (h : Bytes f) (a : Nat) (s : ByteArray) : Bytes (putS f a s) := fun i => by
  unfold putS
  split
  · have := (s.data.toList.getD (i - a) 0).toNat_lt; omega
  · exact h i
theorem penL (f : Nat → Int) (a : Int) (i : Nat) : (penC f a).toList[i]? = if i < 64 then some (.int .u8 (f i)) else if i = 64 then some (.int .i64 a) else none := by
  rw [Array.getElem?_toList]
  by_cases h : i < 64
  · rw [if_pos h, penC_get _ _ h]
  · rw [if_neg h]
    by_cases h2 : i = 64
    · subst h2; rw [if_pos rfl, penC_at]
    · rw [if_neg h2, Array.getElem?_eq_none (by rw [penC_size]; omega)]
theorem penC_copy (f : Nat → Int) (a : Nat) (s : ByteArray) (h : a + s.size ≤ 64) : ((penC f a).toList.take a ++ Go.Lib.byteCells s.data.toList ++ (penC f a).toList.drop (a + s.size)).toArray = penC (putS f a s) a := by
  have hz : s.data.toList.length = s.size := by simp
  have hbl : (Go.Lib.byteCells s.data.toList).length = s.size := by rw [Go.Lib.byteCells_length, hz]
  have hpl : (penC f a).toList.length = 65 := by simp [penC_size]
  apply Array.toList_inj.1
  apply List.ext_getElem?
  intro i
  show (_ : List Value)[i]? = _
  rw [penL]
  by_cases h1 : i < a
  · rw [List.append_assoc, List.getElem?_append_left (by rw [List.length_take]; omega), List.getElem?_take_of_lt h1, penL, if_pos (by omega), if_pos (by omega)]
    unfold putS
    rw [if_neg (by omega)]
  · by_cases h2 : i < a + s.size
    · rw [List.append_assoc, List.getElem?_append_right (by rw [List.length_take]; omega), List.getElem?_append_left (by rw [List.length_take, hbl]; omega), List.length_take, Nat.min_eq_left (by omega), if_pos (by omega)]
      unfold putS
      rw [if_pos (by omega)]
      have hlt : i - a < s.data.toList.length := by rw [hz]; omega
      unfold Go.Lib.byteCells
      rw [List.getElem?_map, List.getElem?_eq_getElem hlt]
      simp [List.getD_eq_getElem?_getD, List.getElem?_eq_getElem hlt]
    · rw [List.getElem?_append_right (by rw [List.length_append, List.length_take, hbl]; omega), List.getElem?_drop, List.length_append, List.length_take, hbl, Nat.min_eq_left (by omega),
        show a + s.size + (i - (a + s.size)) = i by omega, penL]
      by_cases h3 : i < 64
      · rw [if_pos h3, if_pos h3]
        unfold putS
        rw [if_neg (by omega)]
      · rw [if_neg h3, if_neg h3]
theorem sizeU8 : (Tryz.prog.info? 5).map (·.size) = some 1 := by kernel_rfl
theorem txw_qval {P : Program} {I : World → Prop} {T : Nat} {Q : Act → World → Prop} {k : Nat} {o : Oper} {os : List Oper} {l : List (Bool × Nat)} {a : Act} {w w' : World} {v : Value} (ho : os[k]? = some o) (hg : o.guard = none)
    (hr : (execOp a.eval o).run P w = .ok (.value v) w') (hI : k ≠ T → I w') (hn : TxW P os.toArray I T Q l (a.put o.dst v) w') : TxW P os.toArray I T Q ((false, k) :: l) a w :=
  txw_loud ho fun K hK => by
    rw [if_pos (by simp [Region.wanted, hg]), hr]
    exact ⟨hI, hK _ _ hn⟩

set_option maxRecDepth 100000 in
set_option maxHeartbeats 1000000 in
theorem text_any (w : World) (pb : Nat) (f : Nat → Int) (a : Nat) (s : ByteArray) (hb : Blk w pb 120 (penC f a)) (hs : a + s.size ≤ 64) (hal : a < 64) :
    Calls Tryz.prog 59 #[.pointer (some ⟨pb, 0, none⟩), .string s] w fun e w' => e = .returned (.tuple #[]) ∧ Blk w' pb 120 (penC (putS f a s) ((a + s.size : Nat) : Int)) ∧ Mod (· = pb) w w' := by
  go_enter Tryz.func59, Tryz.ntmps59
  refine region_txw 17 [(true, 0), (true, 1), (true, 2), (true, 3), (true, 4), (true, 5), (true, 6), (true, 7), (true, 8), (true, 9), (true, 10), (true, 11), (true, 12), (false, 13), (true, 14), (true, 15), (true, 16), (false, 17)] (fun w' => w'.cell? ⟨pb, 64, none⟩ = some (.int .i64 a)) (by kernel_rfl) (by kernel_rfl) ?_
  rintro w1 hw1
  have hm1 : Mod None_ w w1 := by rw [hw1]; exact (Mod.refl _ w).drew
  have b1 := hb.mod hm1 id
  have c1 : w1.cell? ⟨pb, 64, none⟩ = some (.int .i64 a) := by rw [b1.cell, penC_at]
  have ha64 : (a : Int) ≤ 64 := by omega
  have hne : ¬ 64 = a := by omega
  clear hw1 hb
  refine ⟨c1, ?_⟩
  clear c1
  iterate 13 (refine txw_quiet rfl (fun w' i1 K hK => by (try go_simp); exact hK) ?_; try go_frame)
  have hcp := Go.Lib.run_copy_row_string w1 145 9 3 5 pb a (64 - a) (64 - a) s (penC f a) 120 Tryz.underlying145 sizeU8 b1 (by omega) (by rw [penC_size]; omega)
  rw [penC_copy f a s hs] at hcp
  have b2 := b1.row (penC (putS f a s) a)
  have hm2 : Mod (· = pb) w1 (w1.setRow pb (penC (putS f a s) a)) := (Mod.refl (· = pb) w1).setRow (.inr rfl) _
  have c2 : (w1.setRow pb (penC (putS f a s) a)).cell? ⟨pb, 64, none⟩ = some (.int .i64 a) := by rw [b2.cell, penC_at]
  refine txw_qval rfl rfl (ex_copy rfl hcp) (fun _ => c2) ?_
  obtain ⟨w2, hw2⟩ : ∃ x, x = w1.setRow pb (penC (putS f a s) a) := ⟨_, rfl⟩
  rw [← hw2] at b2 hm2 c2 ⊢
  have hM2 := (hm1.none).trans hm2
  clear hcp hw2 hm2 hm1 b1
  have es : (Go.goInt s.size) = .int .i64 (s.size : Int) := rfl
  try rw [es]
  have ew : IntKind.i64.wrap ((a : Int) + s.size) = (a : Int) + s.size := IntWalk.i64_in _ (by omega)
  try go_frame
  iterate 3 (refine txw_quiet rfl (fun w' i1 K hK => by (try go_simp); exact hK) ?_; try go_frame)
  have f2 : w2.frozen? ⟨pb, 64, none⟩ = false := b2.frozen _
  have H6 : Hid (Blk (w2.setCell ⟨pb, 64, none⟩ (.int .i64 ((a : Int) + s.size))) pb 120 (penC (putS f a s) ((a : Int) + s.size)) ∧ Mod (· = pb) w (w2.setCell ⟨pb, 64, none⟩ (.int .i64 ((a : Int) + s.size)))) := hide ⟨by
    have := b2.set_ 64 (.int .i64 ((a : Int) + s.size))
    rw [penC_move] at this
    exact this, hM2.trans ((Mod.refl (· = pb) w2).setCell (p := ⟨pb, 64, none⟩) (.inr rfl) _)⟩
  clear b2 hM2
  refine txw_loud rfl (fun K hK => ?_)
  go_simp
  refine hK _ _ ?_
  clear hK K
  refine txw_nil ?_
  refine ⟨rfl, .tuple #[], ?_, rfl, ?_, H6.out.2⟩
  · simp [results, Tryz.results59]
  · have := H6.out.1
    rw [show ((a + s.size : Nat) : Int) = (a : Int) + s.size by omega]
    exact this

theorem or_right {a : Int} (h0 : 0 ≤ a) (h1 : a < 4294967296) : bits .or .i64 a 0 = a := by
  obtain ⟨n, rfl⟩ : ∃ n : Nat, a = n := ⟨a.toNat, by omega⟩
  have h2 := (bits_nat .i64 32 (by decide) (fun n h0 h1 => by rw [IntKind.wrap_i64]; omega) n 0 (by omega) (by omega)).2
  rw [Nat.or_zero] at h2
  exact h2
theorem or_left {a : Int} (h0 : 0 ≤ a) (h1 : a < 4294967296) : bits .or .i64 0 a = a := by
  obtain ⟨n, rfl⟩ : ∃ n : Nat, a = n := ⟨a.toNat, by omega⟩
  have h2 := (bits_nat .i64 32 (by decide) (fun n h0 h1 => by rw [IntKind.wrap_i64]; omega) 0 n (by omega) (by omega)).2
  rw [Nat.zero_or] at h2
  exact h2
structure EntBd (e : EntD) : Prop where
  kind : 1 ≤ e.kind ∧ e.kind ≤ 4
  seq : e.seq ≤ 4611686018427387904
  off : 0 ≤ e.off ∧ e.off ≤ 512
  count : 0 ≤ e.count ∧ e.count ≤ 16
  page : 0 ≤ e.page ∧ e.page ≤ 1024
  size : 0 ≤ e.size ∧ e.size ≤ 262144
  ino : 0 ≤ e.ino ∧ e.ino ≤ 256
  name : e.name.size ≤ 28
  one : e.off = 0 ∨ e.ino = 0
theorem ent_bd {e : EntD} (h : goodEnt e = true) : EntBd e := by
  unfold goodEnt seqB at h
  simp only [Bool.and_eq_true, Bool.not_eq_true', decide_eq_false_iff_not] at h
  obtain ⟨⟨_, hq⟩, h⟩ := h
  split at h
  · rename_i hk
    simp only [Bool.and_eq_true, roomB, sizeB, wi_iff, beq_iff_eq, noNameB, List.isEmpty_iff, toList_nil] at h
    obtain ⟨⟨a, b, c⟩, d, n, i⟩ := h
    exact ⟨by omega, by omega, by omega, by omega, by omega, by omega, by omega, by omega, .inr i⟩
  · split at h
    · rename_i hk
      simp only [Bool.and_eq_true, noPagesB, sizeB, wi_iff, beq_iff_eq, noNameB, List.isEmpty_iff, toList_nil] at h
      obtain ⟨⟨a, b, c⟩, d, n, i⟩ := h
      exact ⟨by omega, by omega, by omega, by omega, by omega, by omega, by omega, by omega, .inr i⟩
    · split at h
      · rename_i hk
        simp only [Bool.and_eq_true, noPagesB, wi_iff, beq_iff_eq] at h
        obtain ⟨⟨a, b, c⟩, d, i, n⟩ := h
        have := goodName_size n
        exact ⟨by omega, by omega, by omega, by omega, by omega, by omega, by omega, by omega, .inl a⟩
      · split at h
        · rename_i hk
          simp only [Bool.and_eq_true, noPagesB, beq_iff_eq] at h
          obtain ⟨⟨a, b, c⟩, d, i, n⟩ := h
          have := goodName_size n
          exact ⟨by omega, by omega, by omega, by omega, by omega, by omega, by omega, by omega, .inl a⟩
        · cases h
theorem or_sum {e : EntD} (h : EntBd e) : bits .or .i64 e.off e.ino = e.off + e.ino := by
  have ho := h.off
  have hi := h.ino
  rcases h.one with h1 | h1
  · rw [h1, or_left (by omega) (by omega)]; omega
  · rw [h1, or_right (by omega) (by omega)]; omega
def z64 : Nat → Int := fun _ => 0
theorem z64_bytes : Bytes z64 := fun _ => ⟨by show (0 : Int) ≤ 0; omega, by show (0 : Int) < 256; omega⟩
def packF (e : EntD) : Nat → Int := putS (putN (putN (putN (putN (putN (putN (putN z64 0 e.kind 1) 1 (e.name.size : Int) 7) 8 e.seq 8) 16 (e.off + e.ino) 4) 20 e.count 4) 24 e.page 4) 28 e.size 4) 32 e.name
theorem packF_bytes (e : EntD) : Bytes (packF e) := putS_bytes (putN_bytes (putN_bytes (putN_bytes (putN_bytes (putN_bytes (putN_bytes (putN_bytes z64_bytes _ _ _) _ _ _) _ _ _) _ _ _) _ _ _) _ _ _) _ _ _) _ _
theorem run_build98 (w : World) : (Instr.build 88 #[]).run Tryz.prog w = .ok (.agg (lineC z64)) w := by kernel_rfl
theorem run_build133 (w : World) : (Instr.build 120 #[]).run Tryz.prog w = .ok (.agg (penC z64 0)) w := by kernel_rfl
theorem zeroPen (w : World) : (zeroValue 120).run Tryz.prog w = .ok (.agg (penC z64 0)) w := by kernel_rfl
theorem infoPen (f : Nat → Int) (a : Int) : (Tryz.prog.info? 120).map (·.size) = some (penC f a).size := by rw [penC_size]; kernel_rfl
theorem infoEnt (e : EntD) : (Tryz.prog.info? 49).map (·.size) = some (encEntry e).toArray.size := by show _ = some 8; kernel_rfl
theorem penC_one (f : Nat → Int) (a : Int) : (penC f a).all (·.oneCell') = true := by unfold penC; rw [Array.all_append, lineC_one]; simp [Value.oneCell']
def PackPost (w : World) (e : EntD) : Ending → World → Prop := fun x w' => Mod None_ w w' ∧ x = .returned (.tuple #[.agg (lineC (if goodEnt e = true then closeOf (packF e) else z64)), .int .i64 (if goodEnt e = true then 0 else 34)])

set_option maxRecDepth 100000 in
set_option maxHeartbeats 2000000 in
theorem packEntry_any (w : World) (e : EntD) (hs : Steps w) (hq : 0 ≤ e.seq) : Calls Tryz.prog 37 #[.agg (encEntry e).toArray] w (PackPost w e) := by
  obtain ⟨m, hm⟩ : ∃ m, m = w.heap.size := ⟨_, rfl⟩
  obtain ⟨w1, hw1⟩ : ∃ w1, w1 = (w.alloc (.cells (encEntry e).toArray 49)).alloc (.cells (lineC z64) 88) := ⟨_, rfl⟩
  have hM : Mod None_ w w1 := by rw [hw1]; exact ((Mod.refl _ w).alloc _).alloc _
  have b1 : Blk w1 m 49 (encEntry e).toArray := by rw [hw1, hm]; exact (Blk.new w 49 _).alloc _
  have b2 : Blk w1 (m + 1) 88 (lineC z64) := by
    have := Blk.new (w.alloc (.cells (encEntry e).toArray 49)) 88 (lineC z64)
    rw [← hw1, alloc_size, ← hm] at this
    exact this
  have hgem : w.heap.size ≤ m := by omega
  have HI := hide (infoEnt e)
  have HS := hide hs
  have HW1 := hide hw1
  have HMM := hide hm
  clear hw1 hm hs
  go_enter Tryz.func37, Tryz.ntmps37
  go_upto_region 1 with ((with_reducible refine at_slot 2 ?_); refine wpList_alloc rfl 88 rfl (.agg (lineC z64)) zeroLine ?_; go_frame)
  simp only [alloc_size]
  rw [← HMM.out, show (Value.agg (lineC z64)).cells = lineC z64 from rfl, ← HW1.out]
  clear HW1
  go_wp2_with ((with_reducible refine at_slot 5 ?_); refine wpList_val rfl (ex_load rfl (run_loadRow b1 Tryz.underlying49 rfl HI.out)) ?_; go_frame)
  refine (goodEntry_any w1 e).mono ?_
  rintro e2 w2 ⟨rfl, hm2⟩
  have hM2 := hM.trans hm2
  have c1 := b1.mod hm2 id
  have c2 := b2.mod hm2 id
  clear b1 b2 hM hm2
  cases hg : goodEnt e with
  | false =>
    have hmr : Mod (· = m + 1) w2 (w2.setRow (m + 1) (lineC z64)) := (Mod.refl (· = m + 1) w2).setRow (.inr rfl) _
    have hfin : PackPost w e (.returned (.tuple #[.agg (lineC z64), .int .i64 34])) (w2.setRow (m + 1) (lineC z64)) := by
      refine ⟨hM2.trans' hmr (fun g hg e => by omega), ?_⟩
      rw [hg]; rfl
    have HF := hide hfin
    have HB := hide (c2.row (lineC z64))
    clear hfin hmr hg hM2
    go_wp2_with (first
      | ((with_reducible refine at_slot 8 ?_); refine wpList_val rfl (ex_build (ps := []) rfl (run_build98 _)) ?_; go_frame)
      | ((with_reducible refine at_none 88 2 8 ?_); refine wpList_store_row rfl 88 (.tmp 2) (.tmp 8) rfl (m + 1) (lineC z64) rfl rfl 88 (lineC z64) c2 (infoLine _) rfl (lineC_one _) ?_; go_frame))
    have hl := run_loadVar_row (P := Tryz.prog) _ (m + 1) 88 88 _ (0, 0) _ HB.out Tryz.underlying88 rfl (infoLine _)
    exact ⟨rfl, .tuple #[.agg (lineC z64), .int .i64 34], by simp [results, Tryz.results37, asAddr, hl], HF.out⟩
  | true =>
    have hbd := ent_bd hg
    have HG := hide hg
    obtain ⟨q, hq_⟩ : ∃ q, q = w2.heap.size := ⟨_, rfl⟩
    obtain ⟨w3, hw3⟩ : ∃ w3, w3 = w2.alloc (.cells (penC z64 0) 120) := ⟨_, rfl⟩
    have hm3 : Mod None_ w2 w3 := by rw [hw3]; exact (Mod.refl _ w2).alloc _
    have hM3 := hM2.trans hm3
    have e3 := c1.mod hm3 id
    have r3 := c2.mod hm3 id
    have p3 : Blk w3 q 120 (penC z64 ((0 : Nat) : Int)) := by rw [hw3, hq_]; exact Blk.new w2 120 _
    have hmq : m + 1 < q := by rw [hq_]; exact c2.lt
    have hor := or_sum hbd
    obtain ⟨⟨k1, k2⟩, s2, ⟨o1, o2⟩, ⟨n1, n2⟩, ⟨g1, g2⟩, ⟨z1, z2⟩, ⟨i1, i2⟩, hnm, _⟩ := hbd
    have hpk : packF e = putS (putN (putN (putN (putN (putN (putN (putN z64 0 e.kind 1) 1 (e.name.size : Int) 7) 8 e.seq 8) 16 (e.off + e.ino) 4) 20 e.count 4) 24 e.page 4) 28 e.size 4) 32 e.name := rfl
    have HPK := hide hpk
    clear hpk hg hm3 hM2 c1 c2
    have HW3 := hide hw3
    have HQ := hide hq_
    clear hw3 hq_
    have c0 : w3.cell? ⟨m, 0, none⟩ = some (.int .i64 e.kind) := e3.cell 0
    have c1 : w3.cell? ⟨m, 1, none⟩ = some (.int .u64 e.seq) := e3.cell 1
    have c2 : w3.cell? ⟨m, 2, none⟩ = some (.int .i64 e.off) := e3.cell 2
    have c3 : w3.cell? ⟨m, 3, none⟩ = some (.int .i64 e.count) := e3.cell 3
    have c4 : w3.cell? ⟨m, 4, none⟩ = some (.int .i64 e.page) := e3.cell 4
    have c5 : w3.cell? ⟨m, 5, none⟩ = some (.int .i64 e.size) := e3.cell 5
    have c6 : w3.cell? ⟨m, 6, none⟩ = some (.int .i64 e.ino) := e3.cell 6
    have c7 : w3.cell? ⟨m, 7, none⟩ = some (.string e.name) := e3.cell 7
    go_upto_region 4 with (first
      | ((with_reducible refine at_slot 9 ?_); refine wpList_val rfl (ex_build (ps := []) rfl (run_build133 _)) ?_; go_frame)
      | ((with_reducible refine at_slot 4 ?_); refine wpList_declare rfl rfl 120 4 (.tmp 9) rfl rfl rfl (penC z64 0) (penC z64 0) zeroPen (infoPen _ _) rfl (penC_one _ _) (by simp) rfl ?_; go_frame))
    rw [← HQ.out, ← HW3.out]
    clear HW3 HQ
    have hwq : w.heap.size ≤ q := by omega
    have u4 : IntKind.u64.wrap e.kind = e.kind := by unfold IntKind.wrap; simp [IntKind.bits, IntKind.signed]; omega
    go_wp2_with fail
    refine (number_any w3 q (z64) 0 1 e.kind p3 (by omega) (by omega) (by omega)).mono ?_
    rintro x4 w4 ⟨rfl, p4', hm4⟩
    have p4 : Blk w4 q 120 (penC (putN (z64) 0 e.kind 1) ((1 : Nat) : Int)) := p4'
    have e4 := e3.mod hm4 (by omega)
    have r4 := r3.mod hm4 (by omega)
    have hM4 := hM3.trans' hm4 (fun g hg e => by omega)
    clear p4' hm4 p3 e3 r3 hM3 c0 c1 c2 c3 c4 c5 c6 c7 u4
    have c0 : w4.cell? ⟨m, 0, none⟩ = some (.int .i64 e.kind) := e4.cell 0
    have c1 : w4.cell? ⟨m, 1, none⟩ = some (.int .u64 e.seq) := e4.cell 1
    have c2 : w4.cell? ⟨m, 2, none⟩ = some (.int .i64 e.off) := e4.cell 2
    have c3 : w4.cell? ⟨m, 3, none⟩ = some (.int .i64 e.count) := e4.cell 3
    have c4 : w4.cell? ⟨m, 4, none⟩ = some (.int .i64 e.page) := e4.cell 4
    have c5 : w4.cell? ⟨m, 5, none⟩ = some (.int .i64 e.size) := e4.cell 5
    have c6 : w4.cell? ⟨m, 6, none⟩ = some (.int .i64 e.ino) := e4.cell 6
    have c7 : w4.cell? ⟨m, 7, none⟩ = some (.string e.name) := e4.cell 7
    have u5 : IntKind.u64.wrap (e.name.size : Int) = (e.name.size : Int) := by unfold IntKind.wrap; simp [IntKind.bits, IntKind.signed]; omega
    go_wp2_with fail
    refine (number_any w4 q (putN (z64) 0 e.kind 1) 1 7 (e.name.size : Int) p4 (by omega) (by omega) (by omega)).mono ?_
    rintro x5 w5 ⟨rfl, p5', hm5⟩
    have p5 : Blk w5 q 120 (penC (putN (putN (z64) 0 e.kind 1) 1 (e.name.size : Int) 7) ((8 : Nat) : Int)) := p5'
    have e5 := e4.mod hm5 (by omega)
    have r5 := r4.mod hm5 (by omega)
    have hM5 := hM4.trans' hm5 (fun g hg e => by omega)
    clear p5' hm5 p4 e4 r4 hM4 c0 c1 c2 c3 c4 c5 c6 c7 u5
    have c0 : w5.cell? ⟨m, 0, none⟩ = some (.int .i64 e.kind) := e5.cell 0
    have c1 : w5.cell? ⟨m, 1, none⟩ = some (.int .u64 e.seq) := e5.cell 1
    have c2 : w5.cell? ⟨m, 2, none⟩ = some (.int .i64 e.off) := e5.cell 2
    have c3 : w5.cell? ⟨m, 3, none⟩ = some (.int .i64 e.count) := e5.cell 3
    have c4 : w5.cell? ⟨m, 4, none⟩ = some (.int .i64 e.page) := e5.cell 4
    have c5 : w5.cell? ⟨m, 5, none⟩ = some (.int .i64 e.size) := e5.cell 5
    have c6 : w5.cell? ⟨m, 6, none⟩ = some (.int .i64 e.ino) := e5.cell 6
    have c7 : w5.cell? ⟨m, 7, none⟩ = some (.string e.name) := e5.cell 7
    have u6 : IntKind.u64.wrap e.seq = e.seq := by unfold IntKind.wrap; simp [IntKind.bits, IntKind.signed]; omega
    go_wp2_with fail
    refine (number_any w5 q (putN (putN (z64) 0 e.kind 1) 1 (e.name.size : Int) 7) 8 8 e.seq p5 (by omega) (by omega) (by omega)).mono ?_
    rintro x6 w6 ⟨rfl, p6', hm6⟩
    have p6 : Blk w6 q 120 (penC (putN (putN (putN (z64) 0 e.kind 1) 1 (e.name.size : Int) 7) 8 e.seq 8) ((16 : Nat) : Int)) := p6'
    have e6 := e5.mod hm6 (by omega)
    have r6 := r5.mod hm6 (by omega)
    have hM6 := hM5.trans' hm6 (fun g hg e => by omega)
    clear p6' hm6 p5 e5 r5 hM5 c0 c1 c2 c3 c4 c5 c6 c7 u6
    have c0 : w6.cell? ⟨m, 0, none⟩ = some (.int .i64 e.kind) := e6.cell 0
    have c1 : w6.cell? ⟨m, 1, none⟩ = some (.int .u64 e.seq) := e6.cell 1
    have c2 : w6.cell? ⟨m, 2, none⟩ = some (.int .i64 e.off) := e6.cell 2
    have c3 : w6.cell? ⟨m, 3, none⟩ = some (.int .i64 e.count) := e6.cell 3
    have c4 : w6.cell? ⟨m, 4, none⟩ = some (.int .i64 e.page) := e6.cell 4
    have c5 : w6.cell? ⟨m, 5, none⟩ = some (.int .i64 e.size) := e6.cell 5
    have c6 : w6.cell? ⟨m, 6, none⟩ = some (.int .i64 e.ino) := e6.cell 6
    have c7 : w6.cell? ⟨m, 7, none⟩ = some (.string e.name) := e6.cell 7
    have u7 : IntKind.u64.wrap (e.off + e.ino) = (e.off + e.ino) := by unfold IntKind.wrap; simp [IntKind.bits, IntKind.signed]; omega
    go_wp2_with fail
    refine (number_any w6 q (putN (putN (putN (z64) 0 e.kind 1) 1 (e.name.size : Int) 7) 8 e.seq 8) 16 4 (e.off + e.ino) p6 (by omega) (by omega) (by omega)).mono ?_
    rintro x7 w7 ⟨rfl, p7', hm7⟩
    have p7 : Blk w7 q 120 (penC (putN (putN (putN (putN (z64) 0 e.kind 1) 1 (e.name.size : Int) 7) 8 e.seq 8) 16 (e.off + e.ino) 4) ((20 : Nat) : Int)) := p7'
    have e7 := e6.mod hm7 (by omega)
    have r7 := r6.mod hm7 (by omega)
    have hM7 := hM6.trans' hm7 (fun g hg e => by omega)
    clear p7' hm7 p6 e6 r6 hM6 c0 c1 c2 c3 c4 c5 c6 c7 u7
    have c0 : w7.cell? ⟨m, 0, none⟩ = some (.int .i64 e.kind) := e7.cell 0
    have c1 : w7.cell? ⟨m, 1, none⟩ = some (.int .u64 e.seq) := e7.cell 1
    have c2 : w7.cell? ⟨m, 2, none⟩ = some (.int .i64 e.off) := e7.cell 2
    have c3 : w7.cell? ⟨m, 3, none⟩ = some (.int .i64 e.count) := e7.cell 3
    have c4 : w7.cell? ⟨m, 4, none⟩ = some (.int .i64 e.page) := e7.cell 4
    have c5 : w7.cell? ⟨m, 5, none⟩ = some (.int .i64 e.size) := e7.cell 5
    have c6 : w7.cell? ⟨m, 6, none⟩ = some (.int .i64 e.ino) := e7.cell 6
    have c7 : w7.cell? ⟨m, 7, none⟩ = some (.string e.name) := e7.cell 7
    have u8 : IntKind.u64.wrap e.count = e.count := by unfold IntKind.wrap; simp [IntKind.bits, IntKind.signed]; omega
    go_wp2_with fail
    refine (number_any w7 q (putN (putN (putN (putN (z64) 0 e.kind 1) 1 (e.name.size : Int) 7) 8 e.seq 8) 16 (e.off + e.ino) 4) 20 4 e.count p7 (by omega) (by omega) (by omega)).mono ?_
    rintro x8 w8 ⟨rfl, p8', hm8⟩
    have p8 : Blk w8 q 120 (penC (putN (putN (putN (putN (putN (z64) 0 e.kind 1) 1 (e.name.size : Int) 7) 8 e.seq 8) 16 (e.off + e.ino) 4) 20 e.count 4) ((24 : Nat) : Int)) := p8'
    have e8 := e7.mod hm8 (by omega)
    have r8 := r7.mod hm8 (by omega)
    have hM8 := hM7.trans' hm8 (fun g hg e => by omega)
    clear p8' hm8 p7 e7 r7 hM7 c0 c1 c2 c3 c4 c5 c6 c7 u8
    have c0 : w8.cell? ⟨m, 0, none⟩ = some (.int .i64 e.kind) := e8.cell 0
    have c1 : w8.cell? ⟨m, 1, none⟩ = some (.int .u64 e.seq) := e8.cell 1
    have c2 : w8.cell? ⟨m, 2, none⟩ = some (.int .i64 e.off) := e8.cell 2
    have c3 : w8.cell? ⟨m, 3, none⟩ = some (.int .i64 e.count) := e8.cell 3
    have c4 : w8.cell? ⟨m, 4, none⟩ = some (.int .i64 e.page) := e8.cell 4
    have c5 : w8.cell? ⟨m, 5, none⟩ = some (.int .i64 e.size) := e8.cell 5
    have c6 : w8.cell? ⟨m, 6, none⟩ = some (.int .i64 e.ino) := e8.cell 6
    have c7 : w8.cell? ⟨m, 7, none⟩ = some (.string e.name) := e8.cell 7
    have u9 : IntKind.u64.wrap e.page = e.page := by unfold IntKind.wrap; simp [IntKind.bits, IntKind.signed]; omega
    go_wp2_with fail
    refine (number_any w8 q (putN (putN (putN (putN (putN (z64) 0 e.kind 1) 1 (e.name.size : Int) 7) 8 e.seq 8) 16 (e.off + e.ino) 4) 20 e.count 4) 24 4 e.page p8 (by omega) (by omega) (by omega)).mono ?_
    rintro x9 w9 ⟨rfl, p9', hm9⟩
    have p9 : Blk w9 q 120 (penC (putN (putN (putN (putN (putN (putN (z64) 0 e.kind 1) 1 (e.name.size : Int) 7) 8 e.seq 8) 16 (e.off + e.ino) 4) 20 e.count 4) 24 e.page 4) ((28 : Nat) : Int)) := p9'
    have e9 := e8.mod hm9 (by omega)
    have r9 := r8.mod hm9 (by omega)
    have hM9 := hM8.trans' hm9 (fun g hg e => by omega)
    clear p9' hm9 p8 e8 r8 hM8 c0 c1 c2 c3 c4 c5 c6 c7 u9
    have c0 : w9.cell? ⟨m, 0, none⟩ = some (.int .i64 e.kind) := e9.cell 0
    have c1 : w9.cell? ⟨m, 1, none⟩ = some (.int .u64 e.seq) := e9.cell 1
    have c2 : w9.cell? ⟨m, 2, none⟩ = some (.int .i64 e.off) := e9.cell 2
    have c3 : w9.cell? ⟨m, 3, none⟩ = some (.int .i64 e.count) := e9.cell 3
    have c4 : w9.cell? ⟨m, 4, none⟩ = some (.int .i64 e.page) := e9.cell 4
    have c5 : w9.cell? ⟨m, 5, none⟩ = some (.int .i64 e.size) := e9.cell 5
    have c6 : w9.cell? ⟨m, 6, none⟩ = some (.int .i64 e.ino) := e9.cell 6
    have c7 : w9.cell? ⟨m, 7, none⟩ = some (.string e.name) := e9.cell 7
    have u10 : IntKind.u64.wrap e.size = e.size := by unfold IntKind.wrap; simp [IntKind.bits, IntKind.signed]; omega
    go_wp2_with fail
    refine (number_any w9 q (putN (putN (putN (putN (putN (putN (z64) 0 e.kind 1) 1 (e.name.size : Int) 7) 8 e.seq 8) 16 (e.off + e.ino) 4) 20 e.count 4) 24 e.page 4) 28 4 e.size p9 (by omega) (by omega) (by omega)).mono ?_
    rintro x10 w10 ⟨rfl, p10', hm10⟩
    have p10 : Blk w10 q 120 (penC (putN (putN (putN (putN (putN (putN (putN (z64) 0 e.kind 1) 1 (e.name.size : Int) 7) 8 e.seq 8) 16 (e.off + e.ino) 4) 20 e.count 4) 24 e.page 4) 28 e.size 4) ((32 : Nat) : Int)) := p10'
    have e10 := e9.mod hm10 (by omega)
    have r10 := r9.mod hm10 (by omega)
    have hM10 := hM9.trans' hm10 (fun g hg e => by omega)
    clear p10' hm10 p9 e9 r9 hM9 c0 c1 c2 c3 c4 c5 c6 c7 u10
    have c0 : w10.cell? ⟨m, 0, none⟩ = some (.int .i64 e.kind) := e10.cell 0
    have c1 : w10.cell? ⟨m, 1, none⟩ = some (.int .u64 e.seq) := e10.cell 1
    have c2 : w10.cell? ⟨m, 2, none⟩ = some (.int .i64 e.off) := e10.cell 2
    have c3 : w10.cell? ⟨m, 3, none⟩ = some (.int .i64 e.count) := e10.cell 3
    have c4 : w10.cell? ⟨m, 4, none⟩ = some (.int .i64 e.page) := e10.cell 4
    have c5 : w10.cell? ⟨m, 5, none⟩ = some (.int .i64 e.size) := e10.cell 5
    have c6 : w10.cell? ⟨m, 6, none⟩ = some (.int .i64 e.ino) := e10.cell 6
    have c7 : w10.cell? ⟨m, 7, none⟩ = some (.string e.name) := e10.cell 7
    go_wp2_with fail
    refine (text_any w10 q (putN (putN (putN (putN (putN (putN (putN (z64) 0 e.kind 1) 1 (e.name.size : Int) 7) 8 e.seq 8) 16 (e.off + e.ino) 4) 20 e.count 4) 24 e.page 4) 28 e.size 4) 32 e.name p10 (by omega) (by omega)).mono ?_
    rintro x11 w11 ⟨rfl, p11, hm11⟩
    rw [← HPK.out] at p11
    have r11 := r10.mod hm11 (by omega)
    have hM11 := hM10.trans' hm11 (fun g hg e => by omega)
    clear hm11 p10 e10 r10 hM10 c0 c1 c2 c3 c4 c5 c6 c7
    obtain ⟨L, hL⟩ : ∃ L, L = lineC (packF e) := ⟨_, rfl⟩
    have hLs : L.size = 64 := by rw [hL]; exact lineC_size _
    have hrg : w11.rangeAt q 0 L.toList := fun j u hj => by
      have hj2 : j < 64 := by
        have := (List.getElem?_eq_some_iff.1 hj).1
        rw [Array.length_toList, hLs] at this
        exact this
      rw [Nat.zero_add, p11.cell, penC_get _ _ hj2]
      rw [Array.getElem?_toList, hL, lineC_get _ hj2] at hj
      exact hj
    have hiL : (Tryz.prog.info? 88).map (·.size) = some L.toList.length := by rw [Array.length_toList, hLs]; kernel_rfl
    have hld := run_loadAt_mid w11 q 0 88 L.toList _ hrg Tryz.underlying88 rfl hiL
    rw [Array.toArray_toList, hL] at hld
    have HL := hide hld
    have HC := hide (close_any w11 (packF e) (HS.out.kept hM11) (packF_bytes e))
    clear hrg hiL hld hL hLs p11
    go_wp2_with ((with_reducible refine at_slot 45 ?_); refine wpList_val rfl (ex_load rfl HL.out) ?_; go_frame)
    refine Calls.mono HC.out ?_
    rintro x12 w12 ⟨rfl, hm12⟩
    have r12 := r11.mod hm12 id
    have hM12 := hM11.trans hm12
    have hmr : Mod (· = m + 1) w12 (w12.setRow (m + 1) (lineC (closeOf (packF e)))) := (Mod.refl (· = m + 1) w12).setRow (.inr rfl) _
    have hfin : PackPost w e (.returned (.tuple #[.agg (lineC (closeOf (packF e))), .int .i64 0])) (w12.setRow (m + 1) (lineC (closeOf (packF e)))) := by
      refine ⟨hM12.trans' hmr (fun g hg e => by omega), ?_⟩
      rw [if_pos HG.out, if_pos HG.out]
    have HF := hide hfin
    have HB := hide (r12.row (lineC (closeOf (packF e))))
    clear hfin hmr hM12 hm12 hM11 r11 HC HL
    go_wp2_with ((with_reducible refine at_none 88 2 46 ?_); refine wpList_store_row rfl 88 (.tmp 2) (.tmp 46) rfl (m + 1) (lineC (closeOf (packF e))) rfl rfl 88 (lineC z64) r12 (infoLine _) (by rw [lineC_size, lineC_size]) (lineC_one _) ?_; go_frame)
    have hl := run_loadVar_row (P := Tryz.prog) _ (m + 1) 88 88 _ (0, 0) _ HB.out Tryz.underlying88 rfl (infoLine _)
    exact ⟨rfl, .tuple #[.agg (lineC (closeOf (packF e))), .int .i64 0], by simp [results, Tryz.results37, asAddr, hl], HF.out⟩
end Go.Proofs.YtabebkffcmajkaaGreatDoor

/-! Walks: the reference's plain and GoodEntry. (Printed by mk_LY2.py.) -/
namespace Go.Proofs.YtabebkffcmajkaaGreatDoor
open Go.RowKit Go.Maps Go.Shelf
attribute [local go_sem] quietV loudUpon Oper.semAt_some

theorem run_eqSame (p : EntD) (w : World) : (binOp .eql 49 (.agg (encEntry p).toArray) (.agg (encEntry p).toArray)).run Tryz.prog w = .ok (.bool true) w := by
  rcases p with ⟨a0, a1, a2, a3, a4, a5, a6, a7⟩
  unfold encEntry
  have h3 := Tryz.underlying3
  have h9 := Tryz.underlying9
  have h64 := Tryz.underlying47
  have hT := Tryz.underlying49
  go_simp
theorem run_eqDiff (p q : EntD) (w : World) (h : p ≠ q) : (binOp .eql 49 (.agg (encEntry p).toArray) (.agg (encEntry q).toArray)).run Tryz.prog w = .ok (.bool false) w := by
  rcases p with ⟨a0, a1, a2, a3, a4, a5, a6, a7⟩
  rcases q with ⟨b0, b1, b2, b3, b4, b5, b6, b7⟩
  unfold encEntry
  have h3 := Tryz.underlying3
  have h9 := Tryz.underlying9
  have h64 := Tryz.underlying47
  have hT := Tryz.underlying49
  by_cases e0 : a0 = b0
  · subst e0
    by_cases e1 : a1 = b1
    · subst e1
      by_cases e2 : a2 = b2
      · subst e2
        by_cases e3 : a3 = b3
        · subst e3
          by_cases e4 : a4 = b4
          · subst e4
            by_cases e5 : a5 = b5
            · subst e5
              by_cases e6 : a6 = b6
              · subst e6
                by_cases e7 : a7 = b7
                · subst e7
                  exact absurd rfl h
                · have et : ¬ a7.toList = b7.toList := fun e => e7 (by rw [Go.Lib.toList_data, Go.Lib.toList_data] at e; exact Go.WideShapes.bytes_inj e)
                  clear h
                  go_simp
              · clear h
                go_simp
            · clear h
              go_simp
          · clear h
            go_simp
        · clear h
          go_simp
      · clear h
        go_simp
    · clear h
      go_simp
  · clear h
    go_simp
theorem run_eqEntry (p q : EntD) (w : World) : (binOp .eql 49 (.agg (encEntry p).toArray) (.agg (encEntry q).toArray)).run Tryz.prog w = .ok (.bool (decide (p = q))) w := by
  by_cases h : p = q
  · subst h; rw [run_eqSame]; simp
  · rw [run_eqDiff p q w h, decide_eq_false h]
theorem ex_eqlAgg {o : Oper} {a : Act} {w : World} {b : Bool} {t t2 : TypeId} {x y : Operand} {xs ys : Array Value} (h : o.op = .binOp .eql t x y t2) (hm : Tryz.prog.eqGuardType Tryz.prog.depth t = false) (hx : a.eval x = .agg xs) (hy : a.eval y = .agg ys)
    (hr : (binOp .eql t (.agg xs) (.agg ys)).run Tryz.prog w = .ok (.bool b) w) : (execOp a.eval o).run Tryz.prog w = .ok (.value (.bool b)) w := by
  unfold execOp; simp only [h, hx, hy]; simp [hr, run_eqGuard_agg w .eql t x y xs ys hm]
def plainOf (e : EntD) : EntD := ⟨e.kind, e.seq, 0, 0, 0, 0, 0, ⟨#[]⟩⟩
theorem plain_any (w : World) (e : EntD) : Calls Tryz.prog 48 #[.agg (encEntry e).toArray] w fun x w' => x = .returned (.agg (encEntry (plainOf e)).toArray) ∧ Mod None_ w w' := by
  unfold encEntry plainOf
  have HM : Hid (Mod None_ w ((w.alloc (.cells #[.int .i64 e.kind, .int .u64 e.seq, .int .i64 e.off, .int .i64 e.count, .int .i64 e.page, .int .i64 e.size, .int .i64 e.ino, .string e.name] 49)).alloc (.cells #[.int .i64 e.kind, .int .u64 e.seq, .int .i64 0, .int .i64 0, .int .i64 0, .int .i64 0, .int .i64 0, .string ⟨#[]⟩] 49))) := hide (((Mod.refl _ w).alloc _).alloc _)
  go_enter Tryz.func48, Tryz.ntmps48
  go_wp2
  have b := Blk.new (w.alloc (.cells #[.int .i64 e.kind, .int .u64 e.seq, .int .i64 e.off, .int .i64 e.count, .int .i64 e.page, .int .i64 e.size, .int .i64 e.ino, .string e.name] 49)) 49 #[.int .i64 e.kind, .int .u64 e.seq, .int .i64 0, .int .i64 0, .int .i64 0, .int .i64 0, .int .i64 0, .string ⟨#[]⟩]
  rw [alloc_size] at b
  have hl := run_loadVar_row (P := Tryz.prog) _ (w.heap.size + 1) 49 49 _ (0, 0) _ b Tryz.underlying49 rfl (by show _ = some 8; kernel_rfl)
  refine ⟨rfl, .agg #[.int .i64 e.kind, .int .u64 e.seq, .int .i64 0, .int .i64 0, .int .i64 0, .int .i64 0, .int .i64 0, .string ⟨#[]⟩], ?_, rfl, HM.out⟩
  simp [results, Tryz.results48, asAddr, hl]
/-! ### what the reference asks, said as the code asks it -/
theorem wi_of {n lo hi : Int} (h : lo ≤ n ∧ n ≤ hi) : wi n lo hi = true := wi_iff.2 h
theorem wi_no {n lo hi : Int} (h : ¬ (lo ≤ n ∧ n ≤ hi)) : wi n lo hi = false := by
  cases hb : wi n lo hi with
  | false => rfl
  | true => exact absurd (wi_iff.1 hb) h
def Cond1 (e : EntD) : Prop := (1 ≤ e.count ∧ e.count ≤ 16) ∧ (0 ≤ e.off ∧ e.off ≤ 512 - e.count) ∧ (0 ≤ e.size ∧ e.size ≤ 262144) ∧ (5 ≤ e.page ∧ e.page ≤ 1024 - e.count)
theorem name_empty (s : ByteArray) : s.toList.isEmpty = true ↔ s = ⟨#[]⟩ := by
  rw [List.isEmpty_iff, toList_nil]
  constructor
  · intro h
    obtain ⟨d⟩ := s
    have : d = #[] := by simpa [ByteArray.size] using h
    rw [this]
  · rintro rfl; rfl
theorem seq_ok {e : EntD} (h1 : ¬ e.seq < 1) (h2 : ¬ 4611686018427387904 < e.seq) : seqB e = true := by
  unfold seqB; rw [decide_eq_false (show ¬ e.seq = 0 by omega), decide_eq_false h2]; rfl
def x1 (e : EntD) : EntD := ⟨e.kind, e.seq, e.off, e.count, e.page, e.size, 0, ⟨#[]⟩⟩
def x2 (e : EntD) : EntD := ⟨e.kind, e.seq, 0, 0, 0, e.size, 0, ⟨#[]⟩⟩
def x3 (e : EntD) : EntD := ⟨e.kind, e.seq, 0, 0, 0, 0, e.ino, e.name⟩
def x4 (e : EntD) : EntD := ⟨e.kind, e.seq, 0, 0, 0, 0, 0, e.name⟩
theorem good1_no {e : EntD} (hk : e.kind = 1) (h : ¬ Cond1 e) : goodEnt e = false := by
  rw [Bool.eq_false_iff]
  intro hb
  unfold goodEnt at hb
  rw [if_pos hk] at hb
  simp only [Bool.and_eq_true, roomB, sizeB, wi_iff] at hb
  obtain ⟨_, ⟨a, b, c⟩, d, _⟩ := hb
  exact h ⟨a, b, d, c⟩
theorem good1 {e : EntD} (hk : e.kind = 1) (hs : seqB e = true) (h : Cond1 e) : goodEnt e = decide (x1 e = e) := by
  rw [Bool.eq_iff_iff]
  obtain ⟨a, b, c, d⟩ := h
  unfold goodEnt x1
  rw [if_pos hk]
  obtain ⟨k, q, o, n, p, z, i, m⟩ := e
  simp only [Bool.and_eq_true, roomB, sizeB, wi_iff, decide_eq_true_eq, EntD.mk.injEq, beq_iff_eq, noNameB, name_empty, true_and] at *
  constructor
  · rintro ⟨_, _, _, h1, h2⟩; exact ⟨h2.symm, h1.symm⟩
  · rintro ⟨h1, h2⟩; exact ⟨hs, ⟨a, b, d⟩, c, h2.symm, h1.symm⟩
theorem good2_no {e : EntD} (hk : e.kind = 2) (h : ¬ (0 ≤ e.size ∧ e.size ≤ 262144)) : goodEnt e = false := by
  rw [Bool.eq_false_iff]
  intro hb
  unfold goodEnt at hb
  rw [if_neg (by omega), if_pos hk] at hb
  simp only [Bool.and_eq_true, sizeB, wi_iff] at hb
  exact h hb.2.2.1
theorem good2 {e : EntD} (hk : e.kind = 2) (hs : seqB e = true) (h : 0 ≤ e.size ∧ e.size ≤ 262144) : goodEnt e = decide (x2 e = e) := by
  rw [Bool.eq_iff_iff]
  unfold goodEnt x2
  rw [if_neg (by omega), if_pos hk]
  obtain ⟨k, q, o, n, p, z, i, m⟩ := e
  simp only [Bool.and_eq_true, noPagesB, sizeB, wi_iff, decide_eq_true_eq, EntD.mk.injEq, beq_iff_eq, noNameB, name_empty, true_and] at *
  constructor
  · rintro ⟨_, ⟨a, b, c⟩, _, h1, h2⟩; exact ⟨a.symm, b.symm, c.symm, h2.symm, h1.symm⟩
  · rintro ⟨a, b, c, h1, h2⟩; exact ⟨hs, ⟨a.symm, b.symm, c.symm⟩, h, h2.symm, h1.symm⟩
theorem good3_no {e : EntD} (hk : e.kind = 3) (h : ¬ ((2 ≤ e.ino ∧ e.ino ≤ 256) ∧ goodName e.name = true)) : goodEnt e = false := by
  rw [Bool.eq_false_iff]
  intro hb
  unfold goodEnt at hb
  rw [if_neg (by omega), if_neg (by omega), if_pos hk] at hb
  simp only [Bool.and_eq_true, wi_iff] at hb
  exact h hb.2.2.2
theorem good3 {e : EntD} (hk : e.kind = 3) (hs : seqB e = true) (h : (2 ≤ e.ino ∧ e.ino ≤ 256) ∧ goodName e.name = true) : goodEnt e = decide (x3 e = e) := by
  rw [Bool.eq_iff_iff]
  unfold goodEnt x3
  rw [if_neg (by omega), if_neg (by omega), if_pos hk]
  obtain ⟨k, q, o, n, p, z, i, m⟩ := e
  simp only [Bool.and_eq_true, noPagesB, wi_iff, decide_eq_true_eq, EntD.mk.injEq, beq_iff_eq, true_and, and_true] at *
  constructor
  · rintro ⟨_, ⟨a, b, c⟩, d, _⟩; exact ⟨a.symm, b.symm, c.symm, d.symm⟩
  · rintro ⟨a, b, c, d⟩; exact ⟨hs, ⟨a.symm, b.symm, c.symm⟩, d.symm, h⟩
theorem good4_no {e : EntD} (hk : e.kind = 4) (h : goodName e.name = false) : goodEnt e = false := by
  rw [Bool.eq_false_iff]
  intro hb
  unfold goodEnt at hb
  rw [if_neg (by omega), if_neg (by omega), if_neg (by omega), if_pos hk] at hb
  simp only [Bool.and_eq_true] at hb
  have := hb.2.2.2.2
  rw [h] at this; cases this
theorem good4 {e : EntD} (hk : e.kind = 4) (hs : seqB e = true) (h : goodName e.name = true) : goodEnt e = decide (x4 e = e) := by
  rw [Bool.eq_iff_iff]
  unfold goodEnt x4
  rw [if_neg (by omega), if_neg (by omega), if_neg (by omega), if_pos hk]
  obtain ⟨k, q, o, n, p, z, i, m⟩ := e
  simp only [Bool.and_eq_true, noPagesB, decide_eq_true_eq, EntD.mk.injEq, beq_iff_eq, true_and, and_true] at *
  constructor
  · rintro ⟨_, ⟨a, b, c⟩, d, f, _⟩; exact ⟨a.symm, b.symm, c.symm, d.symm, f.symm⟩
  · rintro ⟨a, b, c, d, f⟩; exact ⟨hs, ⟨a.symm, b.symm, c.symm⟩, d.symm, f.symm, h⟩
theorem good_other {e : EntD} (h1 : ¬ e.kind = 1) (h2 : ¬ e.kind = 2) (h3 : ¬ e.kind = 3) (h4 : ¬ e.kind = 4) : goodEnt e = false := by
  unfold goodEnt; rw [if_neg h1, if_neg h2, if_neg h3, if_neg h4]; simp
end Go.Proofs.YtabebkffcmajkaaGreatDoor

/-! Walk: the reference's GoodEntry. (Printed by mk_LY3.py.) -/
namespace Go.Proofs.YtabebkffcmajkaaGreatDoor
open Go.RowKit Go.Maps Go.Shelf
attribute [local go_sem] quietV loudUpon Oper.semAt_some

def zeroEnt : Array Value := #[.int .i64 0, .int .u64 0, .int .i64 0, .int .i64 0, .int .i64 0, .int .i64 0, .int .i64 0, .string ⟨#[]⟩]
theorem zeroEntV (w : World) : (zeroValue 49).run Tryz.prog w = .ok (.agg zeroEnt) w := by kernel_rfl
theorem oneEnt (e : EntD) : (encEntry e).toArray.all (·.oneCell') = true := by simp [encEntry, Value.oneCell']
set_option maxRecDepth 100000 in
set_option maxHeartbeats 2000000 in
theorem refGoodEntry_any (w : World) (e : EntD) (hs0 : 0 ≤ e.seq) : Calls Tryz.prog 29 #[.agg (encEntry e).toArray] w (BoolPost w (goodEnt e)) := by
  obtain ⟨m, hm⟩ : ∃ m, m = w.heap.size := ⟨_, rfl⟩
  obtain ⟨w1, hw1⟩ : ∃ w1, w1 = w.alloc (.cells (encEntry e).toArray 49) := ⟨_, rfl⟩
  have hM : Mod None_ w w1 := by rw [hw1]; exact (Mod.refl _ w).alloc _
  have b1 : Blk w1 m 49 (encEntry e).toArray := by rw [hw1, hm]; exact Blk.new w 49 _
  have hgem : w.heap.size ≤ m := by omega
  have c0 : w1.cell? ⟨m, 0, none⟩ = some (.int .i64 e.kind) := b1.cell 0
  have c1 : w1.cell? ⟨m, 1, none⟩ = some (.int .u64 e.seq) := b1.cell 1
  have c2 : w1.cell? ⟨m, 2, none⟩ = some (.int .i64 e.off) := b1.cell 2
  have c3 : w1.cell? ⟨m, 3, none⟩ = some (.int .i64 e.count) := b1.cell 3
  have c4 : w1.cell? ⟨m, 4, none⟩ = some (.int .i64 e.page) := b1.cell 4
  have c5 : w1.cell? ⟨m, 5, none⟩ = some (.int .i64 e.size) := b1.cell 5
  have c6 : w1.cell? ⟨m, 6, none⟩ = some (.int .i64 e.ino) := b1.cell 6
  have c7 : w1.cell? ⟨m, 7, none⟩ = some (.string e.name) := b1.cell 7
  have HI := hide (infoEnt e)
  unfold encEntry at hw1
  have HW1 := hide hw1
  have HMM := hide hm
  clear hw1 hm
  unfold encEntry
  go_enter Tryz.func29, Tryz.ntmps29
  go_upto_region 1 with fail
  rw [← HMM.out, ← HW1.out]
  clear HMM HW1
  by_cases hq0 : e.seq < 1
  · have d0 : decide (e.seq < 1) = true := decide_eq_true hq0
    have HF : Hid (BoolPost w (goodEnt e) (.returned (.bool false)) w1) := hide (by
      have : goodEnt e = false := by unfold goodEnt seqB; by_cases h : e.seq = 0
                                     · rw [decide_eq_true h]; rfl
                                     · omega
      rw [this]; exact ⟨rfl, hM⟩)
    clear b1 hM
    go_wp2
    go_ret
    exact HF.out
  have d0 : decide (e.seq < 1) = false := decide_eq_false hq0
  by_cases hq1 : 4611686018427387904 < e.seq
  · have d1 : decide (4611686018427387904 < e.seq) = true := decide_eq_true hq1
    have HF : Hid (BoolPost w (goodEnt e) (.returned (.bool false)) w1) := hide (by rw [seqB_false2 hq1]; exact ⟨rfl, hM⟩)
    clear b1 hM
    go_wp2
    go_ret
    exact HF.out
  have d1 : decide (4611686018427387904 < e.seq) = false := decide_eq_false hq1
  have HQ := hide (seq_ok hq0 hq1)
  go_wp2_with ((with_reducible refine at_slot 12 ?_); refine wpList_val rfl (ex_load rfl (run_loadRow b1 Tryz.underlying49 rfl HI.out)) ?_; go_frame)
  refine (plain_any w1 e).mono ?_
  rintro e2 w2 ⟨rfl, hm2⟩
  have hM2 := hM.trans hm2
  have b2 := b1.mod hm2 id
  obtain ⟨q, hq⟩ : ∃ q, q = w2.heap.size := ⟨_, rfl⟩
  obtain ⟨w3, hw3⟩ : ∃ w3, w3 = w2.alloc (.cells (encEntry (plainOf e)).toArray 49) := ⟨_, rfl⟩
  have hm3 : Mod None_ w2 w3 := by rw [hw3]; exact (Mod.refl _ w2).alloc _
  have hM3 := hM2.trans hm3
  have b3 := b2.mod hm3 id
  have x3_ : Blk w3 q 49 (encEntry (plainOf e)).toArray := by rw [hw3, hq]; exact Blk.new w2 49 _
  have hmq : m < q := by rw [hq]; exact b2.lt
  clear c0 c1 c2 c3 c4 c5 c6 c7 b1 hM hm2 hm3 hM2 b2 hq0 hq1
  go_upto_region 4 with ((with_reducible refine at_slot 3 ?_); refine wpList_declare rfl rfl 49 3 (.tmp 13) rfl rfl rfl zeroEnt (encEntry (plainOf e)).toArray zeroEntV (infoEnt _) rfl (oneEnt _) (by simp) rfl ?_; go_frame; rw [← hw3, ← hq])
  clear hw3 hq
  have c0 : w3.cell? ⟨m, 0, none⟩ = some (.int .i64 e.kind) := b3.cell 0
  have c1 : w3.cell? ⟨m, 1, none⟩ = some (.int .u64 e.seq) := b3.cell 1
  have c2 : w3.cell? ⟨m, 2, none⟩ = some (.int .i64 e.off) := b3.cell 2
  have c3 : w3.cell? ⟨m, 3, none⟩ = some (.int .i64 e.count) := b3.cell 3
  have c4 : w3.cell? ⟨m, 4, none⟩ = some (.int .i64 e.page) := b3.cell 4
  have c5 : w3.cell? ⟨m, 5, none⟩ = some (.int .i64 e.size) := b3.cell 5
  have c6 : w3.cell? ⟨m, 6, none⟩ = some (.int .i64 e.ino) := b3.cell 6
  have c7 : w3.cell? ⟨m, 7, none⟩ = some (.string e.name) := b3.cell 7
  have hgq : w.heap.size ≤ q := by omega
  by_cases hk1 : e.kind = 1
  · have k1 : (e.kind == 1) = true := by simp [hk1]
    have HK := hide hk1
    clear hk1
    have g4 := x3_.cell 2
    have f4 : w3.frozen? ⟨q, 2, none⟩ = false := x3_.frozen _
    have g4' : w3.cell? ⟨q, 2, none⟩ = some (.int .i64 0) := g4
    clear g4
    go_upto_region 8 with fail
    obtain ⟨w4, hw4⟩ : ∃ x, x = w3.setCell ⟨q, 2, none⟩ (.int .i64 e.off) := ⟨_, rfl⟩
    rw [← hw4]
    have hs4 : Mod (· = q) w3 w4 := by rw [hw4]; exact (Mod.refl (· = q) w3).setCell (p := ⟨q, 2, none⟩) (.inr rfl) _
    have x4_ : Blk w4 q 49 (encEntry ⟨e.kind, e.seq, e.off, 0, 0, 0, 0, ⟨#[]⟩⟩).toArray := by
      have := x3_.set_ 2 (.int .i64 e.off)
      rw [← hw4] at this
      exact this
    have b4 := b3.mod hs4 (by omega)
    have hM4 : Mod None_ w w4 := hM3.trans' hs4 (fun g hg e => by omega)
    clear hw4 hs4 g4' f4 x3_ b3 hM3 c0 c1 c2 c3 c4 c5 c6 c7
    have c0 : w4.cell? ⟨m, 0, none⟩ = some (.int .i64 e.kind) := b4.cell 0
    have c1 : w4.cell? ⟨m, 1, none⟩ = some (.int .u64 e.seq) := b4.cell 1
    have c2 : w4.cell? ⟨m, 2, none⟩ = some (.int .i64 e.off) := b4.cell 2
    have c3 : w4.cell? ⟨m, 3, none⟩ = some (.int .i64 e.count) := b4.cell 3
    have c4 : w4.cell? ⟨m, 4, none⟩ = some (.int .i64 e.page) := b4.cell 4
    have c5 : w4.cell? ⟨m, 5, none⟩ = some (.int .i64 e.size) := b4.cell 5
    have c6 : w4.cell? ⟨m, 6, none⟩ = some (.int .i64 e.ino) := b4.cell 6
    have c7 : w4.cell? ⟨m, 7, none⟩ = some (.string e.name) := b4.cell 7
    have g5 := x4_.cell 3
    have f5 : w4.frozen? ⟨q, 3, none⟩ = false := x4_.frozen _
    have g5' : w4.cell? ⟨q, 3, none⟩ = some (.int .i64 0) := g5
    clear g5
    go_upto_region 9 with fail
    obtain ⟨w5, hw5⟩ : ∃ x, x = w4.setCell ⟨q, 3, none⟩ (.int .i64 e.count) := ⟨_, rfl⟩
    rw [← hw5]
    have hs5 : Mod (· = q) w4 w5 := by rw [hw5]; exact (Mod.refl (· = q) w4).setCell (p := ⟨q, 3, none⟩) (.inr rfl) _
    have x5_ : Blk w5 q 49 (encEntry ⟨e.kind, e.seq, e.off, e.count, 0, 0, 0, ⟨#[]⟩⟩).toArray := by
      have := x4_.set_ 3 (.int .i64 e.count)
      rw [← hw5] at this
      exact this
    have b5 := b4.mod hs5 (by omega)
    have hM5 : Mod None_ w w5 := hM4.trans' hs5 (fun g hg e => by omega)
    clear hw5 hs5 g5' f5 x4_ b4 hM4 c0 c1 c2 c3 c4 c5 c6 c7
    have c0 : w5.cell? ⟨m, 0, none⟩ = some (.int .i64 e.kind) := b5.cell 0
    have c1 : w5.cell? ⟨m, 1, none⟩ = some (.int .u64 e.seq) := b5.cell 1
    have c2 : w5.cell? ⟨m, 2, none⟩ = some (.int .i64 e.off) := b5.cell 2
    have c3 : w5.cell? ⟨m, 3, none⟩ = some (.int .i64 e.count) := b5.cell 3
    have c4 : w5.cell? ⟨m, 4, none⟩ = some (.int .i64 e.page) := b5.cell 4
    have c5 : w5.cell? ⟨m, 5, none⟩ = some (.int .i64 e.size) := b5.cell 5
    have c6 : w5.cell? ⟨m, 6, none⟩ = some (.int .i64 e.ino) := b5.cell 6
    have c7 : w5.cell? ⟨m, 7, none⟩ = some (.string e.name) := b5.cell 7
    have g6 := x5_.cell 4
    have f6 : w5.frozen? ⟨q, 4, none⟩ = false := x5_.frozen _
    have g6' : w5.cell? ⟨q, 4, none⟩ = some (.int .i64 0) := g6
    clear g6
    go_upto_region 10 with fail
    obtain ⟨w6, hw6⟩ : ∃ x, x = w5.setCell ⟨q, 4, none⟩ (.int .i64 e.page) := ⟨_, rfl⟩
    rw [← hw6]
    have hs6 : Mod (· = q) w5 w6 := by rw [hw6]; exact (Mod.refl (· = q) w5).setCell (p := ⟨q, 4, none⟩) (.inr rfl) _
    have x6_ : Blk w6 q 49 (encEntry ⟨e.kind, e.seq, e.off, e.count, e.page, 0, 0, ⟨#[]⟩⟩).toArray := by
      have := x5_.set_ 4 (.int .i64 e.page)
      rw [← hw6] at this
      exact this
    have b6 := b5.mod hs6 (by omega)
    have hM6 : Mod None_ w w6 := hM5.trans' hs6 (fun g hg e => by omega)
    clear hw6 hs6 g6' f6 x5_ b5 hM5 c0 c1 c2 c3 c4 c5 c6 c7
    have c0 : w6.cell? ⟨m, 0, none⟩ = some (.int .i64 e.kind) := b6.cell 0
    have c1 : w6.cell? ⟨m, 1, none⟩ = some (.int .u64 e.seq) := b6.cell 1
    have c2 : w6.cell? ⟨m, 2, none⟩ = some (.int .i64 e.off) := b6.cell 2
    have c3 : w6.cell? ⟨m, 3, none⟩ = some (.int .i64 e.count) := b6.cell 3
    have c4 : w6.cell? ⟨m, 4, none⟩ = some (.int .i64 e.page) := b6.cell 4
    have c5 : w6.cell? ⟨m, 5, none⟩ = some (.int .i64 e.size) := b6.cell 5
    have c6 : w6.cell? ⟨m, 6, none⟩ = some (.int .i64 e.ino) := b6.cell 6
    have c7 : w6.cell? ⟨m, 7, none⟩ = some (.string e.name) := b6.cell 7
    have g7 := x6_.cell 5
    have f7 : w6.frozen? ⟨q, 5, none⟩ = false := x6_.frozen _
    have g7' : w6.cell? ⟨q, 5, none⟩ = some (.int .i64 0) := g7
    clear g7
    go_upto_region 11 with fail
    obtain ⟨w7, hw7⟩ : ∃ x, x = w6.setCell ⟨q, 5, none⟩ (.int .i64 e.size) := ⟨_, rfl⟩
    rw [← hw7]
    have hs7 : Mod (· = q) w6 w7 := by rw [hw7]; exact (Mod.refl (· = q) w6).setCell (p := ⟨q, 5, none⟩) (.inr rfl) _
    have x7_ : Blk w7 q 49 (encEntry (x1 e)).toArray := by
      have := x6_.set_ 5 (.int .i64 e.size)
      rw [← hw7] at this
      exact this
    have b7 := b6.mod hs7 (by omega)
    have hM7 : Mod None_ w w7 := hM6.trans' hs7 (fun g hg e => by omega)
    clear hw7 hs7 g7' f7 x6_ b6 hM6 c0 c1 c2 c3 c4 c5 c6 c7
    have c0 : w7.cell? ⟨m, 0, none⟩ = some (.int .i64 e.kind) := b7.cell 0
    have c1 : w7.cell? ⟨m, 1, none⟩ = some (.int .u64 e.seq) := b7.cell 1
    have c2 : w7.cell? ⟨m, 2, none⟩ = some (.int .i64 e.off) := b7.cell 2
    have c3 : w7.cell? ⟨m, 3, none⟩ = some (.int .i64 e.count) := b7.cell 3
    have c4 : w7.cell? ⟨m, 4, none⟩ = some (.int .i64 e.page) := b7.cell 4
    have c5 : w7.cell? ⟨m, 5, none⟩ = some (.int .i64 e.size) := b7.cell 5
    have c6 : w7.cell? ⟨m, 6, none⟩ = some (.int .i64 e.ino) := b7.cell 6
    have c7 : w7.cell? ⟨m, 7, none⟩ = some (.string e.name) := b7.cell 7
    by_cases a0 : e.count < 1
    · have d2 : decide (e.count < 1) = true := decide_eq_true a0
      have hno : ¬ Cond1 e := fun h => by obtain ⟨⟨_, _⟩, ⟨_, _⟩, ⟨_, _⟩, _, _⟩ := h; omega
      have HF : Hid (BoolPost w (goodEnt e) (.returned (.bool false)) w7) := hide (by rw [good1_no HK.out hno]; exact ⟨rfl, hM7⟩)
      go_wp2
      go_ret
      exact HF.out
    have d2 : decide (e.count < 1) = false := decide_eq_false a0
    by_cases a1 : 16 < e.count
    · have d3 : decide (16 < e.count) = true := decide_eq_true a1
      have hno : ¬ Cond1 e := fun h => by obtain ⟨⟨_, _⟩, ⟨_, _⟩, ⟨_, _⟩, _, _⟩ := h; omega
      have HF : Hid (BoolPost w (goodEnt e) (.returned (.bool false)) w7) := hide (by rw [good1_no HK.out hno]; exact ⟨rfl, hM7⟩)
      go_wp2
      go_ret
      exact HF.out
    have d3 : decide (16 < e.count) = false := decide_eq_false a1
    by_cases a2 : e.off < 0
    · have d4 : decide (e.off < 0) = true := decide_eq_true a2
      have hno : ¬ Cond1 e := fun h => by obtain ⟨⟨_, _⟩, ⟨_, _⟩, ⟨_, _⟩, _, _⟩ := h; omega
      have HF : Hid (BoolPost w (goodEnt e) (.returned (.bool false)) w7) := hide (by rw [good1_no HK.out hno]; exact ⟨rfl, hM7⟩)
      go_wp2
      go_ret
      exact HF.out
    have d4 : decide (e.off < 0) = false := decide_eq_false a2
    by_cases a3 : 512 - e.count < e.off
    · have d5 : decide (512 - e.count < e.off) = true := decide_eq_true a3
      have hno : ¬ Cond1 e := fun h => by obtain ⟨⟨_, _⟩, ⟨_, _⟩, ⟨_, _⟩, _, _⟩ := h; omega
      have HF : Hid (BoolPost w (goodEnt e) (.returned (.bool false)) w7) := hide (by rw [good1_no HK.out hno]; exact ⟨rfl, hM7⟩)
      go_wp2
      go_ret
      exact HF.out
    have d5 : decide (512 - e.count < e.off) = false := decide_eq_false a3
    by_cases a4 : e.size < 0
    · have d6 : decide (e.size < 0) = true := decide_eq_true a4
      have hno : ¬ Cond1 e := fun h => by obtain ⟨⟨_, _⟩, ⟨_, _⟩, ⟨_, _⟩, _, _⟩ := h; omega
      have HF : Hid (BoolPost w (goodEnt e) (.returned (.bool false)) w7) := hide (by rw [good1_no HK.out hno]; exact ⟨rfl, hM7⟩)
      go_wp2
      go_ret
      exact HF.out
    have d6 : decide (e.size < 0) = false := decide_eq_false a4
    by_cases a5 : 262144 < e.size
    · have d7 : decide (262144 < e.size) = true := decide_eq_true a5
      have hno : ¬ Cond1 e := fun h => by obtain ⟨⟨_, _⟩, ⟨_, _⟩, ⟨_, _⟩, _, _⟩ := h; omega
      have HF : Hid (BoolPost w (goodEnt e) (.returned (.bool false)) w7) := hide (by rw [good1_no HK.out hno]; exact ⟨rfl, hM7⟩)
      go_wp2
      go_ret
      exact HF.out
    have d7 : decide (262144 < e.size) = false := decide_eq_false a5
    go_wp2_with fail
    refine (refData_any w7 e.page).mono ?_
    rintro e3 w9 ⟨rfl, rfl⟩
    cases hd1 : dataB e.page with
    | false =>
      have hno : ¬ Cond1 e := fun h => by
        obtain ⟨⟨_, _⟩, ⟨_, _⟩, ⟨_, _⟩, _, _⟩ := h
        unfold dataB at hd1
        rw [decide_eq_true (by omega), decide_eq_true (by omega)] at hd1
        cases hd1
      clear hd1
      have HF : Hid (BoolPost w (goodEnt e) (.returned (.bool false)) w7) := hide (by rw [good1_no HK.out hno]; exact ⟨rfl, hM7⟩)
      go_wp2
      go_ret
      exact HF.out
    | true =>
      have hdp : 5 ≤ e.page ∧ e.page < 1024 := by
        unfold dataB at hd1
        simpa using hd1
      obtain ⟨hp1, hp2⟩ := hdp
      have ew1 : IntKind.i64.wrap (e.page + e.count) = e.page + e.count := IntWalk.i64_in _ (by omega)
      have ew2 : IntKind.i64.wrap (e.page + e.count - 1) = e.page + e.count - 1 := IntWalk.i64_in _ (by omega)
      clear hd1
      go_wp2_with fail
      refine (refData_any w7 (e.page + e.count - 1)).mono ?_
      rintro e3 w9 ⟨rfl, rfl⟩
      cases hd2 : dataB (e.page + e.count - 1) with
      | false =>
        have hno : ¬ Cond1 e := fun h => by
          obtain ⟨⟨_, _⟩, ⟨_, _⟩, ⟨_, _⟩, _, _⟩ := h
          unfold dataB at hd2
          rw [decide_eq_true (by omega), decide_eq_true (by omega)] at hd2
          cases hd2
        clear hd2
        have HF : Hid (BoolPost w (goodEnt e) (.returned (.bool false)) w7) := hide (by rw [good1_no HK.out hno]; exact ⟨rfl, hM7⟩)
        go_wp2
        go_ret
        exact HF.out
      | true =>
        have hdp : 5 ≤ e.page + e.count - 1 ∧ e.page + e.count - 1 < 1024 := by
          unfold dataB at hd2
          simpa using hd2
        have hc : Cond1 e := ⟨⟨by omega, by omega⟩, ⟨by omega, by omega⟩, ⟨by omega, by omega⟩, by omega, by omega⟩
        have HC := hide (good1 HK.out HQ.out hc)
        clear hd2 hdp hc
        have HIX := hide (infoEnt (x1 e))
        have HF : Hid (BoolPost w (goodEnt e) (.returned (.bool (decide (x1 e = e)))) w7) := hide (by rw [HC.out]; exact ⟨rfl, hM7⟩)
        clear hM7
        go_wp2_with (first
          | ((with_reducible refine at_slot 119 ?_); refine wpList_val rfl (ex_load rfl (run_loadRow x7_ Tryz.underlying49 rfl HIX.out)) ?_; go_frame)
          | ((with_reducible refine at_slot 120 ?_); refine wpList_val rfl (ex_load rfl (run_loadRow b7 Tryz.underlying49 rfl HI.out)) ?_; go_frame)
          | ((with_reducible refine at_slot 121 ?_); refine wpList_val rfl (ex_eqlAgg rfl guardEntry rfl rfl (run_eqEntry (x1 e) e _)) ?_; go_frame))
        go_ret
        exact HF.out
  by_cases hk2 : e.kind = 2
  · have k1 : (e.kind == 1) = false := by simp [hk2]
    have k2 : (e.kind == 2) = true := by simp [hk2]
    have HK := hide hk2
    clear hk1 hk2
    have g4 := x3_.cell 5
    have f4 : w3.frozen? ⟨q, 5, none⟩ = false := x3_.frozen _
    have g4' : w3.cell? ⟨q, 5, none⟩ = some (.int .i64 0) := g4
    clear g4
    go_upto_region 17 with fail
    obtain ⟨w4, hw4⟩ : ∃ x, x = w3.setCell ⟨q, 5, none⟩ (.int .i64 e.size) := ⟨_, rfl⟩
    rw [← hw4]
    have hs4 : Mod (· = q) w3 w4 := by rw [hw4]; exact (Mod.refl (· = q) w3).setCell (p := ⟨q, 5, none⟩) (.inr rfl) _
    have x4_ : Blk w4 q 49 (encEntry (x2 e)).toArray := by
      have := x3_.set_ 5 (.int .i64 e.size)
      rw [← hw4] at this
      exact this
    have b4 := b3.mod hs4 (by omega)
    have hM4 : Mod None_ w w4 := hM3.trans' hs4 (fun g hg e => by omega)
    clear hw4 hs4 g4' f4 x3_ b3 hM3 c0 c1 c2 c3 c4 c5 c6 c7
    have c0 : w4.cell? ⟨m, 0, none⟩ = some (.int .i64 e.kind) := b4.cell 0
    have c1 : w4.cell? ⟨m, 1, none⟩ = some (.int .u64 e.seq) := b4.cell 1
    have c2 : w4.cell? ⟨m, 2, none⟩ = some (.int .i64 e.off) := b4.cell 2
    have c3 : w4.cell? ⟨m, 3, none⟩ = some (.int .i64 e.count) := b4.cell 3
    have c4 : w4.cell? ⟨m, 4, none⟩ = some (.int .i64 e.page) := b4.cell 4
    have c5 : w4.cell? ⟨m, 5, none⟩ = some (.int .i64 e.size) := b4.cell 5
    have c6 : w4.cell? ⟨m, 6, none⟩ = some (.int .i64 e.ino) := b4.cell 6
    have c7 : w4.cell? ⟨m, 7, none⟩ = some (.string e.name) := b4.cell 7
    by_cases a0 : e.size < 0
    · have d2 : decide (e.size < 0) = true := decide_eq_true a0
      have HF : Hid (BoolPost w (goodEnt e) (.returned (.bool false)) w4) := hide (by rw [good2_no HK.out (by omega)]; exact ⟨rfl, hM4⟩)
      go_wp2
      go_ret
      exact HF.out
    have d2 : decide (e.size < 0) = false := decide_eq_false a0
    by_cases a1 : 262144 < e.size
    · have d3 : decide (262144 < e.size) = true := decide_eq_true a1
      have HF : Hid (BoolPost w (goodEnt e) (.returned (.bool false)) w4) := hide (by rw [good2_no HK.out (by omega)]; exact ⟨rfl, hM4⟩)
      go_wp2
      go_ret
      exact HF.out
    have d3 : decide (262144 < e.size) = false := decide_eq_false a1
    have HC := hide (good2 HK.out HQ.out (by omega))
    have HIX := hide (infoEnt (x2 e))
    have HF : Hid (BoolPost w (goodEnt e) (.returned (.bool (decide (x2 e = e)))) w4) := hide (by rw [HC.out]; exact ⟨rfl, hM4⟩)
    clear hM4
    go_wp2_with (first
      | ((with_reducible refine at_slot 119 ?_); refine wpList_val rfl (ex_load rfl (run_loadRow x4_ Tryz.underlying49 rfl HIX.out)) ?_; go_frame)
      | ((with_reducible refine at_slot 120 ?_); refine wpList_val rfl (ex_load rfl (run_loadRow b4 Tryz.underlying49 rfl HI.out)) ?_; go_frame)
      | ((with_reducible refine at_slot 121 ?_); refine wpList_val rfl (ex_eqlAgg rfl guardEntry rfl rfl (run_eqEntry (x2 e) e _)) ?_; go_frame))
    go_ret
    exact HF.out
  by_cases hk3 : e.kind = 3
  · have k1 : (e.kind == 1) = false := by simp [hk3]
    have k2 : (e.kind == 2) = false := by simp [hk3]
    have k3 : (e.kind == 3) = true := by simp [hk3]
    have HK := hide hk3
    clear hk1 hk2 hk3
    have g4 := x3_.cell 6
    have f4 : w3.frozen? ⟨q, 6, none⟩ = false := x3_.frozen _
    have g4' : w3.cell? ⟨q, 6, none⟩ = some (.int .i64 0) := g4
    clear g4
    go_upto_region 21 with fail
    obtain ⟨w4, hw4⟩ : ∃ x, x = w3.setCell ⟨q, 6, none⟩ (.int .i64 e.ino) := ⟨_, rfl⟩
    rw [← hw4]
    have hs4 : Mod (· = q) w3 w4 := by rw [hw4]; exact (Mod.refl (· = q) w3).setCell (p := ⟨q, 6, none⟩) (.inr rfl) _
    have x4_ : Blk w4 q 49 (encEntry ⟨e.kind, e.seq, 0, 0, 0, 0, e.ino, ⟨#[]⟩⟩).toArray := by
      have := x3_.set_ 6 (.int .i64 e.ino)
      rw [← hw4] at this
      exact this
    have b4 := b3.mod hs4 (by omega)
    have hM4 : Mod None_ w w4 := hM3.trans' hs4 (fun g hg e => by omega)
    clear hw4 hs4 g4' f4 x3_ b3 hM3 c0 c1 c2 c3 c4 c5 c6 c7
    have c0 : w4.cell? ⟨m, 0, none⟩ = some (.int .i64 e.kind) := b4.cell 0
    have c1 : w4.cell? ⟨m, 1, none⟩ = some (.int .u64 e.seq) := b4.cell 1
    have c2 : w4.cell? ⟨m, 2, none⟩ = some (.int .i64 e.off) := b4.cell 2
    have c3 : w4.cell? ⟨m, 3, none⟩ = some (.int .i64 e.count) := b4.cell 3
    have c4 : w4.cell? ⟨m, 4, none⟩ = some (.int .i64 e.page) := b4.cell 4
    have c5 : w4.cell? ⟨m, 5, none⟩ = some (.int .i64 e.size) := b4.cell 5
    have c6 : w4.cell? ⟨m, 6, none⟩ = some (.int .i64 e.ino) := b4.cell 6
    have c7 : w4.cell? ⟨m, 7, none⟩ = some (.string e.name) := b4.cell 7
    have g5 := x4_.cell 7
    have f5 : w4.frozen? ⟨q, 7, none⟩ = false := x4_.frozen _
    have g5' : w4.cell? ⟨q, 7, none⟩ = some (.string ⟨#[]⟩) := g5
    clear g5
    go_upto_region 22 with fail
    obtain ⟨w5, hw5⟩ : ∃ x, x = w4.setCell ⟨q, 7, none⟩ (.string e.name) := ⟨_, rfl⟩
    rw [← hw5]
    have hs5 : Mod (· = q) w4 w5 := by rw [hw5]; exact (Mod.refl (· = q) w4).setCell (p := ⟨q, 7, none⟩) (.inr rfl) _
    have x5_ : Blk w5 q 49 (encEntry (x3 e)).toArray := by
      have := x4_.set_ 7 (.string e.name)
      rw [← hw5] at this
      exact this
    have b5 := b4.mod hs5 (by omega)
    have hM5 : Mod None_ w w5 := hM4.trans' hs5 (fun g hg e => by omega)
    clear hw5 hs5 g5' f5 x4_ b4 hM4 c0 c1 c2 c3 c4 c5 c6 c7
    have c0 : w5.cell? ⟨m, 0, none⟩ = some (.int .i64 e.kind) := b5.cell 0
    have c1 : w5.cell? ⟨m, 1, none⟩ = some (.int .u64 e.seq) := b5.cell 1
    have c2 : w5.cell? ⟨m, 2, none⟩ = some (.int .i64 e.off) := b5.cell 2
    have c3 : w5.cell? ⟨m, 3, none⟩ = some (.int .i64 e.count) := b5.cell 3
    have c4 : w5.cell? ⟨m, 4, none⟩ = some (.int .i64 e.page) := b5.cell 4
    have c5 : w5.cell? ⟨m, 5, none⟩ = some (.int .i64 e.size) := b5.cell 5
    have c6 : w5.cell? ⟨m, 6, none⟩ = some (.int .i64 e.ino) := b5.cell 6
    have c7 : w5.cell? ⟨m, 7, none⟩ = some (.string e.name) := b5.cell 7
    by_cases a0 : e.ino < 2
    · have d2 : decide (e.ino < 2) = true := decide_eq_true a0
      have HF : Hid (BoolPost w (goodEnt e) (.returned (.bool false)) w5) := hide (by rw [good3_no HK.out (fun h => by omega)]; exact ⟨rfl, hM5⟩)
      go_wp2
      go_ret
      exact HF.out
    have d2 : decide (e.ino < 2) = false := decide_eq_false a0
    by_cases a1 : 256 < e.ino
    · have d3 : decide (256 < e.ino) = true := decide_eq_true a1
      have HF : Hid (BoolPost w (goodEnt e) (.returned (.bool false)) w5) := hide (by rw [good3_no HK.out (fun h => by omega)]; exact ⟨rfl, hM5⟩)
      go_wp2
      go_ret
      exact HF.out
    have d3 : decide (256 < e.ino) = false := decide_eq_false a1
    go_wp2_with fail
    refine (refValid_any e.name w5).mono ?_
    rintro e3 w9 ⟨rfl, rfl⟩
    cases hg : goodName e.name with
    | false =>
      have HB := hide (good3_no HK.out (fun h => by rw [hg] at h; cases h.2))
      clear hg
      have HF : Hid (BoolPost w (goodEnt e) (.returned (.bool false)) w5) := hide (by rw [HB.out]; exact ⟨rfl, hM5⟩)
      go_wp2
      go_ret
      exact HF.out
    | true =>
      have HC := hide (good3 HK.out HQ.out ⟨by omega, hg⟩)
      clear hg
      have HIX := hide (infoEnt (x3 e))
      have HF : Hid (BoolPost w (goodEnt e) (.returned (.bool (decide (x3 e = e)))) w5) := hide (by rw [HC.out]; exact ⟨rfl, hM5⟩)
      clear hM5
      go_wp2_with (first
        | ((with_reducible refine at_slot 119 ?_); refine wpList_val rfl (ex_load rfl (run_loadRow x5_ Tryz.underlying49 rfl HIX.out)) ?_; go_frame)
        | ((with_reducible refine at_slot 120 ?_); refine wpList_val rfl (ex_load rfl (run_loadRow b5 Tryz.underlying49 rfl HI.out)) ?_; go_frame)
        | ((with_reducible refine at_slot 121 ?_); refine wpList_val rfl (ex_eqlAgg rfl guardEntry rfl rfl (run_eqEntry (x3 e) e _)) ?_; go_frame))
      go_ret
      exact HF.out
  by_cases hk4 : e.kind = 4
  · have k1 : (e.kind == 1) = false := by simp [hk4]
    have k2 : (e.kind == 2) = false := by simp [hk4]
    have k3 : (e.kind == 3) = false := by simp [hk4]
    have k4 : (e.kind == 4) = true := by simp [hk4]
    have HK := hide hk4
    clear hk1 hk2 hk3 hk4
    have g4 := x3_.cell 7
    have f4 : w3.frozen? ⟨q, 7, none⟩ = false := x3_.frozen _
    have g4' : w3.cell? ⟨q, 7, none⟩ = some (.string ⟨#[]⟩) := g4
    clear g4
    go_upto_region 26 with fail
    obtain ⟨w4, hw4⟩ : ∃ x, x = w3.setCell ⟨q, 7, none⟩ (.string e.name) := ⟨_, rfl⟩
    rw [← hw4]
    have hs4 : Mod (· = q) w3 w4 := by rw [hw4]; exact (Mod.refl (· = q) w3).setCell (p := ⟨q, 7, none⟩) (.inr rfl) _
    have x4_ : Blk w4 q 49 (encEntry (x4 e)).toArray := by
      have := x3_.set_ 7 (.string e.name)
      rw [← hw4] at this
      exact this
    have b4 := b3.mod hs4 (by omega)
    have hM4 : Mod None_ w w4 := hM3.trans' hs4 (fun g hg e => by omega)
    clear hw4 hs4 g4' f4 x3_ b3 hM3 c0 c1 c2 c3 c4 c5 c6 c7
    have c0 : w4.cell? ⟨m, 0, none⟩ = some (.int .i64 e.kind) := b4.cell 0
    have c1 : w4.cell? ⟨m, 1, none⟩ = some (.int .u64 e.seq) := b4.cell 1
    have c2 : w4.cell? ⟨m, 2, none⟩ = some (.int .i64 e.off) := b4.cell 2
    have c3 : w4.cell? ⟨m, 3, none⟩ = some (.int .i64 e.count) := b4.cell 3
    have c4 : w4.cell? ⟨m, 4, none⟩ = some (.int .i64 e.page) := b4.cell 4
    have c5 : w4.cell? ⟨m, 5, none⟩ = some (.int .i64 e.size) := b4.cell 5
    have c6 : w4.cell? ⟨m, 6, none⟩ = some (.int .i64 e.ino) := b4.cell 6
    have c7 : w4.cell? ⟨m, 7, none⟩ = some (.string e.name) := b4.cell 7
    go_wp2_with fail
    refine (refValid_any e.name w4).mono ?_
    rintro e3 w9 ⟨rfl, rfl⟩
    cases hg : goodName e.name with
    | false =>
      have HB := hide (good4_no HK.out hg)
      clear hg
      have HF : Hid (BoolPost w (goodEnt e) (.returned (.bool false)) w4) := hide (by rw [HB.out]; exact ⟨rfl, hM4⟩)
      go_wp2
      go_ret
      exact HF.out
    | true =>
      have HC := hide (good4 HK.out HQ.out hg)
      clear hg
      have HIX := hide (infoEnt (x4 e))
      have HF : Hid (BoolPost w (goodEnt e) (.returned (.bool (decide (x4 e = e)))) w4) := hide (by rw [HC.out]; exact ⟨rfl, hM4⟩)
      clear hM4
      go_wp2_with (first
        | ((with_reducible refine at_slot 119 ?_); refine wpList_val rfl (ex_load rfl (run_loadRow x4_ Tryz.underlying49 rfl HIX.out)) ?_; go_frame)
        | ((with_reducible refine at_slot 120 ?_); refine wpList_val rfl (ex_load rfl (run_loadRow b4 Tryz.underlying49 rfl HI.out)) ?_; go_frame)
        | ((with_reducible refine at_slot 121 ?_); refine wpList_val rfl (ex_eqlAgg rfl guardEntry rfl rfl (run_eqEntry (x4 e) e _)) ?_; go_frame))
      go_ret
      exact HF.out
  have k1 : (e.kind == 1) = false := by simpa using hk1
  have k2 : (e.kind == 2) = false := by simpa using hk2
  have k3 : (e.kind == 3) = false := by simpa using hk3
  have k4 : (e.kind == 4) = false := by simpa using hk4
  have HO := hide (good_other hk1 hk2 hk3 hk4)
  clear hk1 hk2 hk3 hk4
  have HF : Hid (BoolPost w (goodEnt e) (.returned (.bool false)) w3) := hide (by rw [HO.out]; exact ⟨rfl, hM3⟩)
  go_wp2
  go_ret
  exact HF.out
end Go.Proofs.YtabebkffcmajkaaGreatDoor
