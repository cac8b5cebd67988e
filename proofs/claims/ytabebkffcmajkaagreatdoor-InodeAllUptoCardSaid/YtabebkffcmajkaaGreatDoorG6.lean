import Derived.IntWalk
import Derived.Deep.MidRow
import Derived.Deep.CutRange
import Derived.Maps.AppendAt
import Derived.Deep.AppendLies
import Derived.OwnWalk
import Derived.Test.YtabebkffcmajkaaGreatDoorRows
import Derived.Deep.Slices
import Derived.Deep.Fields
import Derived.ChangeSame
import Derived.ProofKit
import Derived.OpenShut
import Derived.SizedLaws
import Derived.Test.YtabebkffcmajkaaGreatDoorG5
import Derived.Test.YtabebkffcmajkaaGreatDoorG4
set_option linter.unusedVariables false
set_option linter.unusedSimpArgs false
/-! Reference walks: Data, EndPage, goodRun. -/
namespace Go.Proofs.YtabebkffcmajkaaGreatDoor
open Go.RowKit Go.Maps Go.Shelf

def dataB (p : Int) : Bool := decide (5 ≤ p) && decide (p < 1024)
theorem refData_any (w : World) (p : Int) : Calls Tryz.prog 49 #[.int .i64 p] w fun e w' => e = .returned (.bool (dataB p)) ∧ w = w' := by
  by_cases h : 5 ≤ p
  · have d1 : decide (5 ≤ p) = true := decide_eq_true h
    have e : dataB p = decide (p < 1024) := by unfold dataB; rw [d1]; rfl
    rw [e]
    clear h e
    go_enter Tryz.func49, Tryz.ntmps49
    go_wp2
    go_ret
    exact ⟨rfl, rfl⟩
  · have d1 : decide (5 ≤ p) = false := decide_eq_false h
    have e : dataB p = false := by unfold dataB; rw [d1]; rfl
    rw [e]
    clear h e
    go_enter Tryz.func49, Tryz.ntmps49
    go_wp2
    go_ret
    exact ⟨rfl, rfl⟩

theorem refEndPage_any (n : Int) (w : World) (h0 : 0 ≤ n) (h1 : n ≤ 262144) : Calls Tryz.prog 43 #[.int .i64 n] w fun e w' => e = .returned (.int .i64 ((n + 511) / 512)) ∧ w = w' := by
  have e : n + 512 - 1 = n + 511 := by omega
  have E := hide e
  clear e
  go_enter Tryz.func43, Tryz.ntmps43
  go_wp2
  go_ret
  rw [E.out]
  simp

/-- what the reference asks of a run -/
def refRun (r : RunD) : Bool := decide (0 ≤ r.off) && decide (r.off < 512) && decide (1 ≤ r.count) && decide (r.count ≤ 512 - r.off) && dataB r.page && decide (r.page ≤ 1024 - r.count)

set_option maxRecDepth 100000 in
set_option maxHeartbeats 2000000 in
theorem refRun_any (w : World) (r : RunD) : Calls Tryz.prog 42 #[.agg #[.int .i64 r.off, .int .i64 r.page, .int .i64 r.count]] w fun e w' => e = .returned (.bool (refRun r)) ∧ Mod None_ w w' := by
  have HM : Hid (Mod None_ w (w.alloc (.cells #[.int .i64 r.off, .int .i64 r.page, .int .i64 r.count] 73))) := hide ((Mod.refl None_ w).alloc _)
  by_cases h1 : 0 ≤ r.off
  · by_cases h2 : r.off < 512
    · by_cases h3 : 1 ≤ r.count
      · by_cases h4 : r.count ≤ 512 - r.off
        · have d0 : decide (r.off < 0) = false := decide_eq_false (by omega)
          have d2 : decide (512 ≤ r.off) = false := decide_eq_false (by omega)
          have d3 : decide (r.count < 1) = false := decide_eq_false (by omega)
          have d4 : decide (512 - r.off < r.count) = false := decide_eq_false (by omega)
          have e : refRun r = (dataB r.page && decide (r.page ≤ 1024 - r.count)) := by unfold refRun; rw [decide_eq_true h1, decide_eq_true h2, decide_eq_true h3, decide_eq_true h4]; rfl
          rw [e]
          clear e
          go_enter Tryz.func42, Tryz.ntmps42
          go_wp2_with fail
          refine (refData_any _ r.page).mono ?_
          rintro e w2 ⟨rfl, rfl⟩
          cases hd : dataB r.page with
          | true =>
            have HD := hide hd
            clear hd
            go_wp2
            go_ret
            exact ⟨by rw [HD.out]; simp, HM.out⟩
          | false =>
            have HD := hide hd
            clear hd
            go_wp2
            go_ret
            exact ⟨by rw [HD.out]; simp, HM.out⟩
        · have d0 : decide (r.off < 0) = false := decide_eq_false (by omega)
          have d2 : decide (512 ≤ r.off) = false := decide_eq_false (by omega)
          have d3 : decide (r.count < 1) = false := decide_eq_false (by omega)
          have d4 : decide (512 - r.off < r.count) = true := decide_eq_true (by omega)
          have e : refRun r = false := by unfold refRun; rw [decide_eq_false h4]; simp
          rw [e]
          clear e h4
          go_enter Tryz.func42, Tryz.ntmps42
          go_wp2
          go_ret
          exact ⟨rfl, HM.out⟩
      · have d0 : decide (r.off < 0) = false := decide_eq_false (by omega)
        have d2 : decide (512 ≤ r.off) = false := decide_eq_false (by omega)
        have d3 : decide (r.count < 1) = true := decide_eq_true (by omega)
        have e : refRun r = false := by unfold refRun; rw [decide_eq_false h3]; simp
        rw [e]
        clear e h3
        go_enter Tryz.func42, Tryz.ntmps42
        go_wp2
        go_ret
        exact ⟨rfl, HM.out⟩
    · have d0 : decide (r.off < 0) = false := decide_eq_false (by omega)
      have d2 : decide (512 ≤ r.off) = true := decide_eq_true (by omega)
      have e : refRun r = false := by unfold refRun; rw [decide_eq_false h2]; simp
      rw [e]
      clear e h2
      go_enter Tryz.func42, Tryz.ntmps42
      go_wp2
      go_ret
      exact ⟨rfl, HM.out⟩
  · have d0 : decide (r.off < 0) = true := decide_eq_true (by omega)
    have e : refRun r = false := by unfold refRun; rw [decide_eq_false h1]; simp
    rw [e]
    clear e h1
    go_enter Tryz.func42, Tryz.ntmps42
    go_wp2
    go_ret
    exact ⟨rfl, HM.out⟩
end Go.Proofs.YtabebkffcmajkaaGreatDoor

/-! Reference walk: ValidName. -/
namespace Go.Proofs.YtabebkffcmajkaaGreatDoor
open Go.RowKit Go.Maps Go.Shelf
theorem toList_nil (s : ByteArray) : s.toList = [] ↔ s.size = 0 := by
  obtain ⟨⟨l⟩⟩ := s
  rw [show (ByteArray.mk { toList := l }) = ByteArray.mk l.toArray from rfl, ByteArray.toList_mk]
  constructor
  · rintro rfl; rfl
  · intro h
    have h2 : l.length = 0 := by simpa [ByteArray.size] using h
    exact List.length_eq_zero_iff.1 h2
set_option maxRecDepth 100000 in
set_option maxHeartbeats 1000000 in
theorem refValid_any (s : ByteArray) (w : World) :
    Calls Tryz.prog 47 #[.string s] w fun e w' => e = .returned (.bool (goodName s)) ∧ w = w' := by
  by_cases h0 : s.size = 0
  · have hg : goodName s = false := by simp [goodName, h0]
    have hn : s.toList = [] := (toList_nil s).2 h0
    have he : s.toList.isEmpty = true := by rw [hn]; rfl
    have HB := hide hg
    clear hg
    go_enter Tryz.func47, Tryz.ntmps47
    go_wp2
    all_goals
      go_ret
      exact ⟨by rw [HB.out]; rfl, rfl⟩
  · by_cases h1 : 28 < s.size
    · have hg : goodName s = false := by
        unfold goodName
        rw [decide_eq_false (p := s.size ≤ 28) (by omega)]
        simp
      have h1' : (28 : Int) < s.size := by omega
      have HB := hide hg
      clear hg
      go_enter Tryz.func47, Tryz.ntmps47
      go_wp2
      all_goals
        go_ret
        exact ⟨by rw [HB.out]; rfl, rfl⟩
    · have h1' : ¬ (28 : Int) < s.size := by omega
      cases h2 : (s.toList == [46]) with
      | true =>
        have hg : goodName s = false := by simp [goodName, h2]
        have HB := hide hg
        clear hg
        go_enter Tryz.func47, Tryz.ntmps47
        go_wp2
        all_goals
          go_ret
          exact ⟨by rw [HB.out]; rfl, rfl⟩
      | false =>
        cases h3 : (s.toList == [46, 46]) with
        | true =>
          have hg : goodName s = false := by simp [goodName, h3]
          have HB := hide hg
          clear hg
          go_enter Tryz.func47, Tryz.ntmps47
          go_wp2
          all_goals
            go_ret
            exact ⟨by rw [HB.out]; rfl, rfl⟩
        | false =>
          have hg : goodName s = s.data.toList.all okByte := by
            unfold goodName
            rw [h2, h3, decide_eq_true (p := 1 ≤ s.size) (by omega), decide_eq_true (p := s.size ≤ 28) (by omega)]
            simp
          have hs28 : s.size ≤ 28 := by omega
          have HG := hide hg
          clear hg
          go_enter Tryz.func47, Tryz.ntmps47
          have he : s.toList.isEmpty = false := by
            cases hq : s.toList with
            | nil => exact absurd ((toList_nil s).1 hq) h0
            | cons a l => rfl
          have he2 : ¬ s.toList = [] := by intro h; rw [h] at he; cases he
          have hlen : s.data.toList.length = s.size := by simp
          have HL := hide hlen
          clear hlen h0
          go_wp2_with fail
          go_loopw [3] (fun s3 wr => ∃ k : Nat, k ≤ s.size ∧ s3 = .int .i64 k ∧ (s.data.toList.take k).all okByte = true ∧ w = wr) (fun s3 _ => s.size - (intOf s3).toNat)
          case atStart => exact ⟨0, Nat.zero_le _, rfl, rfl, rfl⟩
          obtain ⟨k, hk, rfl, hok, rfl⟩ := hrel
          have HO := hide hok
          clear hok
          by_cases hlt : k < s.size
          · have hki : (k : Int) < s.size := by omega
            have hl : k < s.data.toList.length := by rw [HL.out]; exact hlt
            have hel : s.data.toList[k] = s[k] := by simp; rfl
            have htk : (s.data.toList.take (k + 1)).all okByte = okByte s[k] := by
              rw [List.take_succ_eq_append_getElem hl, List.all_append, HO.out, hel]; simp
            have hbad : okByte s[k] = false → s.data.toList.all okByte = false := fun h => by
              rw [List.all_eq_false]
              exact ⟨s.data.toList[k], List.getElem_mem _, by rw [hel, h]; decide⟩
            by_cases hb0 : s[k].toNat = 0
            · have hb0' : ((s[k].toNat : Int) == 0) = true := by rw [hb0]; rfl
              have hb : okByte s[k] = false := by
                have : s[k] = 0 := UInt8.toNat_inj.1 hb0
                rw [this]; decide
              have HB := hide (hbad hb)
              clear hbad htk hel hb
              go_wp2
              go_ret
              exact ⟨by rw [HG.out, HB.out]; rfl, rfl⟩
            · have hb0' : ((s[k].toNat : Int) == 0) = false := by rw [beq_eq_false_iff_ne]; omega
              by_cases hb1 : s[k].toNat = 47
              · have hb1' : ((s[k].toNat : Int) == 47) = true := by rw [hb1]; rfl
                have hb : okByte s[k] = false := by
                  have : s[k] = 47 := UInt8.toNat_inj.1 hb1
                  rw [this]; decide
                have HB := hide (hbad hb)
                clear hbad htk hel hb
                go_wp2
                go_ret
                exact ⟨by rw [HG.out, HB.out]; rfl, rfl⟩
              · have hb1' : ((s[k].toNat : Int) == 47) = false := by rw [beq_eq_false_iff_ne]; omega
                have hb : okByte s[k] = true := by
                  unfold okByte
                  have h1 : s[k] ≠ 0 := fun h => hb0 (by rw [h]; rfl)
                  have h2 : s[k] ≠ 47 := fun h => hb1 (by rw [h]; rfl)
                  simp [h1, h2]
                have HT := hide (htk.trans hb)
                clear hbad htk hel hb
                go_wp2_with fail
                go_roundw
                case rel => exact ⟨k + 1, by omega, by simp, HT.out, trivial⟩
                case measure => simp [intOf]; omega
          · obtain rfl : k = s.size := by omega
            have hkn : ¬ (s.size : Int) < s.size := by omega
            have hall : s.data.toList.all okByte = true := by
              have := HO.out
              rw [← HL.out, List.take_length] at this
              exact this
            have HA := hide hall
            clear hall hlt
            go_wp2
            go_ret
            exact ⟨by rw [HG.out, HA.out]; rfl, rfl⟩
end Go.Proofs.YtabebkffcmajkaaGreatDoor

/-! Reference walk: table. -/
namespace Go.Proofs.YtabebkffcmajkaaGreatDoor
open Go.RowKit Go.Maps Go.Shelf
theorem Mod.setCells {S : Nat → Prop} {w : World} {b : Nat} : ∀ (vs : List Value) (o : Nat) (w' : World), Mod S w w' → (w.heap.size ≤ b ∨ S b) → Mod S w (w'.setCells b o vs)
  | [], _, _, h, _ => h
  | v :: r, o, _, h, hb => Mod.setCells r (o + 1) _ (h.setCell (p := ⟨b, o, Option.none⟩) hb v) hb
def tabCells (f : Nat → Int) : Array Value := Array.ofFn (n := 512) fun i => .int .i64 (f i)
theorem tabCells_get (f : Nat → Int) {i : Nat} (h : i < 512) : (tabCells f)[i]? = some (.int .i64 (f i)) := by simp [tabCells, h]
theorem tabCells_set (f : Nat → Int) {i : Nat} (h : i < 512) (v : Int) : (tabCells f).setIfInBounds i (.int .i64 v) = tabCells (setAt f i v) := by
  apply Array.ext
  · simp [tabCells]
  · intro j h1 h2
    simp only [tabCells, Array.getElem_ofFn, setAt]
    by_cases e : i = j
    · subst e; simp
    · have e2 : ¬ j = i := fun h => e h.symm
      rw [Array.getElem_setIfInBounds_ne (by simpa [tabCells] using h2) e]
      simp [e2]
theorem zeroTab : Tryz.zeroCells103 = tabCells (fun _ => 0) := by kernel_rfl
set_option maxRecDepth 100000 in
set_option maxHeartbeats 600000 in
theorem refTable_any (w : World) (v : Value) (l : List RunD) (h : RunsAt w v l) (hall : ∀ r ∈ l, refRun r = true) : Calls Tryz.prog 44 #[v] w fun e w' => e = .returned (.agg (tabCells (tableOf l))) ∧ Mod None_ w w' := by
  obtain ⟨A, c, rfl, hc1, hc2, hml, _, _⟩ := id h
  have hlm : ∀ w, (Builtin.len_ #[30] 3 #[.slice A l.length c]).run Tryz.prog w = .ok (.int .i64 l.length) w := fun w => by simp [Builtin.len_, run_underlying Tryz.underlying30]; rfl
  have HH := hide h
  have HA := hide hall
  clear h hall
  go_enter Tryz.func44, Tryz.ntmps44
  obtain ⟨m, hm⟩ : ∃ m, m = w.heap.size := ⟨_, rfl⟩
  obtain ⟨w1, hw1⟩ : ∃ w1, w1 = (w.alloc (.cells Tryz.zeroCells103 103)).alloc (.cells Tryz.zeroCells103 103) := ⟨_, rfl⟩
  have hM : Mod None_ w w1 := by rw [hw1]; exact ((Mod.refl _ w).alloc _).alloc _
  have b2 : Blk w1 m 103 (tabCells (fun _ => 0)) := by rw [hw1, hm, ← zeroTab]; exact (Blk.new w 103 _).alloc _
  have b3 : Blk w1 (m + 1) 103 (tabCells (fun _ => 0)) := by
    have := Blk.new (w.alloc (.cells Tryz.zeroCells103 103)) 103 Tryz.zeroCells103
    rw [← hw1, alloc_size, ← hm, zeroTab] at this
    exact this
  have hgem : w.heap.size ≤ m := by omega
  have HW := hide hw1
  have HM := hide hm
  clear hw1 hm
  go_wp2_with fail
  rw [← HW.out, ← HM.out]
  clear HW HM
  go_loopw [4] (fun s4 wr => ∃ k : Nat, k ≤ l.length ∧ s4 = .int .i64 k ∧ Mod None_ w wr ∧ Blk wr m 103 (tabCells (fun _ => 0)) ∧ Blk wr (m + 1) 103 (tabCells (tableOf (l.take k)))) (fun s4 _ => l.length - (intOf s4).toNat)
  case atStart => exact ⟨0, Nat.zero_le _, rfl, hM, b2, b3⟩
  clear hM b2 b3
  obtain ⟨k, hk, rfl, hM, b2, b3⟩ := hrel
  by_cases hlt : k < l.length
  · have hki : (k : Int) < l.length := by omega
    obtain ⟨_, _, hcv, _, _, hcell⟩ := (HH.out.kept hM).list
    simp only [Value.slice.injEq, true_and] at hcv
    obtain ⟨rfl, rfl⟩ := hcv
    obtain ⟨g, o, rfl, hg, hcell⟩ := hcell (by omega)
    have x0 : wr.cell? ⟨g, o + k * 3, none⟩ = some (.int .i64 l[k].off) := hcell k hlt 0 _ rfl
    have x1 : wr.cell? ⟨g, o + k * 3 + 1, none⟩ = some (.int .i64 l[k].page) := hcell k hlt 1 _ rfl
    have x2 : wr.cell? ⟨g, o + k * 3 + 2, none⟩ = some (.int .i64 l[k].count) := hcell k hlt 2 _ rfl
    have hrr := HA.out _ (List.getElem_mem hlt)
    have htk : tableOf (l.take (k + 1)) = setN (tableOf (l.take k)) l[k].off.toNat l[k].page l[k].count.toNat := by rw [List.take_succ_eq_append_getElem hlt, tableOf_snoc]
    have hgm : g < m := by
      rcases HH.out.list with ⟨_, _, hcv2, _, _, hc2'⟩
      simp only [Value.slice.injEq, true_and] at hcv2
      obtain ⟨g2, o2, e2, hg2, _⟩ := hc2' (by omega)
      rw [← hcv2.1] at e2
      simp only [Option.some.injEq, Addr.mk.injEq] at e2
      omega
    obtain ⟨x, hx⟩ : ∃ x, x = l[k] := ⟨_, rfl⟩
    rw [← hx] at x0 x1 x2 hrr htk
    simp only [refRun, dataB, Bool.and_eq_true, decide_eq_true_eq] at hrr
    obtain ⟨⟨⟨⟨⟨r1, r2⟩, r3⟩, r4⟩, r5, r6⟩, r7⟩ := hrr
    have HTK := hide htk
    clear hcell hx htk
    go_wp2_with fail
    go_loopw [5] (fun s5 wv => ∃ i : Nat, i ≤ x.count.toNat ∧ s5 = .int .i64 i ∧ Mod None_ w wv ∧ Mod (· = m + 1) wr wv ∧ Blk wv m 103 (tabCells (fun _ => 0)) ∧ Blk wv (m + 1) 103 (tabCells (setN (tableOf (l.take k)) x.off.toNat x.page i))) (fun s5 _ => x.count.toNat - (intOf s5).toNat)
    case atStart => exact ⟨0, Nat.zero_le _, rfl, hM, Mod.refl _ _, b2, b3⟩
    clear hM b2 b3
    obtain ⟨i, hi, rfl, hM, hmo, b2, b3⟩ := hrel
    have y0 := (World.cell?_of_block (hmo.block g hg (by omega))).trans x0
    have y1 := (World.cell?_of_block (hmo.block g hg (by omega))).trans x1
    have y2 := (World.cell?_of_block (hmo.block g hg (by omega))).trans x2
    by_cases hil : i < x.count.toNat
    · have hic : (i : Int) < x.count := by omega
      have e1 : x.off + (i : Int) = ((x.off.toNat + i : Nat) : Int) := by omega
      have hb : x.off.toNat + i < 512 := by omega
      have w1' : wrap64 (x.page + i) = x.page + i := by unfold wrap64; omega
      have fz : wr.frozen? ⟨m + 1, x.off.toNat + i, none⟩ = false := b3.frozen _
      have cz : wr.cell? ⟨m + 1, x.off.toNat + i, none⟩ = some (.int .i64 (setN (tableOf (l.take k)) x.off.toNat x.page i (x.off.toNat + i))) := by rw [b3.cell, tabCells_get _ hb]
      have W1 := hide w1'
      clear w1' x0 x1 x2
      go_wp2_with fail
      refine region_stw_tail 14 (by kernel_rfl) (by kernel_rfl) ?_
      rintro w4 hw4
      have hm4 : Mod None_ wr w4 := by rw [hw4]; exact (Mod.refl _ wr).drew
      replace y0 := (World.cell?_of_block (hm4.block g (Nat.lt_of_lt_of_le hg hmo.size) id)).trans y0
      replace y1 := (World.cell?_of_block (hm4.block g (Nat.lt_of_lt_of_le hg hmo.size) id)).trans y1
      replace b2 := b2.mod hm4 id
      replace b3 := b3.mod hm4 id
      replace hM := hM.trans hm4
      replace hmo := hmo.trans hm4.none
      clear hw4 hm4 y2 fz cz
      obtain ⟨q, hq⟩ : ∃ q, q = x.off.toNat + i := ⟨_, rfl⟩
      rw [← hq] at hb e1
      obtain ⟨z, hz⟩ : ∃ z, (tabCells (setN (tableOf (l.take k)) x.off.toNat x.page i))[q]? = some z := ⟨_, tabCells_get _ hb⟩
      have fz : w4.frozen? ⟨m + 1, q, none⟩ = false := b3.frozen _
      have cz : w4.cell? ⟨m + 1, q, none⟩ = some z := by rw [b3.cell]; exact hz
      have e3 : IntKind.i64.wrap (x.off + (i : Int)) = (q : Int) := by rw [e1]; exact IntWalk.i64_in _ (by omega)
      have hb2 : (q : Int) < 512 := by omega
      have HQ := hide hq
      clear hq hz
      have e4 : IntKind.i64.wrap (x.page + (i : Int)) = x.page + i := IntWalk.i64_in _ (by omega)
      clear e1
      repeat (refine stw_step (fun K hK => ?_); go_simp; refine hK _ ?_; clear hK K)
      refine stw_nil ?_
      go_wp2_with fail
      have b4 : Blk (w4.setCell ⟨m + 1, q, none⟩ (.int .i64 (x.page + i))) (m + 1) 103 (tabCells (setN (tableOf (l.take k)) x.off.toNat x.page (i + 1))) := by
        have := b3.set_ q (.int .i64 (x.page + i))
        rw [tabCells_set _ hb, ← W1.out, HQ.out] at this
        rw [← W1.out, HQ.out]
        exact this
      go_roundw
      case rel => exact ⟨i + 1, by omega, by simp, hM.setCell (p := ⟨m + 1, q, none⟩) (.inl (by show w.heap.size ≤ m + 1; omega)) _, hmo.setCell (p := ⟨m + 1, q, none⟩) (.inr rfl) _, b2.mod ((Mod.refl (· = m + 1) w4).setCell (p := ⟨m + 1, q, none⟩) (.inr rfl) _) (by omega), b4⟩
      case measure => simp [intOf]; omega
    · have hic : ¬ (i : Int) < x.count := by omega
      obtain rfl : i = x.count.toNat := by omega
      clear x0 x1 x2 hil
      go_wp2_with fail
      go_roundw
      case rel => exact ⟨k + 1, by omega, by simp, hM, b2, by rw [HTK.out]; exact b3⟩
      case measure => simp [intOf]; omega
  · obtain rfl : k = l.length := by omega
    have hkn : ¬ (l.length : Int) < l.length := by omega
    rw [List.take_length] at b3
    obtain ⟨T, hT, hTs⟩ : ∃ T : Array Value, T = tabCells (tableOf l) ∧ T.size = 512 := ⟨_, rfl, by rw [tabCells, Array.size_ofFn]⟩
    have ht2 : wr.there m 0 T.toList.toArray.size := fun j hj => by
      have hj2 : j < 512 := by rw [← hTs]; simpa using hj
      exact ⟨by rw [Nat.zero_add, b2.cell, tabCells_get _ hj2]; rfl, b2.frozen _⟩
    have ho : T.toList.toArray.all (·.oneCell') = true := by
      rw [Array.toArray_toList, Array.all_eq_true]
      intro i hi
      have hi2 : i < 512 := by rw [← hTs]; exact hi
      have e : T[i]? = some (.int .i64 (tableOf l i)) := by rw [hT]; exact tabCells_get _ hi2
      have e3 : T[i] = .int .i64 (tableOf l i) := by
        have := Array.getElem?_eq_getElem hi
        rw [e] at this
        exact (Option.some.inj this).symm
      rw [e3]; rfl
    rw [← hT] at b3
    have hr3 : wr.rangeAt (m + 1) 0 T.toList := fun j v hj => by rw [Nat.zero_add, b3.cell]; simpa using hj
    have hi5 : (Tryz.prog.info? 103).map (·.size) = some 512 := by kernel_rfl
    have hi6 : (Tryz.prog.info? 103).map (·.size) = some T.toList.length := by rw [hi5, Array.length_toList, hTs]
    have hi7 : (Tryz.prog.info? 103).map (·.size) = some T.toList.toArray.size := by rw [hi5, Array.toArray_toList, hTs]
    have H1 := hide hr3
    have H2 := hide ht2
    have H3 := hide ho
    have H6 := hide hi6
    have H7 := hide hi7
    have HT := hide hT
    have HB3 := hide b3
    clear hr3 ht2 ho hi5 hi6 hi7 hlt hT b3
    go_wp2_with ((with_reducible refine at_slot 36 ?_); refine wpList_load_mid rfl 103 (.tmp 3) rfl (m + 1) 0 rfl T.toList _ H1.out Tryz.underlying103 rfl H6.out ?_; refine wpList_store_mid rfl 103 (.tmp 2) (.tmp 36) rfl m 0 T.toList.toArray rfl rfl H2.out H7.out H3.out ?_; go_frame)
    have hrz : (wr.setCells m 0 T.toList).rangeAt m 0 T.toList := World.rangeAt_setCells_same wr m 0 _ (by have := H2.out; simpa using this)
    have hl := run_loadVar_mid (P := Tryz.prog) (wr.setCells m 0 T.toList) m 0 103 T.toList _ hrz Tryz.underlying103 rfl H6.out
    refine ⟨rfl, .agg T.toList.toArray, ?_, by rw [Array.toArray_toList, HT.out], Mod.setCells _ _ _ hM (.inl hgem)⟩
    simp [results, Tryz.results44, asAddr, hl]
end Go.Proofs.YtabebkffcmajkaaGreatDoor

/-! Plain law: what the reference asks of a file, and its runs, are the code's. No memory in it. -/
namespace Go.Proofs.YtabebkffcmajkaaGreatDoor
open Go.RowKit Go.Maps Go.Shelf

theorem refRun_iff (r : RunD) : refRun r = true ↔ (0 ≤ r.off ∧ r.off < 512 ∧ 1 ≤ r.count ∧ r.count ≤ 512 - r.off ∧ 5 ≤ r.page ∧ r.page < 1024 ∧ r.page ≤ 1024 - r.count) := by
  simp only [refRun, dataB, Bool.and_eq_true, decide_eq_true_eq]
  constructor
  · rintro ⟨⟨⟨⟨⟨a, b⟩, c⟩, d⟩, e, f⟩, g⟩; exact ⟨a, b, c, d, e, f, g⟩
  · rintro ⟨a, b, c, d, e, f, g⟩; exact ⟨⟨⟨⟨⟨a, b⟩, c⟩, d⟩, e, f⟩, g⟩
theorem okPage_iff (r : RunD) : (okRun r = true ∧ pageOk r = true) ↔ refRun r = true := by
  rw [refRun_iff]
  simp only [okRun, pageOk, Bool.and_eq_true, decide_eq_true_eq, Bool.not_eq_true', Bool.or_eq_false_iff, decide_eq_false_iff_not]
  constructor
  · rintro ⟨⟨⟨⟨a, b⟩, c, d⟩, e⟩, f, g⟩; refine ⟨?_, ?_, ?_, ?_, ?_, ?_, ?_⟩ <;> omega
  · rintro ⟨a, b, c, d, e, f, g⟩; refine ⟨⟨⟨⟨?_, ?_⟩, ?_, ?_⟩, ?_⟩, ?_, ?_⟩ <;> omega

/-! ### tables -/
def InR (f : Nat → Int) : Prop := ∀ x, f x = 0 ∨ (1 ≤ f x ∧ f x ≤ 100000)
theorem wrap_small {n : Int} (h0 : -1000000000 ≤ n) (h1 : n ≤ 1000000000) : wrap64 n = n := by unfold wrap64; omega
theorem setN_at (f : Nat → Int) (o : Nat) (p : Int) (x : Nat) (hp : 0 ≤ p) : ∀ n : Nat, p + n ≤ 1000000 → setN f o p n x = if o ≤ x ∧ x < o + n then p + ((x - o : Nat) : Int) else f x
  | 0, _ => by
    rw [if_neg (by omega)]; rfl
  | n + 1, hn => by
    have ih := setN_at f o p x hp n (by omega)
    show setAt (setN f o p n) (o + n) (wrap64 (p + n)) x = _
    rw [wrap_small (by omega) (by omega)]
    by_cases e : x = o + n
    · subst e
      rw [setAt_same, if_pos (by omega)]
      congr 2; omega
    · rw [setAt_ne _ _ e, ih]
      by_cases h : o ≤ x ∧ x < o + n
      · rw [if_pos h, if_pos (by omega)]
      · rw [if_neg h, if_neg (by omega)]
def setRun (f : Nat → Int) (r : RunD) : Nat → Int := setN f r.off.toNat r.page r.count.toNat
theorem setRun_at (f : Nat → Int) {r : RunD} (h : refRun r = true) (x : Nat) : setRun f r x = if r.off ≤ x ∧ (x : Int) < r.off + r.count then r.page + (x - r.off) else f x := by
  rw [refRun_iff] at h
  obtain ⟨h1, h2, h3, h4, h5, h6, h7⟩ := h
  unfold setRun
  rw [setN_at f _ _ x (by omega) _ (by omega)]
  by_cases h : r.off ≤ x ∧ (x : Int) < r.off + r.count
  · rw [if_pos h, if_pos (by omega)]
    congr 1; omega
  · rw [if_neg h, if_neg (by omega)]
theorem fold_in : ∀ (l : List RunD) (f : Nat → Int), (∀ r ∈ l, refRun r = true) → InR f → InR (l.foldl setRun f)
  | [], _, _, h => h
  | r :: l, f, hl, h => fold_in l _ (fun x hx => hl x (by simp [hx])) fun x => by
    have hr := hl r (by simp)
    rw [setRun_at f hr]
    rw [refRun_iff] at hr
    split
    · right; omega
    · exact h x
theorem fold_keep (x : Nat) : ∀ (l : List RunD) (f : Nat → Int), (∀ r ∈ l, refRun r = true) → f x ≠ 0 → l.foldl setRun f x ≠ 0
  | [], _, _, h => h
  | r :: l, f, hl, h => fold_keep x l _ (fun x hx => hl x (by simp [hx])) (by
    have hr := hl r (by simp)
    rw [setRun_at f hr]
    rw [refRun_iff] at hr
    split
    · omega
    · exact h)
theorem fold_nz (x : Nat) (r : RunD) (hx : r.off ≤ x ∧ (x : Int) < r.off + r.count) : ∀ (l : List RunD) (f : Nat → Int), (∀ r ∈ l, refRun r = true) → r ∈ l → l.foldl setRun f x ≠ 0
  | y :: l, f, hl, hr => by
    rcases List.mem_cons.1 hr with rfl | hr
    · refine fold_keep x l _ (fun z hz => hl z (by simp [hz])) ?_
      have hq := hl r (by simp)
      rw [setRun_at f hq, if_pos hx]
      rw [refRun_iff] at hq
      omega
    · exact fold_nz x r hx l _ (fun z hz => hl z (by simp [hz])) hr
theorem fold_zero (x : Nat) : ∀ (l : List RunD) (f : Nat → Int), (∀ r ∈ l, refRun r = true) → (∀ r ∈ l, r.off + r.count ≤ x) → f x = 0 → l.foldl setRun f x = 0
  | [], _, _, _, h => h
  | r :: l, f, hl, hz, h => fold_zero x l _ (fun z hz => hl z (by simp [hz])) (fun z hz' => hz z (by simp [hz'])) (by
    rw [setRun_at f (hl r (by simp)), if_neg (by have := hz r (by simp); omega)]; exact h)
theorem table_in {l : List RunD} (h : ∀ r ∈ l, refRun r = true) : InR (tableOf l) := fold_in l _ h fun _ => .inl rfl
theorem table_nz {l : List RunD} (h : ∀ r ∈ l, refRun r = true) {r : RunD} (hr : r ∈ l) {x : Nat} (hx : r.off ≤ x ∧ (x : Int) < r.off + r.count) : tableOf l x ≠ 0 := fold_nz x r hx l _ h hr
theorem table_zero {l : List RunD} (h : ∀ r ∈ l, refRun r = true) {x : Nat} (hx : ∀ r ∈ l, r.off + r.count ≤ x) : tableOf l x = 0 := fold_zero x l _ h hx rfl
theorem items_nil {f : Nat → Int} {N : Nat} {off : Int} (h : itemsOf f 0 N off = []) {x : Nat} (hx : x < N) (ho : off ≤ x) : f x = 0 := by
  unfold itemsOf at h
  rw [List.map_eq_nil_iff, List.filter_eq_nil_iff] at h
  have := h x (List.mem_range.2 hx)
  simp only [decide_eq_true_eq] at this
  rcases Decidable.em (f x = 0) with e | e
  · exact e
  · exact absurd ⟨e, by omega⟩ this

/-! ### the reference's good file -/
def endOf (z : Int) : Int := (z + 511) / 512
def refEnd (z : Int) (r : RunD) : Bool := refRun r && decide (r.off + r.count ≤ endOf z)
def runsT (f : Nat → Int) : List RunD := runsOf (itemsOf f 0 512 0)
def refFile (n : NodeD) : Bool := decide (0 ≤ n.size ∧ n.size ≤ 262144) && decide (n.names.length = 0) && n.map.all (refEnd n.size) && decide (n.map = runsT (tableOf n.map))
theorem refFile_eq (n : NodeD) : refFile n = fileGood n := by
  rw [Bool.eq_iff_iff]
  unfold refFile fileGood runsT
  simp only [Bool.and_eq_true, decide_eq_true_eq, List.all_eq_true]
  constructor
  · rintro ⟨⟨⟨hz, hn⟩, ha⟩, hr⟩
    have hq : ∀ r ∈ n.map, refRun r = true ∧ r.off + r.count ≤ endOf n.size := fun r hm => by
      have := ha r hm
      simpa only [refEnd, Bool.and_eq_true, decide_eq_true_eq] using this
    refine ⟨⟨⟨⟨⟨hz, hn⟩, fun r hm => ((okPage_iff r).2 (hq r hm).1).1⟩, hr.symm⟩, fun r hm => ((okPage_iff r).2 (hq r hm).1).2⟩, ?_⟩
    refine itemsOf_none fun x _ => ?_
    by_cases hx : (x : Int) < (n.size + 511) / 512
    · right; omega
    · left
      refine table_zero (fun r hm => (hq r hm).1) fun r hm => ?_
      have := (hq r hm).2
      unfold endOf at this
      omega
  · rintro ⟨⟨⟨⟨⟨hz, hn⟩, h1⟩, h2⟩, h3⟩, h4⟩
    have hq : ∀ r ∈ n.map, refRun r = true := fun r hm => (okPage_iff r).1 ⟨h1 r hm, h3 r hm⟩
    refine ⟨⟨⟨hz, hn⟩, fun r hm => ?_⟩, h2.symm⟩
    simp only [refEnd, Bool.and_eq_true, decide_eq_true_eq]
    refine ⟨hq r hm, ?_⟩
    have hr := (refRun_iff r).1 (hq r hm)
    rcases Int.lt_or_le (endOf n.size) (r.off + r.count) with hlt | hle
    · exfalso
      have hnz := table_nz hq hm (x := (r.off + r.count - 1).toNat) ⟨by omega, by omega⟩
      exact hnz (items_nil h4 (by omega) (by unfold endOf at hlt; omega))
    · exact hle

/-! ### the runs of a table, one page more at a time -/
def itemsTo (f : Nat → Int) (k : Nat) : List (Int × Int) := itemsOf f 0 k 0
def runsTo (f : Nat → Int) (k : Nat) : List RunD := runsOf (itemsTo f k)
theorem itemsTo_zero {f : Nat → Int} {k : Nat} (h : f k = 0) : itemsTo f (k + 1) = itemsTo f k := by
  unfold itemsTo
  rw [itemsOf_add, itemsOf_none (N := 1) (fun x hx => .inl (by rw [show x = 0 by omega]; exact h)), List.append_nil]
theorem itemsTo_some {f : Nat → Int} {k : Nat} (h : f k ≠ 0) : itemsTo f (k + 1) = itemsTo f k ++ [((k : Int), f k)] := by
  unfold itemsTo
  rw [itemsOf_add, itemsOf_one h (by omega)]
  simp
structure RunsCl (f : Nat → Int) (k : Nat) (L : List RunD) : Prop where
  eq : runsTo f k = L
  last : ∀ r, L.getLast? = some r → 0 ≤ r.off ∧ 0 ≤ r.page ∧ r.page ≤ 100000 ∧ 1 ≤ r.count ∧ r.off + r.count ≤ k ∧ (k < 512 → ¬ (r.off + r.count = k ∧ r.page + r.count = f k))
  len : L.length ≤ k
theorem RunsCl.start (f : Nat → Int) : RunsCl f 0 [] := ⟨rfl, (fun r h => by simp at h), Nat.zero_le _⟩
theorem RunsCl.zero {f : Nat → Int} {k : Nat} {L : List RunD} (h : RunsCl f k L) (h0 : f k = 0) : RunsCl f (k + 1) L :=
  ⟨by unfold runsTo; rw [itemsTo_zero h0]; exact h.eq, fun r hr => by
    obtain ⟨a, b, c, d, e, _⟩ := h.last r hr
    exact ⟨a, b, c, d, by omega, fun _ g => by have := g.1; omega⟩, by have := h.len; omega⟩
theorem RunsCl.one {f : Nat → Int} {k : Nat} {L : List RunD} (h : RunsCl f k L) (hin : InR f) (hk : k < 512) (h0 : f k ≠ 0) : runsTo f (k + 1) = L ++ [⟨k, f k, 1⟩] := by
  unfold runsTo
  rw [itemsTo_some h0, runsOf_snoc]
  have e : runsOf (itemsTo f k) = L := h.eq
  rw [e]
  rcases List.eq_nil_or_concat L with rfl | ⟨L', r, rfl⟩
  · exact addRun_nil _
  · rw [List.concat_eq_append] at h ⊢
    have hl := h.last r (by simp)
    rw [addRun_no]
    rintro ⟨g1, g2⟩
    have hi := hin k
    have hlen := h.len
    rw [wrap_small (by omega) (by omega)] at g1 g2
    exact hl.2.2.2.2.2 hk ⟨g1, g2⟩
theorem run_more {f : Nat → Int} {k n : Nat} {L : List RunD} (h : runsTo f (k + n) = L ++ [⟨k, f k, n⟩]) (hin : InR f) (h0 : f k ≠ 0) (hk : k + n < 512) (hf : f (k + n) = f k + n) : runsTo f (k + (n + 1)) = L ++ [⟨k, f k, ((n + 1 : Nat) : Int)⟩] := by
  have hi := hin k
  unfold runsTo at h ⊢
  rw [show k + (n + 1) = k + n + 1 by omega, itemsTo_some (by omega), runsOf_snoc, h, addRun_yes]
  · rw [wrap_small (by show -1000000000 ≤ (n : Int) + 1; omega) (by show (n : Int) + 1 ≤ 1000000000; omega)]
    push_cast; rfl
  · show wrap64 ((k : Int) + n) = ((k + n : Nat) : Int)
    rw [wrap_small (by omega) (by omega)]; push_cast; rfl
  · show wrap64 (f k + n) = f (k + n)
    rw [wrap_small (by omega) (by omega), hf]
theorem run_end {f : Nat → Int} {k n : Nat} {L : List RunD} (hc : RunsCl f k L) (hin : InR f) (h : runsTo f (k + n) = L ++ [⟨k, f k, n⟩]) (h0 : f k ≠ 0) (hn : 1 ≤ n) (he : k + n < 512 → f (k + n) ≠ f k + n) : RunsCl f (k + n) (L ++ [⟨k, f k, n⟩]) := by
  refine ⟨h, fun r hr => ?_, ?_⟩
  · obtain rfl : (⟨k, f k, n⟩ : RunD) = r := by simpa using hr
    have hi := hin k
    refine ⟨by show (0 : Int) ≤ k; omega, by show 0 ≤ f k; omega, by show f k ≤ 100000; omega, by show (1 : Int) ≤ n; omega, by show (k : Int) + n ≤ ((k + n : Nat) : Int); omega, fun hk g => ?_⟩
    exact he hk g.2.symm
  · have := hc.len
    simp only [List.length_append, List.length_singleton]; omega
theorem RunsCl.done {f : Nat → Int} {L : List RunD} (h : RunsCl f 512 L) : runsT f = L := h.eq

/-! ### the pages of runs -/
def runItems (r : RunD) : List (Int × Int) := (List.range r.count.toNat).map fun i : Nat => (r.off + (i : Int), r.page + (i : Int))
theorem runItems_one (o p : Int) : runItems ⟨o, p, 1⟩ = [(o, p)] := by
  show (List.range 1).map _ = _
  simp [List.range_succ]
theorem runItems_more {o p c : Int} (hc : 0 ≤ c) : runItems ⟨o, p, c + 1⟩ = runItems ⟨o, p, c⟩ ++ [(o + c, p + c)] := by
  unfold runItems
  have e : (c + 1).toNat = c.toNat + 1 := by omega
  show (List.range (c + 1).toNat).map _ = (List.range c.toNat).map _ ++ _
  rw [e, List.range_succ, List.map_append]
  simp only [List.map_cons, List.map_nil]
  rw [Int.toNat_of_nonneg hc]
/-- runs that no sum over overflows -/
def Mild (L : List RunD) : Prop := ∀ r ∈ L, 0 ≤ r.off ∧ r.off ≤ 100000 ∧ 0 ≤ r.page ∧ r.page ≤ 100000 ∧ 0 ≤ r.count ∧ r.count ≤ 100000
theorem add_items {L : List RunD} {x : Int × Int} (h : Mild L) : (addRun L x).flatMap runItems = L.flatMap runItems ++ [x] := by
  rcases List.eq_nil_or_concat L with rfl | ⟨L', r, rfl⟩
  · rw [addRun_nil]
    simp only [List.flatMap_cons, List.flatMap_nil, List.append_nil, List.nil_append]
    rw [runItems_one]
  · rw [List.concat_eq_append] at h ⊢
    have hm := h r (by simp)
    by_cases hc : wrap64 (r.off + r.count) = x.1 ∧ wrap64 (r.page + r.count) = x.2
    · rw [addRun_yes hc.1 hc.2]
      obtain ⟨h1, h2⟩ := hc
      rw [wrap_small (by omega) (by omega)] at h1 h2
      rw [wrap_small (by omega) (by omega), List.flatMap_append, List.flatMap_append, List.append_assoc]
      congr 1
      simp only [List.flatMap_cons, List.flatMap_nil, List.append_nil]
      rw [runItems_more hm.2.2.2.2.1, h1, h2]
    · rw [addRun_no hc, List.flatMap_append]
      congr 1
      simp only [List.flatMap_cons, List.flatMap_nil, List.append_nil]
      rw [runItems_one]
theorem add_mild {L : List RunD} {x : Int × Int} {k : Int} (h : ∀ r ∈ L, 0 ≤ r.off ∧ r.off ≤ 100000 ∧ 0 ≤ r.page ∧ r.page ≤ 100000 ∧ 0 ≤ r.count ∧ r.count ≤ k) (hk : 0 ≤ k ∧ k ≤ 10000) (hx : 0 ≤ x.1 ∧ x.1 ≤ 100000 ∧ 0 ≤ x.2 ∧ x.2 ≤ 100000) :
    ∀ r ∈ addRun L x, 0 ≤ r.off ∧ r.off ≤ 100000 ∧ 0 ≤ r.page ∧ r.page ≤ 100000 ∧ 0 ≤ r.count ∧ r.count ≤ k + 1 := by
  have hnew : ∀ r ∈ [(⟨x.1, x.2, 1⟩ : RunD)], 0 ≤ r.off ∧ r.off ≤ 100000 ∧ 0 ≤ r.page ∧ r.page ≤ 100000 ∧ 0 ≤ r.count ∧ r.count ≤ k + 1 := by
    intro r hr
    obtain rfl := List.mem_singleton.1 hr
    exact ⟨hx.1, hx.2.1, hx.2.2.1, hx.2.2.2, by show (0 : Int) ≤ 1; omega, by show (1 : Int) ≤ k + 1; omega⟩
  have hold : ∀ r ∈ L, 0 ≤ r.off ∧ r.off ≤ 100000 ∧ 0 ≤ r.page ∧ r.page ≤ 100000 ∧ 0 ≤ r.count ∧ r.count ≤ k + 1 := fun r hr => by have := h r hr; omega
  rcases List.eq_nil_or_concat L with rfl | ⟨L', r, rfl⟩
  · rw [addRun_nil]; exact hnew
  · rw [List.concat_eq_append] at h hold ⊢
    by_cases hc : wrap64 (r.off + r.count) = x.1 ∧ wrap64 (r.page + r.count) = x.2
    · rw [addRun_yes hc.1 hc.2]
      intro y hy
      rcases List.mem_append.1 hy with hy | hy
      · exact hold y (by simp [hy])
      · obtain rfl := List.mem_singleton.1 hy
        have hm := h r (by simp)
        show 0 ≤ r.off ∧ r.off ≤ 100000 ∧ 0 ≤ r.page ∧ r.page ≤ 100000 ∧ 0 ≤ wrap64 (r.count + 1) ∧ wrap64 (r.count + 1) ≤ k + 1
        rw [wrap_small (by omega) (by omega)]
        omega
    · rw [addRun_no hc]
      intro y hy
      rcases List.mem_append.1 hy with hy | hy
      · exact hold y hy
      · exact hnew y hy
theorem items_in {f : Nat → Int} (hin : InR f) {k : Nat} (hk : k ≤ 100000) {x : Int × Int} (hx : x ∈ itemsTo f k) : 0 ≤ x.1 ∧ x.1 ≤ 100000 ∧ 0 ≤ x.2 ∧ x.2 ≤ 100000 := by
  unfold itemsTo itemsOf at hx
  obtain ⟨y, hy, rfl⟩ := List.mem_map.1 hx
  have hy2 := List.mem_range.1 (List.mem_filter.1 hy).1
  have := hin y
  show 0 ≤ 0 + (y : Int) ∧ 0 + (y : Int) ≤ 100000 ∧ 0 ≤ f y ∧ f y ≤ 100000
  omega
theorem runs_items {f : Nat → Int} (hin : InR f) : ∀ k : Nat, k ≤ 512 → (runsTo f k).flatMap runItems = itemsTo f k ∧ ∀ r ∈ runsTo f k, 0 ≤ r.off ∧ r.off ≤ 100000 ∧ 0 ≤ r.page ∧ r.page ≤ 100000 ∧ 0 ≤ r.count ∧ r.count ≤ k
  | 0, _ => ⟨rfl, fun r hr => by cases hr⟩
  | k + 1, hk => by
    obtain ⟨h1, h2⟩ := runs_items hin k (by omega)
    by_cases h0 : f k = 0
    · unfold runsTo at *
      rw [itemsTo_zero h0]
      exact ⟨h1, fun r hr => by have := h2 r hr; omega⟩
    · have hx : ((k : Int), f k) ∈ itemsTo f (k + 1) := by rw [itemsTo_some h0]; simp
      have hxi := items_in hin (by omega) hx
      unfold runsTo at *
      rw [itemsTo_some h0, runsOf_snoc]
      refine ⟨?_, ?_⟩
      · rw [add_items (fun r hr => by have := h2 r hr; omega), h1]
      · have := add_mild h2 (by omega) hxi
        push_cast
        exact this
theorem pages_runs {l : List RunD} (hq : ∀ r ∈ l, refRun r = true) (h : l = runsT (tableOf l)) : (itemsOf (tableOf l) 0 512 0).map Prod.snd = l.flatMap (fun r => (runItems r).map Prod.snd) := by
  have := (runs_items (table_in hq) 512 (Nat.le_refl _)).1
  have e : runsTo (tableOf l) 512 = l := h.symm
  rw [e] at this
  have e2 : itemsOf (tableOf l) 0 512 0 = l.flatMap runItems := this.symm
  rw [e2, List.map_flatMap]
end Go.Proofs.YtabebkffcmajkaaGreatDoor

/-! Plain law: what the reference asks of a directory is what the code asks. No memory in it. -/
namespace Go.Proofs.YtabebkffcmajkaaGreatDoor
open Go.RowKit Go.Maps Go.Shelf

def goodDent (x : ByteArray × Int) : Bool := goodName x.1 && decide (2 ≤ x.2 ∧ x.2 ≤ 256)
def Rises (l : List (ByteArray × Int)) : Prop := l.Pairwise fun a b => strLt a.1 b.1 = true
instance (l : List (ByteArray × Int)) : Decidable (Rises l) := inferInstanceAs (Decidable (List.Pairwise _ l))
theorem rises_snoc {l : List (ByteArray × Int)} {k : Nat} (h : Rises (l.take k)) (hk : k < l.length) (hs : ∀ h0 : 0 < k, strLt (l[k - 1]'(by omega)).1 l[k].1 = true) : Rises (l.take (k + 1)) := by
  unfold Rises at *
  rw [List.take_succ_eq_append_getElem hk, List.pairwise_append]
  refine ⟨h, by simp, ?_⟩
  intro a ha b hb
  obtain rfl := List.mem_singleton.1 hb
  obtain ⟨j, hj, rfl⟩ := List.getElem_of_mem ha
  have hj2 : j < k := by have := hj; simp only [List.length_take] at this; omega
  have hjl : j < l.length := by omega
  have ej : (l.take k)[j] = l[j] := by simp
  rw [ej]
  by_cases e : j = k - 1
  · subst e; exact hs (by omega)
  · have hlast := hs (by omega)
    have := (List.pairwise_iff_getElem.1 h) j (k - 1) hj (by simp only [List.length_take]; omega) (by omega)
    rw [ej] at this
    have e2 : (l.take k)[k - 1]'(by simp only [List.length_take]; omega) = l[k - 1]'(by omega) := by simp
    rw [e2] at this
    exact strLt_trans this hlast
theorem rises_not {l : List (ByteArray × Int)} {k : Nat} (hk : k < l.length) (h0 : 0 < k) (hs : strLt (l[k - 1]'(by omega)).1 l[k].1 = false) : ¬ Rises l := by
  intro h
  have := (List.pairwise_iff_getElem.1 h) (k - 1) k (by omega) hk (by omega)
  rw [hs] at this; cases this
def refDir (n : NodeD) : Bool := decide (n.size = 0) && decide (n.map.length = 0) && (n.names.all goodDent && decide (Rises n.names))

def rowIn1 (x : ByteArray × Int) : Row := ⟨1, x.1, x.2⟩
theorem goodDent_iff (x : ByteArray × Int) : goodDent x = true ↔ goodName x.1 = true ∧ 2 ≤ x.2 ∧ x.2 ≤ 256 := by simp [goodDent]
theorem rowIn1_ok {x : ByteArray × Int} (h : goodDent x = true) : (rowIn1 x).Ok := by
  rw [goodDent_iff] at h
  exact ⟨⟨by show (1 : Int) ≤ 1; omega, by show (1 : Int) ≤ 256; omega⟩, ⟨by show 1 ≤ x.2; omega, by show x.2 ≤ 256; omega⟩, h.1⟩
theorem findIno_no {R : List Row} {s : ByteArray} (h : ∀ r ∈ R, ¬ (r.dir = 1 ∧ r.name = s)) : findIno R 1 s = 0 := by
  unfold findIno
  rw [List.find?_eq_none.2 (by simpa using h)]; rfl
theorem dirStep_yes {R : List Row} {x : ByteArray × Int} (hg : goodDent x = true) (h : ∀ r ∈ R, ¬ (r.dir = 1 ∧ r.name = x.1)) : dirStep (some R) x = some (rowIn1 x :: R) := by
  rw [goodDent_iff] at hg
  have h1 : isInodeB 1 = true := by decide
  have h2 : isInodeB x.2 = true := by simp [isInodeB]; omega
  have he : putErr R 1 x.1 x.2 = 0 := by
    unfold putErr
    rw [if_neg (by rw [h1, h2]; simp), if_neg (by rw [hg.1]; simp), if_neg (by rw [findIno_no h]; simp)]
  simp only [dirStep, Option.bind_some]
  rw [if_neg (by rintro (h | h); · omega
                 · exact h he)]
  rfl
theorem fold_dir : ∀ (l : List (ByteArray × Int)) (R : List Row), (∀ x ∈ l, goodDent x = true) → (l.map Prod.fst).Nodup → (∀ x ∈ l, ∀ r ∈ R, ¬ (r.dir = 1 ∧ r.name = x.1)) → l.foldl dirStep (some R) = some ((l.map rowIn1).reverse ++ R)
  | [], R, _, _, _ => rfl
  | x :: l, R, hg, hn, hR => by
    rw [List.foldl_cons, dirStep_yes (hg x (by simp)) (hR x (by simp))]
    rw [List.map_cons, List.nodup_cons] at hn
    rw [fold_dir l _ (fun y hy => hg y (by simp [hy])) hn.2 ?_]
    · simp
    · intro y hy r hr
      rcases List.mem_cons.1 hr with rfl | hr
      · rintro ⟨_, e⟩
        exact hn.1 (by rw [show x.1 = y.1 from e]; exact List.mem_map_of_mem hy)
      · exact hR y (by simp [hy]) r hr
theorem fold_of : ∀ (l : List (ByteArray × Int)) (R rows : List Row), (∀ r ∈ R, r.Ok) → l.foldl dirStep (some R) = some rows → (∀ x ∈ l, goodDent x = true) ∧ (l.map Prod.fst).Nodup ∧ (∀ x ∈ l, ∀ r ∈ R, ¬ (r.dir = 1 ∧ r.name = x.1))
  | [], R, _, _, _ => ⟨by simp, by simp, by simp⟩
  | x :: l, R, rows, hok, h => by
    rw [List.foldl_cons] at h
    by_cases hc : x.2 = 1 ∨ putErr R 1 x.1 x.2 ≠ 0
    · have e : dirStep (some R) x = none := by simp only [dirStep, Option.bind_some]; rw [if_pos hc]
      rw [e, dirStep_none] at h; cases h
    · have e : dirStep (some R) x = some (rowIn1 x :: R) := by simp only [dirStep, Option.bind_some]; rw [if_neg hc]; rfl
      rw [e] at h
      have hc1 : x.2 ≠ 1 := fun h => hc (.inl h)
      have hc2 : putErr R 1 x.1 x.2 = 0 := by
        rcases Decidable.em (putErr R 1 x.1 x.2 = 0) with e | e
        · exact e
        · exact absurd (.inr e) hc
      unfold putErr at hc2
      split at hc2
      · cases hc2
      · rename_i hi
        split at hc2
        · cases hc2
        · rename_i hg
          split at hc2
          · cases hc2
          · rename_i hf
            have hi2 : isInodeB x.2 = true := by
              cases hb : isInodeB x.2
              · exact absurd (.inr hb) hi
              · rfl
            have hg2 : goodName x.1 = true := by simpa using hg
            have hf2 : findIno R 1 x.1 = 0 := by
              rcases Decidable.em (findIno R 1 x.1 = 0) with e | e
              · exact e
              · exact absurd e hf
            have hgd : goodDent x = true := by
              rw [goodDent_iff]
              simp only [isInodeB, decide_eq_true_eq] at hi2
              exact ⟨hg2, by omega, by omega⟩
            have hno := findIno_zero hok hf2
            rw [List.find?_eq_none] at hno
            obtain ⟨i1, i2, i3⟩ := fold_of l (rowIn1 x :: R) rows (fun r hr => by
              rcases List.mem_cons.1 hr with rfl | hr
              · exact rowIn1_ok hgd
              · exact hok r hr) h
            refine ⟨fun y hy => ?_, ?_, fun y hy r hr => ?_⟩
            · rcases List.mem_cons.1 hy with rfl | hy
              · exact hgd
              · exact i1 y hy
            · rw [List.map_cons, List.nodup_cons]
              refine ⟨fun hin => ?_, i2⟩
              obtain ⟨y, hy, e⟩ := List.mem_map.1 hin
              exact i3 y hy (rowIn1 x) (by simp) ⟨rfl, e.symm⟩
            · rcases List.mem_cons.1 hy with rfl | hy
              · have := hno r hr; simpa using this
              · exact i3 y hy r (by simp [hr])
def dirList (l : List (ByteArray × Int)) : List Row := (l.map rowIn1).reverse
theorem dirRows_ok {l : List (ByteArray × Int)} (h : ∀ x ∈ l, goodDent x = true) (hn : (l.map Prod.fst).Nodup) : dirRows l = some (dirList l) := by
  have := fold_dir l [] h hn (by simp)
  rw [List.append_nil] at this
  exact this
theorem dirRows_of {l : List (ByteArray × Int)} {rows : List Row} (h : dirRows l = some rows) : (∀ x ∈ l, goodDent x = true) ∧ (l.map Prod.fst).Nodup ∧ rows = dirList l := by
  obtain ⟨h1, h2, _⟩ := fold_of l [] rows (by simp) h
  refine ⟨h1, h2, ?_⟩
  have := dirRows_ok h1 h2
  rw [h] at this
  exact Option.some.inj this
theorem dirList_nodup {l : List (ByteArray × Int)} (hn : (l.map Prod.fst).Nodup) : ((dirList l).map (fun r => (r.dir, r.name))).Nodup := by
  unfold dirList
  rw [List.map_reverse, List.map_map]
  refine (List.reverse_perm _).nodup_iff.2 ?_
  have e : (l.map ((fun r : Row => (r.dir, r.name)) ∘ rowIn1)) = (l.map Prod.fst).map fun s => ((1 : Int), s) := by rw [List.map_map]; rfl
  rw [e]
  exact List.Pairwise.map _ (fun a b hab h => hab (Prod.mk.inj h).2) hn
theorem namesIn_dir (l : List (ByteArray × Int)) : namesIn (dirList l) 1 = (l.map Prod.fst).reverse := by
  unfold namesIn dirList
  rw [List.filter_eq_self.2 ?_, List.map_reverse, List.map_map]
  · rfl
  · intro r hr
    obtain ⟨x, _, rfl⟩ := List.mem_map.1 (List.mem_reverse.1 hr)
    simp [rowIn1]
theorem listNames_dir (l : List (ByteArray × Int)) : listNames (dirList l) 1 = sortNames (l.map Prod.fst) := by
  unfold listNames
  rw [namesIn_dir]
  exact sortNames_perm (List.reverse_perm _)
theorem sortNames_of_rises {l : List ByteArray} (h : l.Pairwise fun a b => strLt a b = true) : sortNames l = l :=
  eq_of_perm_pairwise (le := fun x y => (!strLt y x) = true) (fun a b h1 h2 => by
      simp only [Bool.not_eq_true'] at h1 h2
      exact strLt_tri h2 h1) (List.mergeSort_perm _ _) (sortNames_sorted l) (h.imp fun {a b} hab => by rw [strLt_asymm hab]; rfl)
theorem pairs_dir {l : List (ByteArray × Int)} (hn : (l.map Prod.fst).Nodup) : pairsOf (findIno (dirList l) 1) (l.map Prod.fst) = l := by
  unfold pairsOf
  rw [List.map_map]
  conv => rhs; rw [← List.map_id l]
  refine List.map_congr_left fun x hx => ?_
  have hm : rowIn1 x ∈ dirList l := by unfold dirList; rw [List.mem_reverse]; exact List.mem_map_of_mem hx
  have := findIno_mem (dirList_nodup hn) hm
  show (x.1, findIno (dirList l) 1 x.1) = x
  rw [show findIno (dirList l) 1 x.1 = x.2 from this]
theorem rises_nodup {l : List (ByteArray × Int)} (h : Rises l) : (l.map Prod.fst).Nodup := by
  unfold List.Nodup
  rw [List.pairwise_map]
  refine List.Pairwise.imp (fun {a b} hab e => ?_) h
  rw [e, strLt_irrefl] at hab; cases hab
theorem pairsOf_fst (f : ByteArray → Int) (ns : List ByteArray) : (pairsOf f ns).map Prod.fst = ns := by
  unfold pairsOf
  rw [List.map_map]
  exact List.map_id ns
theorem namesOf_dir {l : List (ByteArray × Int)} (hn : (l.map Prod.fst).Nodup) : namesOf (dirList l) = l ↔ Rises l := by
  unfold namesOf
  rw [listNames_dir]
  constructor
  · intro h
    have e : sortNames (l.map Prod.fst) = l.map Prod.fst := by
      have := congrArg (List.map Prod.fst) h
      rw [pairsOf_fst] at this
      exact this
    have hs := sortNames_sorted (l.map Prod.fst)
    rw [e] at hs
    have hb : (l.map Prod.fst).Pairwise fun a b => strLt a b = true := by
      refine List.Pairwise.imp₂ (R := fun a b => (!strLt b a) = true) (S := fun a b => a ≠ b) ?_ hs hn
      intro a b h1 h2
      simp only [Bool.not_eq_true'] at h1
      cases h3 : strLt a b
      · exact absurd (strLt_tri h3 h1) h2
      · rfl
    rw [List.pairwise_map] at hb
    exact hb
  · intro h
    have hb : (l.map Prod.fst).Pairwise fun a b => strLt a b = true := by rw [List.pairwise_map]; exact h
    rw [sortNames_of_rises hb]
    exact pairs_dir hn
theorem refDir_eq (n : NodeD) : refDir n = dirGood n := by
  unfold refDir dirGood
  congr 1
  cases h : dirRows n.names with
  | none =>
    show _ = false
    rw [Bool.eq_false_iff]
    intro hb
    simp only [Bool.and_eq_true, List.all_eq_true, decide_eq_true_eq] at hb
    rw [dirRows_ok hb.1 (rises_nodup hb.2)] at h
    cases h
  | some rows =>
    obtain ⟨h1, h2, rfl⟩ := dirRows_of h
    show _ = decide (namesOf (dirList n.names) = n.names)
    rw [List.all_eq_true.2 h1, Bool.true_and]
    exact decide_eq_decide.2 (namesOf_dir h2).symm
def refGood (n : NodeD) : Bool := if n.kind = 1 then refFile n else if n.kind = 2 then refDir n else false
theorem refGood_eq (n : NodeD) : refGood n = nodeGood n := by unfold refGood nodeGood; rw [refFile_eq, refDir_eq]
end Go.Proofs.YtabebkffcmajkaaGreatDoor

/-! Plain: what a good node's pages are. -/
namespace Go.Proofs.YtabebkffcmajkaaGreatDoor
open Go.RowKit Go.Maps Go.Shelf

def pagesN (x : RunD) (k : Nat) : List Int := (List.range k).map fun i : Nat => x.page + (i : Int)
def mapPages (l : List RunD) : List Int := l.flatMap fun r => pagesN r r.count.toNat
theorem pagesN_snoc (x : RunD) (k : Nat) : pagesN x (k + 1) = pagesN x k ++ [x.page + k] := by unfold pagesN; rw [List.range_succ, List.map_append]; rfl
theorem pagesN_length (x : RunD) (k : Nat) : (pagesN x k).length = k := by simp [pagesN]
theorem mapPages_snoc {l : List RunD} {k : Nat} (h : k < l.length) : mapPages (l.take (k + 1)) = mapPages (l.take k) ++ pagesN l[k] l[k].count.toNat := by
  unfold mapPages; rw [List.take_succ_eq_append_getElem h, List.flatMap_append]; simp
theorem mapPages_eq (l : List RunD) : mapPages l = l.flatMap (fun r => (runItems r).map Prod.snd) := by
  unfold mapPages
  congr 1
  funext r
  unfold runItems pagesN
  rw [List.map_map]; rfl
theorem good_runs {n : NodeD} (h : nodeGood n = true) : (∀ r ∈ n.map, refRun r = true) ∧ (n.kind = 1 ∧ n.names = [] ∧ n.map = runsT (tableOf n.map) ∨ n.kind = 2 ∧ n.map = [] ∧ n.size = 0) := by
  rw [← refGood_eq] at h
  unfold refGood at h
  split at h
  · rename_i hk
    unfold refFile at h
    simp only [Bool.and_eq_true, decide_eq_true_eq] at h
    obtain ⟨⟨⟨_, h2⟩, h3⟩, h4⟩ := h
    refine ⟨fun r hr => ?_, .inl ⟨hk, List.length_eq_zero_iff.1 h2, h4⟩⟩
    have := List.all_eq_true.1 h3 r hr
    simp only [refEnd, Bool.and_eq_true] at this
    exact this.1
  · split at h
    · rename_i hk
      unfold refDir at h
      simp only [Bool.and_eq_true, decide_eq_true_eq] at h
      have h0 : n.map = [] := List.length_eq_zero_iff.1 h.1.2
      exact ⟨(fun r hr => by rw [h0] at hr; cases hr), .inr ⟨hk, h0, h.1.1⟩⟩
    · cases h
theorem pagesOf_good {n : NodeD} (h : nodeGood n = true) : pagesOf n = mapPages n.map := by
  obtain ⟨hr, ⟨hk, _, he⟩ | ⟨hk, he, _⟩⟩ := good_runs h
  · unfold pagesOf
    rw [if_pos ⟨h, hk⟩, mapPages_eq]
    exact pages_runs hr he
  · unfold pagesOf
    rw [if_neg (by rintro ⟨_, e⟩; omega), he]
    rfl
theorem pagesOf_bad {n : NodeD} (h : ¬ nodeGood n = true) : pagesOf n = [] := by unfold pagesOf; rw [if_neg (fun e => h e.1)]
end Go.Proofs.YtabebkffcmajkaaGreatDoor

/-! Reference walk: Runs. -/
namespace Go.Proofs.YtabebkffcmajkaaGreatDoor
open Go.RowKit Go.Maps Go.Shelf

theorem oneRun : ∀ (s : RunD), ∀ u ∈ encRun s, u.oneCell' = true := by
  intro s u hu
  simp only [encRun, List.mem_cons, List.not_mem_nil, or_false] at hu
  rcases hu with rfl | rfl | rfl <;> rfl
def RunsOwn (w : World) (f : Nat → Int) : Ending → World → Prop := fun e w' => ∃ v, e = .returned v ∧ w'.ownsRow w.heap.size 73 3 v (runsT f).length (rowOf encRun (runsT f)) ∧ Mod None_ w w'
def RunsPost (w : World) (f : Nat → Int) : Ending → World → Prop := fun e w' => ∃ v, e = .returned v ∧ ListAt encRun 3 w' v (runsT f) ∧ Mod None_ w w'

set_option maxRecDepth 100000 in
set_option maxHeartbeats 600000 in
theorem refRuns_own (w : World) (f : Nat → Int) (hin : InR f) : Calls Tryz.prog 46 #[.agg (tabCells f)] w (RunsOwn w f) := by
  have HI := hide hin
  clear hin
  obtain ⟨T, hT⟩ : ∃ T : Array Value, T = tabCells f := ⟨_, rfl⟩
  rw [← hT]
  have hget : ∀ i : Nat, i < 512 → T[i]? = some (.int .i64 (f i)) := fun i hi => by rw [hT]; exact tabCells_get _ hi
  have HG := hide hget
  clear hget hT
  go_enter Tryz.func46, Tryz.ntmps46
  obtain ⟨m, hm⟩ : ∃ m, m = w.heap.size := ⟨_, rfl⟩
  obtain ⟨w1, hw1⟩ : ∃ w1, w1 = w.alloc (.cells T 103) := ⟨_, rfl⟩
  have hM : Mod None_ w w1 := by rw [hw1]; exact (Mod.refl _ w).alloc _
  have hsz01 : w.heap.size ≤ w1.heap.size := hM.size
  have b1 : Blk w1 m 103 T := by rw [hw1, hm]; exact Blk.new w 103 _
  have hgem : w.heap.size ≤ m := by omega
  have hsz : m < w1.heap.size := b1.lt
  have HW := hide hw1
  have HM := hide hm
  clear hw1 hm
  go_wp2_with fail
  rw [← HW.out, ← HM.out]
  clear HW HM
  go_loopw [4, 3] (fun s4 s3 wr => ∃ (k : Nat) (L : List RunD) (v3 : Value), v3 = s3 ∧ k ≤ 512 ∧ s4 = .int .i64 k ∧ RunsCl f k L ∧ wr.ownsRow w1.heap.size 73 3 v3 L.length (rowOf encRun L) ∧ Mod None_ w wr ∧ w1.heap.size ≤ wr.heap.size ∧ Blk wr m 103 T) (fun s4 _ _ => 512 - (intOf s4).toNat)
  case atStart => exact ⟨0, [], _, rfl, Nat.zero_le _, rfl, RunsCl.start f, ⟨rfl, .inl ⟨rfl, rfl⟩⟩, hM, Nat.le_refl _, b1⟩
  clear b1 hM
  obtain ⟨k, L, v3, rfl, hk, rfl, hcl, hown, hM, hsz1, b1⟩ := hrel
  by_cases hlt : k < 512
  · have hki : (k : Int) < 512 := by omega
    have x0 : wr.cell? ⟨m, k, none⟩ = some (.int .i64 (f k)) := by rw [b1.cell]; exact HG.out k hlt
    by_cases h0 : f k = 0
    · have hz := hcl.zero h0
      have d0 : (f k == 0) = true := by rw [h0]; rfl
      have HZ := hide hz
      clear hz h0 hcl
      go_wp2_with fail
      go_roundw
      case rel => exact ⟨k + 1, L, _, rfl, by omega, by simp, HZ.out, hown, hM, hsz1, b1⟩
      case measure => simp [intOf]; omega
    · have d0 : (f k == 0) = false := by simpa using h0
      have h1 := hcl.one HI.out hlt h0
      have HC := hide hcl
      have H0 := hide h0
      clear hcl h0
      go_wp2_with fail
      obtain ⟨wo, rfl⟩ : ∃ wo : World, wo = wr := ⟨_, rfl⟩
      go_loopw [5] (fun s5 wv => ∃ n : Nat, 1 ≤ n ∧ k + n ≤ 512 ∧ s5 = .int .i64 n ∧ runsTo f (k + n) = L ++ [⟨k, f k, n⟩] ∧ Mod None_ wo wv) (fun s5 _ => 512 - (intOf s5).toNat)
      case atStart => exact ⟨1, Nat.le_refl _, by omega, rfl, h1, Mod.refl _ _⟩
      clear h1
      obtain ⟨n, hn1, hn, rfl, hru, hmo⟩ := hrel
      have hLk := HC.out.len
      obtain ⟨q, hq⟩ : ∃ q, q = k + n := ⟨_, rfl⟩
      have ekn : (k : Int) + n = (q : Int) := by omega
      rw [← hq] at hru
      have hfk := HI.out k
      have HRU := hide hru
      clear hru
      have eq1 : IntKind.i64.wrap (q : Int) = q := IntWalk.i64_in _ (by omega)
      have eq2 : IntKind.i64.wrap (f k + (n : Int)) = f k + n := IntWalk.i64_in _ (by omega)
      have HQ := hide hq
      clear hq
      go_upto_region 7 with fail
      go_cut [30] from 14 to 30 (fun s wx => s = .bool (decide (q < 512 ∧ f q = f k + n)) ∧ Mod None_ wo wx)
      case first =>
        by_cases hc1 : q < 512
        · have hi1 : (q : Int) < 512 := by omega
          by_cases hc2 : f q = f k + n
          · have d2 : (f q == f k + n) = true := by rw [hc2]; simp
            have HD : Hid (decide (q < 512 ∧ f q = f k + n) = true) := hide (decide_eq_true ⟨hc1, hc2⟩)
            clear hfk hc2
            go_wp2_with fail
            refine region_stw (by kernel_rfl) (by kernel_rfl) ?_
            rintro w3 hw3
            have hm3 : Mod None_ wo w3 := by rw [hw3]; exact hmo.drew
            have b3 := b1.mod hm3 id
            have y0 : w3.cell? ⟨m, k, none⟩ = some (.int .i64 (f k)) := by rw [b3.cell]; exact HG.out k hlt
            have y1 : w3.cell? ⟨m, q, none⟩ = some (.int .i64 (f q)) := by rw [b3.cell]; exact HG.out q hc1
            clear hw3 hmo x0
            repeat (refine stw_step (fun K hK => ?_); go_simp; refine hK _ ?_; clear hK K)
            refine stw_nil ?_
            go_wp2_with fail
            go_meet
            case rel => exact ⟨by rw [HD.out], hm3⟩
          · have d2 : (f q == f k + n) = false := by simpa using hc2
            have HD : Hid (decide (q < 512 ∧ f q = f k + n) = false) := hide (decide_eq_false (fun h => hc2 h.2))
            clear hfk hc2
            go_wp2_with fail
            refine region_stw (by kernel_rfl) (by kernel_rfl) ?_
            rintro w3 hw3
            have hm3 : Mod None_ wo w3 := by rw [hw3]; exact hmo.drew
            have b3 := b1.mod hm3 id
            have y0 : w3.cell? ⟨m, k, none⟩ = some (.int .i64 (f k)) := by rw [b3.cell]; exact HG.out k hlt
            have y1 : w3.cell? ⟨m, q, none⟩ = some (.int .i64 (f q)) := by rw [b3.cell]; exact HG.out q hc1
            clear hw3 hmo x0
            repeat (refine stw_step (fun K hK => ?_); go_simp; refine hK _ ?_; clear hK K)
            refine stw_nil ?_
            go_wp2_with fail
            go_meet
            case rel => exact ⟨by rw [HD.out], hm3⟩
        · have hi1 : ¬ (q : Int) < 512 := by omega
          have d9 : decide ((q : Int) < 512) = false := decide_eq_false hi1
          have HD : Hid (decide (q < 512 ∧ f q = f k + n) = false) := hide (decide_eq_false (fun h => hc1 h.1))
          clear hfk
          go_wp2_with fail
          refine region_stw (by kernel_rfl) (by kernel_rfl) ?_
          rintro w3 hw3
          have hm3 : Mod None_ wo w3 := by rw [hw3]; exact hmo.drew
          clear hw3 hmo x0
          repeat (refine stw_step (fun K hK => ?_); go_simp; refine hK _ ?_; clear hK K)
          refine stw_nil ?_
          go_wp2_with fail
          go_meet
          case rel => exact ⟨by rw [HD.out], hm3⟩
      case rest =>
        obtain ⟨rfl, hmc⟩ := hcut
        clear hmo
        by_cases hc : q < 512 ∧ f q = f k + n
        · rw [decide_eq_true hc]
          have hmore := run_more (n := n) (by rw [← HQ.out]; exact HRU.out) HI.out H0.out (by rw [← HQ.out]; exact hc.1) (by rw [← HQ.out]; exact hc.2)
          have HMO := hide hmore
          have hq5 : n + 1 ≤ 512 - k := by have := HQ.out; omega
          clear hmore hc hfk eq1 eq2 ekn
          go_wp2_with fail
          go_roundw
          case rel => exact ⟨n + 1, by omega, by omega, by simp, HMO.out, hmc⟩
          case measure => simp [intOf]; omega
        · rw [decide_eq_false hc]
          have hend := run_end (n := n) HC.out HI.out (by rw [← HQ.out]; exact HRU.out) H0.out hn1 (by rw [← HQ.out]; exact fun h e => hc ⟨h, e⟩)
          have HE := hide hend
          have b3 := b1.mod hmc id
          have x1 : wc.cell? ⟨m, k, none⟩ = some (.int .i64 (f k)) := by rw [b3.cell]; exact HG.out k hlt
          have hownc := own_mod hown hmc (fun _ _ f => f)
          have hMc := hM.trans hmc
          have hszc := Nat.le_trans hsz1 hmc.size
          clear hend hc eq1 eq2 x0 hown hM hsz1 b1 hmc
          have hLn : L.length ≤ 512 := by omega
          go_wp2_with ((with_reducible refine at_slot 41 ?_); refine wpList_append_row encRun 30 73 (.agg #[.int .i64 0, .int .i64 0, .int .i64 0]) 3 24 Tryz.underlying30 infoRun rfl (by decide) (fun _ => rfl) oneRun rfl (.tmp 33) (.tmp 40) rfl wc w1.heap.size v3 L ⟨k, f k, n⟩ rfl rfl wc.heap.size rfl rfl hownc hszc (by unfold maxLen; omega) (by omega) ?_; intro v8 w8 hown8 hm8 hat8
                       have hM8 := hMc.trans' hm8 (fun g hg e => by have := (own_blk hownc e.symm).1; omega)
                       have hz8 := Nat.le_trans hszc hm8.size
                       have b8 := b3.mod hm8 (fun e => by have := (own_blk hownc e.symm).1; omega)
                       have L1 := hide hown8
                       have L2 := hide hM8
                       have L3 := hide hz8
                       have L4 := hide b8
                       clear hown8 hm8 hat8 hM8 hz8 b8 hownc hMc hszc b3 x1
                       go_frame)
          go_roundw
          case rel => exact ⟨q, _, _, rfl, by omega, by simp, by rw [HQ.out]; exact HE.out, L1.out, L2.out, L3.out, L4.out⟩
          case measure => simp [intOf]; omega
  · obtain rfl : k = 512 := by omega
    have hfin : RunsOwn w f (.returned v3) wr := by
      unfold RunsOwn
      rw [RunsCl.done hcl]
      exact ⟨_, rfl, ⟨hown.1, hown.2.elim .inl (fun ⟨g, cap, cur, h1, h2, h3⟩ => .inr ⟨g, cap, cur, h1, Nat.le_trans hsz01 h2, h3⟩)⟩, hM⟩
    have HF := hide hfin
    clear hfin hown hM hcl hlt
    go_wp2
    go_ret
    exact HF.out
theorem refRuns_any (w : World) (f : Nat → Int) (hin : InR f) : Calls Tryz.prog 46 #[.agg (tabCells f)] w (RunsPost w f) :=
  (refRuns_own w f hin).mono fun _ _ ⟨v, h1, h2, h3⟩ => ⟨v, h1, list_of_ownRow (enc := encRun) (fun _ => rfl) h2, h3⟩
end Go.Proofs.YtabebkffcmajkaaGreatDoor

/-! Reference walk: Good, of files. -/
namespace Go.Proofs.YtabebkffcmajkaaGreatDoor
open Go.RowKit Go.Maps Go.Shelf
attribute [local go_sem] quietV loudUpon Oper.semAt_some

theorem refFile_size {n : NodeD} (h : ¬ (0 ≤ n.size ∧ n.size ≤ 262144)) : refFile n = false := by unfold refFile; rw [decide_eq_false h]; rfl
theorem refFile_names {n : NodeD} (h : ¬ n.names.length = 0) : refFile n = false := by unfold refFile; rw [decide_eq_false h]; simp
theorem refFile_run {n : NodeD} {k : Nat} (hk : k < n.map.length) (h : refEnd n.size n.map[k] = false) : refFile n = false := by
  have : n.map.all (refEnd n.size) = false := by rw [List.all_eq_false]; exact ⟨_, List.getElem_mem hk, by rw [h]; decide⟩
  unfold refFile; rw [this]; simp
theorem refFile_ok {n : NodeD} (h1 : 0 ≤ n.size ∧ n.size ≤ 262144) (h2 : n.names.length = 0) (h3 : n.map.all (refEnd n.size) = true) : refFile n = decide (n.map = runsT (tableOf n.map)) := by
  unfold refFile; rw [decide_eq_true h1, decide_eq_true h2, h3]; simp
theorem mxw_qval {P : Program} {I : World → Prop} {Q : Act → World → Prop} {k : Nat} {o : Oper} {os : List Oper} {l : List (Bool × Nat)} {a : Act} {w : World} {v : Value} (ho : os[k]? = some o) (hg : o.guard = none)
    (h : ∀ w', I w' → (execOp a.eval o).run P w' = .ok (.value v) w') (hn : MxW P os.toArray I Q l (a.put o.dst v) w) : MxW P os.toArray I Q ((true, k) :: l) a w :=
  mxw_quiet ho (fun w' hw' K hK => by rw [if_pos (by simp [Region.wanted, hg]), h w' hw']; exact ⟨rfl, hK⟩) hn
theorem zeroV (w : World) : (zeroValue 103).run Tryz.prog w = .ok (.agg Tryz.zeroCells103) w := by kernel_rfl
def BoolPost (w : World) (b : Bool) : Ending → World → Prop := fun e w' => e = .returned (.bool b) ∧ Mod None_ w w'

set_option maxRecDepth 100000 in
set_option maxHeartbeats 2000000 in
theorem refGood_file (w : World) (n : NodeD) (vm vn vl : Value) (h : NodeAt w n vm vn vl) (hk : n.kind = 1) : Calls Tryz.prog 28 #[.agg (nodeC n vm vn vl)] w (BoolPost w (refFile n)) := by
  obtain ⟨An, cn, rfl, hcn1, hcn2, _⟩ := id h.names
  obtain ⟨Am, cm, rfl, hcm1, hcm2, hml, _, _⟩ := id h.map
  have hnl := h.nlen
  have hln : ∀ w, (Builtin.len_ #[31] 3 #[.slice An n.names.length cn]).run Tryz.prog w = .ok (.int .i64 n.names.length) w := fun w => by simp [Builtin.len_, run_underlying Tryz.underlying31]; rfl
  have hlm : ∀ w, (Builtin.len_ #[30] 3 #[.slice Am n.map.length cm]).run Tryz.prog w = .ok (.int .i64 n.map.length) w := fun w => by simp [Builtin.len_, run_underlying Tryz.underlying30]; rfl
  have HN := hide h
  clear h
  unfold nodeC
  go_enter Tryz.func28, Tryz.ntmps28
  obtain ⟨m, hm⟩ : ∃ m, m = w.heap.size := ⟨_, rfl⟩
  obtain ⟨w1, hw1⟩ : ∃ w1, w1 = w.alloc (.cells (nodeC n (.slice Am n.map.length cm) (.slice An n.names.length cn) vl) 34) := ⟨_, rfl⟩
  have hM : Mod None_ w w1 := by rw [hw1]; exact (Mod.refl _ w).alloc _
  have b1 : Blk w1 m 34 (nodeC n (.slice Am n.map.length cm) (.slice An n.names.length cn) vl) := by rw [hw1, hm]; exact Blk.new w 34 _
  have c1 : w1.cell? ⟨m, 1, none⟩ = some (.int .i64 n.kind) := b1.cell 1
  have c3 : w1.cell? ⟨m, 3, none⟩ = some (.int .i64 n.size) := b1.cell 3
  have c4 : w1.cell? ⟨m, 4, none⟩ = some (.slice Am n.map.length cm) := b1.cell 4
  have c5 : w1.cell? ⟨m, 5, none⟩ = some (.slice An n.names.length cn) := b1.cell 5
  have d1 : (n.kind == 1) = true := by simp [hk]
  unfold nodeC at hw1
  have HW1 := hide hw1
  have HMM := hide hm
  clear hw1 hm hk
  go_upto_region 1 with fail
  rw [← HMM.out, ← HW1.out]
  clear HW1 HMM
  by_cases hz : 0 ≤ n.size ∧ n.size ≤ 262144
  · obtain ⟨hz0, hz1⟩ := hz
    have d2 : ¬ n.size < 0 := by omega
    have d3 : decide (262144 < n.size) = false := decide_eq_false (by omega)
    by_cases hn0 : n.names.length = 0
    · have d4 : decide (0 < n.names.length) = false := decide_eq_false (by omega)
      have HN0 := hide hn0
      clear hn0
      go_wp2_with fail
      go_loopw [3] (fun s3 wr => ∃ k : Nat, k ≤ n.map.length ∧ s3 = .int .i64 k ∧ (n.map.take k).all (refEnd n.size) = true ∧ Mod None_ w wr ∧ Blk wr m 34 (nodeC n (.slice Am n.map.length cm) (.slice An n.names.length cn) vl)) (fun s3 _ => n.map.length - (intOf s3).toNat)
      case atStart => exact ⟨0, Nat.zero_le _, rfl, rfl, hM, b1⟩
      clear hM b1 c1 c3 c4 c5
      obtain ⟨k, hk, rfl, hall, hM, b1⟩ := hrel
      have c3 : wr.cell? ⟨m, 3, none⟩ = some (.int .i64 n.size) := b1.cell 3
      have c4 : wr.cell? ⟨m, 4, none⟩ = some (.slice Am n.map.length cm) := b1.cell 4
      by_cases hlt : k < n.map.length
      · have hki : (k : Int) < n.map.length := by omega
        obtain ⟨_, _, hcv, _, _, hcell⟩ := (HN.out.kept hM).map.list
        simp only [Value.slice.injEq, true_and] at hcv
        obtain ⟨rfl, rfl⟩ := hcv
        obtain ⟨g, o, rfl, hg, hcell⟩ := hcell (by omega)
        have x0 : wr.cell? ⟨g, o + k * 3, none⟩ = some (.int .i64 n.map[k].off) := hcell k hlt 0 _ rfl
        have x1 : wr.cell? ⟨g, o + k * 3 + 1, none⟩ = some (.int .i64 n.map[k].page) := hcell k hlt 1 _ rfl
        have x2 : wr.cell? ⟨g, o + k * 3 + 2, none⟩ = some (.int .i64 n.map[k].count) := hcell k hlt 2 _ rfl
        have hbad := refFile_run hlt
        have hsn : refEnd n.size n.map[k] = true → (n.map.take (k + 1)).all (refEnd n.size) = true := fun h => by
          rw [List.take_succ_eq_append_getElem hlt, List.all_append, hall]; simp [h]
        obtain ⟨x, hx⟩ : ∃ x, x = n.map[k] := ⟨_, rfl⟩
        rw [← hx] at x0 x1 x2 hbad hsn
        have HB := hide hbad
        have HS := hide hsn
        clear hcell hall hbad hsn hx
        go_wp2_with fail
        refine (refRun_any wr x).mono ?_
        rintro e w2 ⟨rfl, hm2⟩
        have hM2 := hM.trans hm2
        have b2 := b1.mod hm2 id
        have hg2 : g < w2.heap.size := Nat.lt_of_lt_of_le hg hm2.size
        replace x0 := (World.cell?_of_block (hm2.block g hg id)).trans x0
        replace x2 := (World.cell?_of_block (hm2.block g hg id)).trans x2
        clear hM b1 hm2 c3 c4 x1
        go_upto_region 8 with fail
        cases hr : refRun x with
        | false =>
          have HF : Hid (∀ w', Mod None_ w w' → BoolPost w (refFile n) (.returned (.bool false)) w') := hide fun w' h => by rw [HB.out (by unfold refEnd; rw [hr]; rfl)]; exact ⟨rfl, h⟩
          clear hr
          go_wp2_with fail
          refine region_stw (by kernel_rfl) (by kernel_rfl) ?_
          rintro w3 hw3
          have hM3 : Mod None_ w w3 := by rw [hw3]; exact hM2.drew
          clear hw3 x0 x2
          repeat (refine stw_step (fun K hK => ?_); go_simp; refine hK _ ?_; clear hK K)
          refine stw_nil ?_
          have HG := hide (HF.out _ hM3)
          clear hM3
          go_wp2
          go_ret
          exact HG.out
        | true =>
          have hq := (refRun_iff x).1 hr
          obtain ⟨q1, q2, q3, q4, q5, q6, q7⟩ := hq
          go_wp2_with fail
          refine region_stw (by kernel_rfl) (by kernel_rfl) ?_
          rintro w3 hw3
          have hm3 : Mod None_ w2 w3 := by rw [hw3]; exact (Mod.refl _ w2).drew
          have hM3 := hM2.trans hm3
          have b3 := b2.mod hm3 id
          have c3 : w3.cell? ⟨m, 3, none⟩ = some (.int .i64 n.size) := b3.cell 3
          have c4 : w3.cell? ⟨m, 4, none⟩ = some (.slice (some ⟨g, o, none⟩) n.map.length cm) := b3.cell 4
          replace x0 := (World.cell?_of_block (hm3.block g hg2 id)).trans x0
          replace x2 := (World.cell?_of_block (hm3.block g hg2 id)).trans x2
          have HE := hide (refEndPage_any n.size w3 hz0 hz1)
          have ew : IntKind.i64.wrap (x.off + x.count) = x.off + x.count := IntWalk.i64_in _ (by omega)
          have ew2 : x.off + x.count - (n.size + 511) / 512 ≤ 100000000 := by omega
          clear hw3 hm3 hM2 b2 hg2
          repeat (refine stw_step (fun K hK => ?_); go_simp; refine hK _ ?_; clear hK K)
          refine stw_step (fun K hK => ?_)
          go_simp
          refine ⟨_, HE.out.mono (fun e w'' h => ⟨h.1, h.2.symm⟩), hK _ ?_⟩
          clear hK K
          by_cases hle : x.off + x.count ≤ (n.size + 511) / 512
          · have de : decide ((n.size + 511) / 512 < x.off + x.count) = false := decide_eq_false (by omega)
            have HT := hide (HS.out (by unfold refEnd endOf; rw [hr, decide_eq_true hle]; rfl))
            clear hle hr ew2
            repeat (refine stw_step (fun K hK => ?_); go_simp; refine hK _ ?_; clear hK K)
            refine stw_nil ?_
            go_wp2_with fail
            go_roundw
            case rel => exact ⟨k + 1, by omega, by simp, HT.out, hM3, b3⟩
            case measure => simp [intOf]; omega
          · have de : decide ((n.size + 511) / 512 < x.off + x.count) = true := decide_eq_true (by omega)
            have hfin : BoolPost w (refFile n) (.returned (.bool false)) w3 := by rw [HB.out (by unfold refEnd endOf; rw [decide_eq_false hle]; simp)]; exact ⟨rfl, hM3⟩
            have HG := hide hfin
            clear hle hr ew2 hfin hM3 b3
            repeat (refine stw_step (fun K hK => ?_); go_simp; refine hK _ ?_; clear hK K)
            refine stw_nil ?_
            go_wp2
            go_ret
            exact HG.out
      · obtain rfl : k = n.map.length := by omega
        have hkn : ¬ (n.map.length : Int) < n.map.length := by omega
        rw [List.take_length] at hall
        have hrr : ∀ r ∈ n.map, refRun r = true := fun r hr => by
          have := List.all_eq_true.1 hall r hr
          simp only [refEnd, Bool.and_eq_true] at this
          exact this.1
        have hfin := refFile_ok ⟨hz0, hz1⟩ HN0.out hall
        have HF := hide hfin
        have HT := hide (refTable_any wr (.slice Am n.map.length cm) n.map (HN.out.kept hM).map hrr)
        have HR := hide (table_in hrr)
        clear hfin hall hrr hlt
        go_wp2_with fail
        refine Calls.mono HT.out ?_
        rintro e w2 ⟨rfl, hm2⟩
        have hM2 := hM.trans hm2
        have b2 := b1.mod hm2 id
        clear hM b1 hm2 c3 c4 HT
        obtain ⟨T, hT⟩ : ∃ T : Array Value, T = tabCells (tableOf n.map) := ⟨_, rfl⟩
        rw [← hT]
        have hTs : T.size = 512 := by rw [hT, tabCells, Array.size_ofFn]
        have hone : T.all (·.oneCell') = true := by
          rw [Array.all_eq_true]
          intro i hi
          have e : T[i]? = some (.int .i64 (tableOf n.map i)) := by rw [hT]; exact tabCells_get _ (by omega)
          rw [Array.getElem?_eq_getElem hi] at e
          rw [Option.some.inj e]; rfl
        have hi5 : (Tryz.prog.info? 103).map (·.size) = some 512 := by kernel_rfl
        have hi6 : (Tryz.prog.info? 103).map (·.size) = some T.size := by rw [hi5, hTs]
        have hzc : Tryz.zeroCells103.size = T.size := by rw [hTs, zeroTab, tabCells, Array.size_ofFn]
        have H1 := hide hone
        have H2 := hide hi6
        have H3 := hide hzc
        have HTT := hide hT
        clear hT hone hi5 hi6 hzc hTs
        obtain ⟨q, hq⟩ : ∃ q, q = w2.heap.size := ⟨_, rfl⟩
        obtain ⟨w3, hw3⟩ : ∃ w3, w3 = w2.alloc (.cells T 103) := ⟨_, rfl⟩
        have hm3 : Mod None_ w2 w3 := by rw [hw3]; exact (Mod.refl _ w2).alloc _
        have bt : Blk w3 q 103 T := by rw [hw3, hq]; exact Blk.new w2 103 _
        have hM3 := hM2.trans hm3
        have b3 := b2.mod hm3 id
        have HQ := hide hq
        have HW3 := hide hw3
        clear hq hw3 hm3 hM2 b2
        go_wp2_with ((with_reducible refine at_slot 5 ?_); refine wpList_declare rfl rfl 103 5 (.tmp 61) rfl rfl rfl Tryz.zeroCells103 T zeroV H2.out H3.out H1.out (by simp) rfl ?_; go_frame)
        rw [← HW3.out, ← HQ.out]
        clear HW3 HQ H3
        refine region_mxw [(true, 0), (true, 1), (true, 2), (false, 3), (false, 4), (true, 5)] (fun w' => w'.cell? ⟨m, 4, none⟩ = some (.slice Am n.map.length cm) ∧ Blk w' q 103 T) (by kernel_rfl) (by kernel_rfl) ?_
        rintro w4 hw4
        have hm4 : Mod None_ w3 w4 := by rw [hw4]; exact (Mod.refl _ w3).drew
        have hM4 := hM3.trans hm4
        have b4 := b3.mod hm4 id
        have bt4 := bt.mod hm4 id
        clear hw4 hm4 hM3 b3 bt
        refine ⟨⟨b4.cell 4, bt4⟩, ?_⟩
        iterate 2 (refine mxw_quiet rfl (fun w' i1 K hK => by have i2 := i1.1; clear i1; go_simp; exact hK) ?_; go_frame)
        refine mxw_qval rfl (v := .agg T) rfl (fun w' i1 => ex_load rfl (run_loadRow i1.2 Tryz.underlying103 rfl H2.out)) ?_
        go_frame
        have HRU := hide (refRuns_any w4 _ HR.out)
        have HN4 := hide (HN.out.kept hM4)
        refine mxw_loud rfl (fun K hK => ?_)
        go_simp
        rw [HTT.out]
        refine Calls.mono HRU.out ?_
        rintro e w5 ⟨v5, rfl, hl5, hm5⟩
        rw [← HTT.out]
        have hM5 := hM4.trans hm5
        have b5 := b4.mod hm5 id
        have bt5 := bt4.mod hm5 id
        have HSM := hide (refSameRuns w5 _ v5 _ _ (HN4.out.kept hm5).map.list hl5)
        clear hm5 hM4 b4 bt4 hl5 HRU
        refine ⟨_, rfl, ⟨b5.cell 4, bt5⟩, hK _ _ ?_⟩
        clear hK K
        try go_frame
        refine mxw_loud rfl (fun K hK => ?_)
        go_simp
        refine Calls.mono HSM.out ?_
        rintro e w6 ⟨rfl, hm6⟩
        have hM6 := hM5.trans hm6
        have b6 := b5.mod hm6 id
        have bt6 := bt5.mod hm6 id
        clear hm6 hM5 b5 bt5
        refine ⟨_, rfl, ⟨b6.cell 4, bt6⟩, hK _ _ ?_⟩
        clear hK K
        try go_frame
        refine mxw_quiet rfl (fun w' i1 K hK => by clear i1; go_simp; exact hK) ?_
        go_frame
        refine mxw_nil ?_
        have hfin : BoolPost w (refFile n) (.returned (.bool (decide (n.map = runsT (tableOf n.map))))) w6 := by rw [HF.out]; exact ⟨rfl, hM6⟩
        have HG := hide hfin
        clear hfin hM6 b6 bt6 HF HSM
        go_wp2
        go_ret
        exact HG.out
    · have d4 : decide (0 < n.names.length) = true := decide_eq_true (by omega)
      have hfin : BoolPost w (refFile n) (.returned (.bool false)) w1 := by rw [refFile_names hn0]; exact ⟨rfl, hM⟩
      have HF := hide hfin
      clear hfin hn0
      go_wp2
      go_ret
      exact HF.out
  · have hfin : BoolPost w (refFile n) (.returned (.bool false)) w1 := by rw [refFile_size hz]; exact ⟨rfl, hM⟩
    have HF := hide hfin
    clear hfin
    by_cases h0 : n.size < 0
    · clear hz
      go_wp2
      go_ret
      exact HF.out
    · have d3 : decide (262144 < n.size) = true := decide_eq_true (by omega)
      clear hz
      go_wp2
      go_ret
      exact HF.out
end Go.Proofs.YtabebkffcmajkaaGreatDoor

/-! Reference walk: Good, of directories and others. -/
namespace Go.Proofs.YtabebkffcmajkaaGreatDoor
open Go.RowKit Go.Maps Go.Shelf
attribute [local go_sem] quietV loudUpon Oper.semAt_some

theorem refDir_size {n : NodeD} (h : ¬ n.size = 0) : refDir n = false := by unfold refDir; rw [decide_eq_false h]; rfl
theorem refDir_map {n : NodeD} (h : ¬ n.map.length = 0) : refDir n = false := by unfold refDir; rw [decide_eq_false h]; simp
theorem refDir_dent {n : NodeD} {k : Nat} (hk : k < n.names.length) (h : goodDent n.names[k] = false) : refDir n = false := by
  have : n.names.all goodDent = false := by rw [List.all_eq_false]; exact ⟨_, List.getElem_mem hk, by rw [h]; decide⟩
  unfold refDir; rw [this]; simp
theorem refDir_rise {n : NodeD} {k : Nat} (hk : k < n.names.length) (h0 : 0 < k) (h : strLt (n.names[k - 1]'(by omega)).1 n.names[k].1 = false) : refDir n = false := by
  unfold refDir; rw [decide_eq_false (rises_not hk h0 h)]; simp
theorem refDir_ok {n : NodeD} (h1 : n.size = 0) (h2 : n.map.length = 0) (h3 : n.names.all goodDent = true) (h4 : Rises n.names) : refDir n = true := by
  unfold refDir; rw [decide_eq_true h1, decide_eq_true h2, h3, decide_eq_true h4]; rfl

set_option maxRecDepth 100000 in
set_option maxHeartbeats 2000000 in
theorem refGood_other (w : World) (n : NodeD) (vm vn vl : Value) (h : NodeAt w n vm vn vl) (hk1 : ¬ n.kind = 1) : Calls Tryz.prog 28 #[.agg (nodeC n vm vn vl)] w (BoolPost w (if n.kind = 2 then refDir n else false)) := by
  obtain ⟨An, cn, rfl, hcn1, hcn2, _⟩ := id h.names
  obtain ⟨Am, cm, rfl, hcm1, hcm2, hml, _, _⟩ := id h.map
  have hnl := h.nlen
  have hln : ∀ w, (Builtin.len_ #[31] 3 #[.slice An n.names.length cn]).run Tryz.prog w = .ok (.int .i64 n.names.length) w := fun w => by simp [Builtin.len_, run_underlying Tryz.underlying31]; rfl
  have hlm : ∀ w, (Builtin.len_ #[30] 3 #[.slice Am n.map.length cm]).run Tryz.prog w = .ok (.int .i64 n.map.length) w := fun w => by simp [Builtin.len_, run_underlying Tryz.underlying30]; rfl
  have HN := hide h
  clear h
  unfold nodeC
  go_enter Tryz.func28, Tryz.ntmps28
  obtain ⟨m, hm⟩ : ∃ m, m = w.heap.size := ⟨_, rfl⟩
  obtain ⟨w1, hw1⟩ : ∃ w1, w1 = w.alloc (.cells (nodeC n (.slice Am n.map.length cm) (.slice An n.names.length cn) vl) 34) := ⟨_, rfl⟩
  have hM : Mod None_ w w1 := by rw [hw1]; exact (Mod.refl _ w).alloc _
  have b1 : Blk w1 m 34 (nodeC n (.slice Am n.map.length cm) (.slice An n.names.length cn) vl) := by rw [hw1, hm]; exact Blk.new w 34 _
  have c1 : w1.cell? ⟨m, 1, none⟩ = some (.int .i64 n.kind) := b1.cell 1
  have c3 : w1.cell? ⟨m, 3, none⟩ = some (.int .i64 n.size) := b1.cell 3
  have c4 : w1.cell? ⟨m, 4, none⟩ = some (.slice Am n.map.length cm) := b1.cell 4
  have c5 : w1.cell? ⟨m, 5, none⟩ = some (.slice An n.names.length cn) := b1.cell 5
  have d1 : (n.kind == 1) = false := by simpa using hk1
  unfold nodeC at hw1
  have HW1 := hide hw1
  have HMM := hide hm
  clear hw1 hm hk1
  go_upto_region 1 with fail
  rw [← HMM.out, ← HW1.out]
  clear HW1 HMM
  by_cases hk2 : n.kind = 2
  · rw [if_pos hk2]
    by_cases hz : n.size = 0
    · have d3 : (n.size != 0) = false := by simp [hz]
      by_cases hm0 : n.map.length = 0
      · have d4 : decide (0 < n.map.length) = false := decide_eq_false (by omega)
        have HZ := hide hz
        have HM0 := hide hm0
        clear hz hm0
        go_wp2_with fail
        go_loopw [6] (fun s6 wr => ∃ k : Nat, k ≤ n.names.length ∧ s6 = .int .i64 k ∧ (n.names.take k).all goodDent = true ∧ Rises (n.names.take k) ∧ Mod None_ w wr ∧ Blk wr m 34 (nodeC n (.slice Am n.map.length cm) (.slice An n.names.length cn) vl)) (fun s6 _ => n.names.length - (intOf s6).toNat)
        case atStart => exact ⟨0, Nat.zero_le _, rfl, rfl, .nil, hM, b1⟩
        clear hM b1 c1 c3 c4 c5
        obtain ⟨k, hk, rfl, hall, hri, hM, b1⟩ := hrel
        have c5 : wr.cell? ⟨m, 5, none⟩ = some (.slice An n.names.length cn) := b1.cell 5
        by_cases hlt : k < n.names.length
        · have hki : (k : Int) < n.names.length := by omega
          have HHCELL := hide (HN.out.kept hM).names
          obtain ⟨_, _, hcv, _, _, hcell⟩ := HHCELL.out
          simp only [Value.slice.injEq, true_and] at hcv
          obtain ⟨rfl, rfl⟩ := hcv
          obtain ⟨g, o, rfl, hg, hcell⟩ := hcell (by omega)
          have x0 : wr.cell? ⟨g, o + k * 2, none⟩ = some (.string n.names[k].1) := hcell k hlt 0 _ rfl
          have x1 : wr.cell? ⟨g, o + k * 2 + 1, none⟩ = some (.int .i64 n.names[k].2) := hcell k hlt 1 _ rfl
          have hbad := refDir_dent hlt
          have hsn : goodDent n.names[k] = true → (n.names.take (k + 1)).all goodDent = true := fun h => by
            rw [List.take_succ_eq_append_getElem hlt, List.all_append, hall]; simp [h]
          have hrn := rises_snoc hri hlt
          have hrb := refDir_rise hlt
          have hprev : ∀ h0 : 0 < k, wr.cell? ⟨g, o + (k - 1) * 2, none⟩ = some (.string (n.names[k - 1]'(by omega)).1) := fun h0 => hcell (k - 1) (by omega) 0 _ rfl
          have HP := hide hprev
          obtain ⟨x, hx⟩ : ∃ x, x = n.names[k] := ⟨_, rfl⟩
          rw [← hx] at x0 x1 hbad hsn
          have HX := hide hx
          have HB := hide hbad
          have HS := hide hsn
          have HRN := hide hrn
          have HRB := hide hrb
          clear hcell hall hbad hsn hx hrn hrb hprev hri HHCELL
          go_wp2_with fail
          refine (refValid_any x.1 wr).mono ?_
          rintro e w2 ⟨rfl, rfl⟩
          cases hg1 : goodName x.1 with
          | false =>
            have hfin : BoolPost w (refDir n) (.returned (.bool false)) wr := by rw [HB.out (by unfold goodDent; rw [hg1]; rfl)]; exact ⟨rfl, hM⟩
            have HF := hide hfin
            clear hfin hg1 hM b1
            go_wp2
            go_ret
            exact HF.out
          | true =>
            by_cases hi : 2 ≤ x.2 ∧ x.2 ≤ 256
            · have hgd : goodDent x = true := by unfold goodDent; rw [hg1, decide_eq_true hi]; rfl
              have HGD := hide (HS.out hgd)
              obtain ⟨hi1, hi2⟩ := hi
              have e1 : ¬ x.2 < 2 := by omega
              have e2 : decide (256 < x.2) = false := decide_eq_false (by omega)
              clear hg1 hgd
              go_wp2_with fail
              by_cases hk0 : k = 0
              · have d9 : decide ((0 : Int) < k) = false := decide_eq_false (by omega)
                have d8 : ¬ 0 < k := by omega
                have HR := hide (HRN.out (fun h0 => absurd hk0 (by omega)))
                clear hk0
                refine region_stw (by kernel_rfl) (by kernel_rfl) ?_
                rintro w3 hw3
                have hm3 : Mod None_ wr w3 := by rw [hw3]; exact (Mod.refl _ wr).drew
                have hM3 := hM.trans hm3
                have b3 := b1.mod hm3 id
                clear hw3 hm3 hM b1 c5 x0 x1
                repeat (refine stw_step (fun K hK => ?_); go_simp; refine hK _ ?_; clear hK K)
                refine stw_nil ?_
                go_wp2_with fail
                go_roundw
                case rel => exact ⟨k + 1, by omega, by simp, HGD.out, HR.out, hM3, b3⟩
                case measure => simp [intOf]; omega
              · obtain ⟨j, hj⟩ : ∃ j, j = k - 1 := ⟨_, rfl⟩
                have hj0 : 0 < k := by omega
                have p0 := HP.out hj0
                have hji : (j : Int) < n.names.length := by omega
                have ej : IntKind.i64.wrap ((k : Int) - 1) = (j : Int) := by rw [show (k : Int) - 1 = j by omega]; exact IntWalk.i64_in _ (by omega)
                have d9 : decide ((0 : Int) < k) = true := decide_eq_true (by omega)
                have hrn := HRN.out
                have hrb := HRB.out hj0
                rw [← HX.out] at hrb hrn
                obtain ⟨p, hp⟩ : ∃ p, p = (n.names[k - 1]'(by omega)).1 := ⟨_, rfl⟩
                rw [← hp] at p0 hrb
                rw [← hj] at p0
                have HRB2 := hide hrb
                have HRN2 : Hid (strLt p x.1 = true → Rises (n.names.take (k + 1))) := hide fun h => hrn fun _ => by rw [← hp]; exact h
                have hj0' : (0 : Int) < k := by omega
                clear hrn hrb hp hj hk0
                refine region_stw (by kernel_rfl) (by kernel_rfl) ?_
                rintro w3 hw3
                have hm3 : Mod None_ wr w3 := by rw [hw3]; exact (Mod.refl _ wr).drew
                have hM3 := hM.trans hm3
                have b3 := b1.mod hm3 id
                have c5 : w3.cell? ⟨m, 5, none⟩ = some (.slice (some ⟨g, o, none⟩) n.names.length cn) := b3.cell 5
                replace x0 := (World.cell?_of_block (hm3.block g hg id)).trans x0
                replace p0 := (World.cell?_of_block (hm3.block g hg id)).trans p0
                clear hw3 hm3 hM b1 x1
                cases hs : strLt p x.1 with
                | true =>
                  have HR := hide (HRN2.out hs)
                  have hb : Op.bytesLess p.toList x.1.toList = true := hs
                  clear hs
                  repeat (refine stw_step (fun K hK => ?_); go_simp; refine hK _ ?_; clear hK K)
                  refine stw_nil ?_
                  go_wp2_with fail
                  go_roundw
                  case rel => exact ⟨k + 1, by omega, by simp, HGD.out, HR.out, hM3, b3⟩
                  case measure => simp [intOf]; omega
                | false =>
                  have hfin : BoolPost w (refDir n) (.returned (.bool false)) w3 := by rw [HRB2.out hs]; exact ⟨rfl, hM3⟩
                  have HF := hide hfin
                  have hb : Op.bytesLess p.toList x.1.toList = false := hs
                  clear hs hfin hM3
                  repeat (refine stw_step (fun K hK => ?_); go_simp; refine hK _ ?_; clear hK K)
                  refine stw_nil ?_
                  go_wp2
                  go_ret
                  exact HF.out
            · have hfin : BoolPost w (refDir n) (.returned (.bool false)) wr := by rw [HB.out (by unfold goodDent; rw [hg1, decide_eq_false hi]; rfl)]; exact ⟨rfl, hM⟩
              have HF := hide hfin
              clear hfin hg1 hM b1
              by_cases e1 : x.2 < 2
              · clear hi
                go_wp2
                go_ret
                exact HF.out
              · have e2 : decide (256 < x.2) = true := decide_eq_true (by omega)
                clear hi
                go_wp2
                go_ret
                exact HF.out
        · obtain rfl : k = n.names.length := by omega
          have hkn : ¬ (n.names.length : Int) < n.names.length := by omega
          rw [List.take_length] at hall hri
          have hfin : BoolPost w (refDir n) (.returned (.bool true)) wr := by rw [refDir_ok HZ.out HM0.out hall hri]; exact ⟨rfl, hM⟩
          have HF := hide hfin
          clear hfin hall hri hM b1 hlt
          go_wp2
          go_ret
          exact HF.out
      · have d4 : decide (0 < n.map.length) = true := decide_eq_true (by omega)
        have hfin : BoolPost w (refDir n) (.returned (.bool false)) w1 := by rw [refDir_map hm0]; exact ⟨rfl, hM⟩
        have HF := hide hfin
        clear hfin hm0 hz
        go_wp2
        go_ret
        exact HF.out
    · have d3 : (n.size != 0) = true := by simpa using hz
      have hfin : BoolPost w (refDir n) (.returned (.bool false)) w1 := by rw [refDir_size hz]; exact ⟨rfl, hM⟩
      have HF := hide hfin
      clear hfin hz
      go_wp2
      go_ret
      exact HF.out
  · have hfin : BoolPost w false (.returned (.bool false)) w1 := ⟨rfl, hM⟩
    rw [if_neg hk2]
    have HF := hide hfin
    clear hfin
    go_wp2
    go_ret
    exact HF.out
theorem refGood_any (w : World) (n : NodeD) (vm vn vl : Value) (h : NodeAt w n vm vn vl) : Calls Tryz.prog 28 #[.agg (nodeC n vm vn vl)] w (BoolPost w (nodeGood n)) := by
  rw [← refGood_eq]
  unfold refGood
  by_cases hk : n.kind = 1
  · rw [if_pos hk]; exact refGood_file w n vm vn vl h hk
  · rw [if_neg hk]; exact refGood_other w n vm vn vl h hk
end Go.Proofs.YtabebkffcmajkaaGreatDoor

/-! append of a whole list. (Reads, run_append_any and what goes with them: the guide's own lemmas to copy.) -/
namespace Go.Proofs.YtabebkffcmajkaaGreatDoor
open Go.RowKit Go.Maps Go.Shelf

def Reads (w : World) (B size : Nat) (A : Option Addr) (n : Nat) (xs : List Value) : Prop :=
  xs.length = n * size ∧ (0 < n → ∃ ad, A = some ad ∧ ad.block < B ∧ ∀ j u, xs[j]? = some u → w.cell? (ad.add j) = some u)

section
variable {P : Program} (w : World)
theorem run_append_of_nil (base : Nat) (t ty e : TypeId) (i : TypeInfo) (size : Nat) (ht : P.underlying t = some (.slice e)) (hi : P.info? e = some i)
    (v : Value) (n : Nat) (xs : List Value) (hown : w.ownsRow base e size v n xs) (c : Nat) : (Builtin.append_ #[t, t] ty #[v, .slice none 0 c]).run P w = .ok v w := by
  rcases hown.2 with ⟨rfl, rfl⟩ | ⟨g, cap, cur, rfl, _, _, hnc, _⟩
  · simp [Builtin.append_, run_underlying ht, sizeOf, typeInfo, hi, Builtin.lenOf, Builtin.firstCells]
  · simp [Builtin.append_, run_underlying ht, sizeOf, typeInfo, hi, Builtin.lenOf, Builtin.firstCells, hnc, storeCells]

theorem run_append_any (base : Nat) (t ty e : TypeId) (i : TypeInfo) (z : Value) (size bytes : Nat) (ht : P.underlying t = some (.slice e)) (hi : P.info? e = some i) (hz : i.zero = some z)
    (hsize : i.size = size) (hby : i.bytes = bytes) (hzs : z.cells.size = size) (hsz : 0 < size)
    (v : Value) (n : Nat) (xs : List Value) (hown : w.ownsRow base e size v n xs)
    (B : Nat) (A : Option Addr) (m c : Nat) (news : List Value) (hr : Reads w B size A m news) (h1 : ∀ u ∈ news, u.oneCell' = true)
    (h63 : n + m ≤ maxLen) (hbytes : (n + m) * bytes ≤ 140737488355328) (hbase : base ≤ w.heap.size) :
    ∃ v' w', (Builtin.append_ #[t, t] ty #[v, .slice A m c]).run P w = .ok v' w' ∧ w'.ownsRow base e size v' (n + m) (xs ++ news) ∧ w.grownBy w' v.ownBlock ∧
      (v'.ownBlock = v.ownBlock ∨ v'.ownBlock = some w.heap.size) := by
  rcases A with _ | ad
  · have hm : m = 0 := by
      rcases Nat.eq_zero_or_pos m with h0 | h0
      · exact h0
      · obtain ⟨ad, h, _⟩ := hr.2 h0
        cases h
    subst hm
    have hn : news = [] := List.eq_nil_of_length_eq_zero (by simpa using hr.1)
    subst hn
    exact ⟨v, w, run_append_of_nil w base t ty e i size ht hi v n xs hown c, by simpa using hown, World.grownBy.refl w _, .inl rfl⟩
  · have hcells : ∀ j u, news[j]? = some u → w.cell? (ad.add j) = some u := by
      intro j u hu
      rcases Nat.eq_zero_or_pos m with h0 | h0
      · subst h0
        have hn : news = [] := List.eq_nil_of_length_eq_zero (by simpa using hr.1)
        subst hn
        simp at hu
      · obtain ⟨ad', h, _, hc⟩ := hr.2 h0
        injection h with h
        subst h
        exact hc j u hu
    obtain ⟨v', w', hrun, h2, h3, _, h5⟩ := run_append_own_at (P := P) w base t ty e i z size bytes ht hi hz hsize hby hzs hsz v n xs hown ad m c news hr.1 hcells h1 h63 hbytes hbase
    exact ⟨v', w', hrun, h2, h3, h5⟩

theorem wp_append_any {o : Oper} {a : Act} {K : Act → World → Prop} {Q : Exit → Act → World → Prop} (s x : Operand) (t : TypeId)
    (ho : o.op = .call { callee := .builtin .append, args := #[s, x], argTypes := #[t, t] })
    (base : Nat) (e : TypeId) (i : TypeInfo) (z : Value) (size bytes : Nat) (ht : P.underlying t = some (.slice e)) (hi : P.info? e = some i) (hz : i.zero = some z)
    (hsize : i.size = size) (hby : i.bytes = bytes) (hzs : z.cells.size = size) (hsz : 0 < size)
    (v : Value) (n : Nat) (xs : List Value) (hs : a.eval s = v) (hown : w.ownsRow base e size v n xs)
    (B : Nat) (A : Option Addr) (m c : Nat) (news : List Value) (hx : a.eval x = .slice A m c) (hr : Reads w B size A m news) (h1 : ∀ u ∈ news, u.oneCell' = true)
    (h63 : n + m ≤ maxLen) (hbytes : (n + m) * bytes ≤ 140737488355328) (hbase : base ≤ w.heap.size)
    (h : ∀ v' w', w'.ownsRow base e size v' (n + m) (xs ++ news) → w.grownBy w' v.ownBlock → (v'.ownBlock = v.ownBlock ∨ v'.ownBlock = some w.heap.size) → K (a.put o.dst v') w') : o.wp P a w K Q := by
  obtain ⟨v', w', hrun, h2, h3, h4⟩ := run_append_any (P := P) w base t o.type e i z size bytes ht hi hz hsize hby hzs hsz v n xs hown B A m c news hr h1 h63 hbytes hbase
  unfold Oper.wp execOp
  simp only [ho, resolve, invoke, builtin, Sem.run_bind, Sem.run_pure, Result.andThen_ok, List.map_toArray, List.map_cons, List.map_nil, hs, hx, hrun]
  exact h v' w' h2 h3 h4

theorem wpList_append_any {ops : Array Oper} {rest : List Oper} {o : Oper} {a : Act} {Q : Exit → Act → World → Prop} (hgd : o.guard = none) (s x : Operand) (t : TypeId)
    (ho : o.op = .call { callee := .builtin .append, args := #[s, x], argTypes := #[t, t] })
    (base : Nat) (e : TypeId) (i : TypeInfo) (z : Value) (size bytes : Nat) (ht : P.underlying t = some (.slice e)) (hi : P.info? e = some i) (hz : i.zero = some z)
    (hsize : i.size = size) (hby : i.bytes = bytes) (hzs : z.cells.size = size) (hsz : 0 < size)
    (v : Value) (n : Nat) (xs : List Value) (hs : a.eval s = v) (hown : w.ownsRow base e size v n xs)
    (B : Nat) (A : Option Addr) (m c : Nat) (news : List Value) (hx : a.eval x = .slice A m c) (hr : Reads w B size A m news) (h1 : ∀ u ∈ news, u.oneCell' = true)
    (h63 : n + m ≤ maxLen) (hbytes : (n + m) * bytes ≤ 140737488355328) (hbase : base ≤ w.heap.size)
    (h : ∀ v' w', w'.ownsRow base e size v' (n + m) (xs ++ news) → w.grownBy w' v.ownBlock → (v'.ownBlock = v.ownBlock ∨ v'.ownBlock = some w.heap.size) → wpList P ops Q rest (a.put o.dst v') w') : wpList P ops Q (o :: rest) a w :=
  wpList_plain hgd fun _ hK => wp_append_any w s x t ho base e i z size bytes ht hi hz hsize hby hzs hsz v n xs hs hown B A m c news hx hr h1 h63 hbytes hbase fun v' w' h2 h3 h4 => hK _ _ (h v' w' h2 h3 h4)

end

theorem ListAt.reads {α : Type} {enc : α → List Value} {sz : Nat} (he : ∀ x, (enc x).length = sz) (hs : 0 < sz) {w : World} {l : List α} {A : Option Addr} {c : Nat} (h : ListAt enc sz w (.slice A l.length c) l) : Reads w w.heap.size sz A l.length (rowOf enc l) := by
  obtain ⟨A', c', e, h1, h2, h3⟩ := h
  simp only [Value.slice.injEq, true_and] at e
  obtain ⟨rfl, rfl⟩ := e
  refine ⟨rowOf_length he l, fun h0 => ?_⟩
  obtain ⟨g, o, rfl, hg, hc⟩ := h3 h0
  refine ⟨_, rfl, hg, fun j u hj => ?_⟩
  have hadd : (⟨g, o, none⟩ : Addr).add j = ⟨g, o + j, none⟩ := by unfold Addr.add; split <;> simp_all
  rw [hadd]
  have hjl : j < l.length * sz := by
    have := (List.getElem?_eq_some_iff.1 hj).1
    rwa [rowOf_length he] at this
  have hi : j / sz < l.length := Nat.div_lt_of_lt_mul (by rw [Nat.mul_comm]; exact hjl)
  have hr : j % sz < sz := Nat.mod_lt _ hs
  have hjj : j = j / sz * sz + j % sz := by have := Nat.div_add_mod j sz; rw [Nat.mul_comm] at this; omega
  rw [hjj] at hj ⊢
  rw [rowOf_get he l _ hi _ hr] at hj
  have := hc _ hi _ _ hj
  rw [Nat.add_assoc] at this
  exact this
theorem rowOf_one {α : Type} {enc : α → List Value} (h : ∀ x, ∀ u ∈ enc x, u.oneCell' = true) (l : List α) : ∀ u ∈ rowOf enc l, u.oneCell' = true := by
  intro u hu
  unfold rowOf at hu
  obtain ⟨x, _, hx⟩ := List.mem_flatMap.1 hu
  exact h x u hx
theorem runsAt_of_list {w : World} {v : Value} {l : List RunD} (h : ListAt encRun 3 w v l) (hl : l.length ≤ 5864062014805) (ho : ∀ r ∈ l, r.Ok) : RunsAt w v l := by
  obtain ⟨A, c, h1, h2, h3, h4⟩ := h
  refine ⟨A, c, h1, h2, h3, hl, ho, fun h0 => ?_⟩
  obtain ⟨g, o, e, hg, hc⟩ := h4 h0
  exact ⟨g, o, e, hg, fun i hi => ⟨hc i hi 0 _ rfl, hc i hi 1 _ rfl, hc i hi 2 _ rfl⟩⟩
end Go.Proofs.YtabebkffcmajkaaGreatDoor

/-! Walks of the law's own: small, copyNode, sameNode. -/
namespace Go.Proofs.YtabebkffcmajkaaGreatDoor
open Go.RowKit Go.Maps Go.Shelf
attribute [local go_sem] quietV loudUpon Oper.semAt_some

def smallB (n : NodeD) : Bool := decide (n.map.length ≤ 2000) && (decide (n.names.length ≤ 2000) && decide (n.log.length ≤ 2000))
/-- a node's lists, as they are handed in -/
structure NodeIn (w : World) (n : NodeD) (vm vn vl : Value) : Prop where
  map : ListAt encRun 3 w vm n.map
  names : ListAt encDent 2 w vn n.names
  log : ListAt encInt 1 w vl n.log
  runs : ∀ r ∈ n.map, r.Ok
  kind : I64 n.kind
  size : I64 n.size
theorem NodeIn.kept {w w' : World} {n : NodeD} {vm vn vl : Value} (h : NodeIn w n vm vn vl) (hm : Mod None_ w w') : NodeIn w' n vm vn vl := ⟨h.map.kept hm, h.names.kept hm, h.log.kept hm, h.runs, h.kind, h.size⟩
theorem NodeIn.at_ {w : World} {n : NodeD} {vm vn vl : Value} (h : NodeIn w n vm vn vl) (hs : smallB n = true) : NodeAt w n vm vn vl := by
  simp only [smallB, Bool.and_eq_true, decide_eq_true_eq] at hs
  exact ⟨runsAt_of_list h.map (by omega) h.runs, h.names, h.log, h.kind, h.size, by omega⟩
theorem NodeAt.in_ {w : World} {n : NodeD} {vm vn vl : Value} (h : NodeAt w n vm vn vl) : NodeIn w n vm vn vl := ⟨h.map.list, h.names, h.log, by obtain ⟨_, _, _, _, _, _, ho, _⟩ := h.map; exact ho, h.kind, h.size⟩

set_option maxRecDepth 100000 in
theorem lawSmall (w : World) (n : NodeD) (vm vn vl : Value) (h : NodeIn w n vm vn vl) : Calls Tryz.prog 6 #[.agg (nodeC n vm vn vl)] w (BoolPost w (smallB n)) := by
  obtain ⟨Am, cm, rfl, hcm1, hcm2, _⟩ := h.map
  obtain ⟨An, cn, rfl, hcn1, hcn2, _⟩ := h.names
  obtain ⟨Al, cl, rfl, hcl1, hcl2, _⟩ := h.log
  unfold maxLen at *
  have hln : ∀ w, (Builtin.len_ #[31] 3 #[.slice An n.names.length cn]).run Tryz.prog w = .ok (.int .i64 n.names.length) w := fun w => by simp [Builtin.len_, run_underlying Tryz.underlying31]; rfl
  have hlm : ∀ w, (Builtin.len_ #[30] 3 #[.slice Am n.map.length cm]).run Tryz.prog w = .ok (.int .i64 n.map.length) w := fun w => by simp [Builtin.len_, run_underlying Tryz.underlying30]; rfl
  have hll : ∀ w, (Builtin.len_ #[32] 3 #[.slice Al n.log.length cl]).run Tryz.prog w = .ok (.int .i64 n.log.length) w := fun w => by simp [Builtin.len_, run_underlying Tryz.underlying32]; rfl
  have HM : Hid (Mod None_ w (w.alloc (.cells (nodeC n (.slice Am n.map.length cm) (.slice An n.names.length cn) (.slice Al n.log.length cl)) 34))) := hide ((Mod.refl None_ w).alloc _)
  unfold nodeC at *
  by_cases h1 : n.map.length ≤ 2000
  · have d1 : decide ((n.map.length : Int) ≤ 2000) = true := decide_eq_true (by omega)
    by_cases h2 : n.names.length ≤ 2000
    · have d2 : decide ((n.names.length : Int) ≤ 2000) = true := decide_eq_true (by omega)
      by_cases h3 : n.log.length ≤ 2000
      · have d3 : decide ((n.log.length : Int) ≤ 2000) = true := decide_eq_true (by omega)
        have e : smallB n = true := by unfold smallB; rw [decide_eq_true h1, decide_eq_true h2, decide_eq_true h3]; rfl
        rw [e]
        clear e
        go_enter Tryz.func6, Tryz.ntmps6
        go_wp2
        go_ret
        exact ⟨rfl, HM.out⟩
      · have d3 : decide ((n.log.length : Int) ≤ 2000) = false := decide_eq_false (by omega)
        have e : smallB n = false := by unfold smallB; rw [decide_eq_false h3]; simp
        rw [e]
        clear e
        go_enter Tryz.func6, Tryz.ntmps6
        go_wp2
        go_ret
        exact ⟨rfl, HM.out⟩
    · have d2 : decide ((n.names.length : Int) ≤ 2000) = false := decide_eq_false (by omega)
      have e : smallB n = false := by unfold smallB; rw [decide_eq_false h2]; simp
      rw [e]
      clear e
      go_enter Tryz.func6, Tryz.ntmps6
      go_wp2
      go_ret
      exact ⟨rfl, HM.out⟩
  · have d1 : decide ((n.map.length : Int) ≤ 2000) = false := decide_eq_false (by omega)
    have e : smallB n = false := by unfold smallB; rw [decide_eq_false h1]; simp
    rw [e]
    clear e
    go_enter Tryz.func6, Tryz.ntmps6
    go_wp2
    go_ret
    exact ⟨rfl, HM.out⟩
end Go.Proofs.YtabebkffcmajkaaGreatDoor

/-! Walk of the law's own: copyNode. -/
namespace Go.Proofs.YtabebkffcmajkaaGreatDoor
open Go.RowKit Go.Maps Go.Shelf
attribute [local go_sem] quietV loudUpon Oper.semAt_some

/-- a node whose lists are its own, from block `base` on -/
structure NodeOwn (base : Nat) (w : World) (n : NodeD) (vm vn vl : Value) : Prop where
  map : w.ownsRow base 73 3 vm n.map.length (rowOf encRun n.map)
  names : w.ownsRow base 75 2 vn n.names.length (rowOf encDent n.names)
  log : w.ownsRow base 3 1 vl n.log.length (rowOf encInt n.log)
theorem own_base {w : World} {b b' sz n : Nat} {e : TypeId} {v : Value} {xs : List Value} (h : w.ownsRow b e sz v n xs) (hb : b' ≤ b) : w.ownsRow b' e sz v n xs := by
  refine ⟨h.1, ?_⟩
  rcases h.2 with h2 | ⟨g, cap, cur, h1, h2, h3⟩
  · exact .inl h2
  · exact .inr ⟨g, cap, cur, h1, by omega, h3⟩
theorem NodeOwn.kept {b : Nat} {w w' : World} {n : NodeD} {vm vn vl : Value} (h : NodeOwn b w n vm vn vl) (hm : Mod None_ w w') : NodeOwn b w' n vm vn vl :=
  ⟨own_mod h.map hm (fun _ _ f => f), own_mod h.names hm (fun _ _ f => f), own_mod h.log hm (fun _ _ f => f)⟩
theorem NodeOwn.in_ {b : Nat} {w w0 : World} {n : NodeD} {vm vn vl vm0 vn0 vl0 : Value} (h : NodeOwn b w n vm vn vl) (h0 : NodeIn w0 n vm0 vn0 vl0) : NodeIn w n vm vn vl :=
  ⟨list_of_ownRow (enc := encRun) (fun _ => rfl) h.map, list_of_ownRow (enc := encDent) (fun _ => rfl) h.names, list_of_ownRow (enc := encInt) (fun _ => rfl) h.log, h0.runs, h0.kind, h0.size⟩
theorem oneDent : ∀ (s : ByteArray × Int), ∀ u ∈ encDent s, u.oneCell' = true := by
  intro s u hu
  simp only [encDent, List.mem_cons, List.not_mem_nil, or_false] at hu
  rcases hu with rfl | rfl <;> rfl
def zeroNode : Array Value := #[.int .i64 0, .int .i64 0, .int .i64 0, .int .i64 0, .slice none 0 0, .slice none 0 0, .int .i64 0, .int .i64 0, .slice none 0 0, .int .i64 0]
theorem infoNode (n : NodeD) (vm vn vl : Value) : (Tryz.prog.info? 34).map (·.size) = some (nodeC n vm vn vl).size := by show _ = some 10; kernel_rfl
theorem zeroNodeV (w : World) : (zeroValue 34).run Tryz.prog w = .ok (.agg zeroNode) w := by kernel_rfl
theorem nodeC_size (n : NodeD) (vm vn vl : Value) : zeroNode.size = (nodeC n vm vn vl).size := rfl
def CopyPost (w : World) (n : NodeD) : Ending → World → Prop := fun e w' => ∃ vm vn vl, e = .returned (.agg (nodeC n vm vn vl)) ∧ NodeOwn w.heap.size w' n vm vn vl ∧ Mod None_ w w'

set_option maxRecDepth 100000 in
set_option maxHeartbeats 1000000 in
theorem lawCopy (w : World) (n : NodeD) (vm vn vl : Value) (h : NodeIn w n vm vn vl) (hs : smallB n = true) : Calls Tryz.prog 7 #[.agg (nodeC n vm vn vl)] w (CopyPost w n) := by
  simp only [smallB, Bool.and_eq_true, decide_eq_true_eq] at hs
  obtain ⟨hs1, hs2, hs3⟩ := hs
  obtain ⟨Am, cm, rfl, hcm1, hcm2, _⟩ := h.map
  obtain ⟨An, cn, rfl, hcn1, hcn2, _⟩ := h.names
  obtain ⟨Al, cl, rfl, hcl1, hcl2, _⟩ := h.log
  obtain ⟨im, him, hzm, hsm, hbm⟩ := info_parts infoRun
  obtain ⟨id_, hid, hzd, hsd, hbd⟩ := info_parts info36
  obtain ⟨ii, hii, hzi, hsi, hbi⟩ := info_parts infoInt
  have HN := hide h
  clear h
  unfold nodeC
  go_enter Tryz.func7, Tryz.ntmps7
  obtain ⟨m, hm⟩ : ∃ m, m = w.heap.size := ⟨_, rfl⟩
  obtain ⟨z, hz⟩ : ∃ z : Array Value, z = zeroNode := ⟨_, rfl⟩
  obtain ⟨w1, hw1⟩ : ∃ w1, w1 = (w.alloc (.cells (nodeC n (.slice Am n.map.length cm) (.slice An n.names.length cn) (.slice Al n.log.length cl)) 34)).alloc (.cells z 34) := ⟨_, rfl⟩
  have hM : Mod None_ w w1 := by rw [hw1]; exact ((Mod.refl _ w).alloc _).alloc _
  have b1 : Blk w1 m 34 (nodeC n (.slice Am n.map.length cm) (.slice An n.names.length cn) (.slice Al n.log.length cl)) := by rw [hw1, hm]; exact (Blk.new w 34 _).alloc _
  have b2 : Blk w1 (m + 1) 34 zeroNode := by
    have := Blk.new (w.alloc (.cells (nodeC n (.slice Am n.map.length cm) (.slice An n.names.length cn) (.slice Al n.log.length cl)) 34)) 34 z
    rw [← hw1, alloc_size, ← hm, hz] at this
    exact this
  have hb2 := b2.lt
  have hgem : w.heap.size ≤ m := by omega
  have hgem2 : m ≤ w.heap.size := by omega
  rw [hz] at hw1
  unfold nodeC zeroNode at hw1
  have HW1 := hide hw1
  have HMM := hide hm
  clear hw1 hm
  go_upto_region 4 with fail
  rw [← HMM.out, ← HW1.out]
  clear HMM HW1
  have hle0 : w1.heap.size ≤ w1.heap.size := Nat.le_refl _
  have c4 : w1.cell? ⟨m, 4, none⟩ = some (.slice Am n.map.length cm) := b1.cell 4
  have HR0 := hide (ListAt.reads (enc := encRun) (fun _ => rfl) (by decide) (HN.out.kept hM).map)
  go_upto_region 5 with ((with_reducible refine at_slot 9 ?_); refine wpList_append_any _ rfl (.tmp 6) (.tmp 8) 30 rfl w1.heap.size 73 im _ 3 24 Tryz.underlying30 him hzm hsm hbm rfl (by decide) (.slice none 0 0) 0 [] rfl ⟨rfl, .inl ⟨rfl, rfl⟩⟩ w1.heap.size Am n.map.length cm (rowOf encRun n.map) rfl HR0.out (rowOf_one oneRun n.map) (by unfold maxLen; omega) (by omega) hle0 ?_; intro v9 w9 hown9 hg9 hat9
                         rw [Nat.zero_add, List.nil_append] at hown9
                         have hmx : Mod None_ w1 w9 := (Mod.of_grown hg9).mono (fun _ _ e => by cases e)
                         have b9 := b1.mod hmx id
                         have c9 : w9.cell? ⟨m, 4, none⟩ = some (.slice Am n.map.length cm) := b9.cell 4
                         have f9 : w9.frozen? ⟨m, 4, none⟩ = false := b9.frozen _
                         obtain ⟨A90, k90, rfl⟩ := own_slice hown9
                         have HG0 := hide hg9
                         have HA0 := hide hat9
                         clear hg9 hat9
                         go_frame)
  obtain ⟨w20, hw20⟩ : ∃ x, x = w9.setCell ⟨m, 4, none⟩ (.slice A90 n.map.length k90) := ⟨_, rfl⟩
  rw [← hw20]
  have hms0 : Mod (· = m) w9 w20 := by rw [hw20]; exact (Mod.refl (· = m) w9).setCell (p := ⟨m, 4, none⟩) (.inr rfl) _
  have b20 : Blk w20 m 34 (nodeC n (.slice A90 n.map.length k90) (.slice An n.names.length cn) (.slice Al n.log.length cl)) := by
    have := b9.set_ 4 (.slice A90 n.map.length k90)
    rw [← hw20] at this
    exact this
  have hM1 : Mod None_ w w20 := (hM.trans hmx).trans' hms0 (fun g hg e => by omega)
  have hown20 := own_mod hown9 hms0 (fun g hg e => by have := (own_blk hown9 hg).1; omega)
  have hsz1 : w1.heap.size ≤ w20.heap.size := Nat.le_trans hle0 (Nat.le_trans hmx.size hms0.size)
  have hz0 := (b2.mod hmx id).mod hms0 (by omega)
  have b2 := hz0
  clear hw20 hms0 b9 c9 f9 hown9 hmx c4 HR0 HG0 HA0 hle0 b1
  have hle1 : w1.heap.size ≤ w20.heap.size := hsz1
  have c5 : w20.cell? ⟨m, 5, none⟩ = some (.slice An n.names.length cn) := b20.cell 5
  have HR1 := hide (ListAt.reads (enc := encDent) (fun _ => rfl) (by decide) (HN.out.kept hM1).names)
  go_upto_region 6 with ((with_reducible refine at_slot 14 ?_); refine wpList_append_any _ rfl (.tmp 11) (.tmp 13) 31 rfl w1.heap.size 75 id_ _ 2 24 Tryz.underlying31 hid hzd hsd hbd rfl (by decide) (.slice none 0 0) 0 [] rfl ⟨rfl, .inl ⟨rfl, rfl⟩⟩ w20.heap.size An n.names.length cn (rowOf encDent n.names) rfl HR1.out (rowOf_one oneDent n.names) (by unfold maxLen; omega) (by omega) hle1 ?_; intro v9 w9 hown9 hg9 hat9
                         rw [Nat.zero_add, List.nil_append] at hown9
                         have hmx : Mod None_ w20 w9 := (Mod.of_grown hg9).mono (fun _ _ e => by cases e)
                         have b9 := b20.mod hmx id
                         have c9 : w9.cell? ⟨m, 5, none⟩ = some (.slice An n.names.length cn) := b9.cell 5
                         have f9 : w9.frozen? ⟨m, 5, none⟩ = false := b9.frozen _
                         obtain ⟨A91, k91, rfl⟩ := own_slice hown9
                         have HG1 := hide hg9
                         have HA1 := hide hat9
                         clear hg9 hat9
                         go_frame)
  obtain ⟨w21, hw21⟩ : ∃ x, x = w9.setCell ⟨m, 5, none⟩ (.slice A91 n.names.length k91) := ⟨_, rfl⟩
  rw [← hw21]
  have hms1 : Mod (· = m) w9 w21 := by rw [hw21]; exact (Mod.refl (· = m) w9).setCell (p := ⟨m, 5, none⟩) (.inr rfl) _
  have b21 : Blk w21 m 34 (nodeC n (.slice A90 n.map.length k90) (.slice A91 n.names.length k91) (.slice Al n.log.length cl)) := by
    have := b9.set_ 5 (.slice A91 n.names.length k91)
    rw [← hw21] at this
    exact this
  have hM2 : Mod None_ w w21 := (hM1.trans hmx).trans' hms1 (fun g hg e => by omega)
  have hown21 := own_mod hown9 hms1 (fun g hg e => by have := (own_blk hown9 hg).1; omega)
  have hsz2 : w1.heap.size ≤ w21.heap.size := Nat.le_trans hle1 (Nat.le_trans hmx.size hms1.size)
  have hown20 := own_mod (own_mod hown20 hmx (fun _ _ f => f)) hms1 (fun g hg e => by have := (own_blk hown20 hg).1; omega)
  have hz1 := (b2.mod hmx id).mod hms1 (by omega)
  have b2 := hz1
  clear hw21 hms1 b9 c9 f9 hown9 hmx c5 HR1 HG1 HA1 hle1 b20
  have hle2 : w1.heap.size ≤ w21.heap.size := hsz2
  have c8 : w21.cell? ⟨m, 8, none⟩ = some (.slice Al n.log.length cl) := b21.cell 8
  have HR2 := hide (ListAt.reads (enc := encInt) (fun _ => rfl) (by decide) (HN.out.kept hM2).log)
  go_upto_region 7 with ((with_reducible refine at_slot 19 ?_); refine wpList_append_any _ rfl (.tmp 16) (.tmp 18) 32 rfl w1.heap.size 3 ii _ 1 8 Tryz.underlying32 hii hzi hsi hbi rfl (by decide) (.slice none 0 0) 0 [] rfl ⟨rfl, .inl ⟨rfl, rfl⟩⟩ w21.heap.size Al n.log.length cl (rowOf encInt n.log) rfl HR2.out (rowOf_one oneInt n.log) (by unfold maxLen; omega) (by omega) hle2 ?_; intro v9 w9 hown9 hg9 hat9
                         rw [Nat.zero_add, List.nil_append] at hown9
                         have hmx : Mod None_ w21 w9 := (Mod.of_grown hg9).mono (fun _ _ e => by cases e)
                         have b9 := b21.mod hmx id
                         have c9 : w9.cell? ⟨m, 8, none⟩ = some (.slice Al n.log.length cl) := b9.cell 8
                         have f9 : w9.frozen? ⟨m, 8, none⟩ = false := b9.frozen _
                         obtain ⟨A92, k92, rfl⟩ := own_slice hown9
                         have HG2 := hide hg9
                         have HA2 := hide hat9
                         clear hg9 hat9
                         go_frame)
  obtain ⟨w22, hw22⟩ : ∃ x, x = w9.setCell ⟨m, 8, none⟩ (.slice A92 n.log.length k92) := ⟨_, rfl⟩
  rw [← hw22]
  have hms2 : Mod (· = m) w9 w22 := by rw [hw22]; exact (Mod.refl (· = m) w9).setCell (p := ⟨m, 8, none⟩) (.inr rfl) _
  have b22 : Blk w22 m 34 (nodeC n (.slice A90 n.map.length k90) (.slice A91 n.names.length k91) (.slice A92 n.log.length k92)) := by
    have := b9.set_ 8 (.slice A92 n.log.length k92)
    rw [← hw22] at this
    exact this
  have hM3 : Mod None_ w w22 := (hM2.trans hmx).trans' hms2 (fun g hg e => by omega)
  have hown22 := own_mod hown9 hms2 (fun g hg e => by have := (own_blk hown9 hg).1; omega)
  have hsz3 : w1.heap.size ≤ w22.heap.size := Nat.le_trans hle2 (Nat.le_trans hmx.size hms2.size)
  have hown20 := own_mod (own_mod hown20 hmx (fun _ _ f => f)) hms2 (fun g hg e => by have := (own_blk hown20 hg).1; omega)
  have hown21 := own_mod (own_mod hown21 hmx (fun _ _ f => f)) hms2 (fun g hg e => by have := (own_blk hown21 hg).1; omega)
  have hz2 := (b2.mod hmx id).mod hms2 (by omega)
  have b2 := hz2
  clear hw22 hms2 b9 c9 f9 hown9 hmx c8 HR2 HG2 HA2 hle2 b21
  have hi10 : (Tryz.prog.info? 34).map (·.size) = some (nodeC n (.slice A90 n.map.length k90) (.slice A91 n.names.length k91) (.slice A92 n.log.length k92)).size := by show _ = some 10; kernel_rfl
  have hone : (nodeC n (.slice A90 n.map.length k90) (.slice A91 n.names.length k91) (.slice A92 n.log.length k92)).all (·.oneCell') = true := by simp [nodeC, Value.oneCell']
  go_wp2_with (first
    | ((with_reducible refine at_slot 21 ?_); refine wpList_val rfl (ex_load rfl (run_loadRow b22 Tryz.underlying34 rfl hi10)) ?_; go_frame)
    | ((with_reducible refine at_none 34 2 21 ?_); refine wpList_store_row rfl 34 (.tmp 2) (.tmp 21) rfl (m + 1) (nodeC n (.slice A90 n.map.length k90) (.slice A91 n.names.length k91) (.slice A92 n.log.length k92)) rfl rfl 34 zeroNode b2 hi10 rfl hone ?_; go_frame))
  have b3 := b2.row (nodeC n (.slice A90 n.map.length k90) (.slice A91 n.names.length k91) (.slice A92 n.log.length k92))
  have hl := run_loadVar_row (P := Tryz.prog) _ (m + 1) 34 34 _ (0, 0) _ b3 Tryz.underlying34 rfl hi10
  have hmr : Mod (· = m + 1) w22 (w22.setRow (m + 1) (nodeC n (.slice A90 n.map.length k90) (.slice A91 n.names.length k91) (.slice A92 n.log.length k92))) := (Mod.refl (· = m + 1) w22).setRow (.inr rfl) _
  refine ⟨rfl, .agg (nodeC n (.slice A90 n.map.length k90) (.slice A91 n.names.length k91) (.slice A92 n.log.length k92)), ?_, ?_⟩
  · simp [results, Tryz.results7, asAddr, hl]
  · refine ⟨_, _, _, rfl, ⟨?_, ?_, ?_⟩, hM3.trans' hmr (fun g hg e => by omega)⟩
    · exact own_base (own_mod hown20 hmr (fun g hg e => by have := (own_blk hown20 hg).1; omega)) (by omega)
    · exact own_base (own_mod hown21 hmr (fun g hg e => by have := (own_blk hown21 hg).1; omega)) (by omega)
    · exact own_base (own_mod hown22 hmr (fun g hg e => by have := (own_blk hown22 hg).1; omega)) (by omega)
end Go.Proofs.YtabebkffcmajkaaGreatDoor

/-! Walk of the law's own: sameNode, of equal nodes. -/
namespace Go.Proofs.YtabebkffcmajkaaGreatDoor
open Go.RowKit Go.Maps Go.Shelf
attribute [local go_sem] quietV loudUpon Oper.semAt_some

set_option maxRecDepth 100000 in
set_option maxHeartbeats 1000000 in
theorem lawSameNode (w : World) (n : NodeD) (vm vn vl vm' vn' vl' : Value) (h : NodeIn w n vm vn vl) (h' : NodeIn w n vm' vn' vl') : Calls Tryz.prog 10 #[.agg (nodeC n vm vn vl), .agg (nodeC n vm' vn' vl')] w (BoolPost w true) := by
  obtain ⟨m, hm⟩ : ∃ m, m = w.heap.size := ⟨_, rfl⟩
  obtain ⟨w1, hw1⟩ : ∃ w1, w1 = (w.alloc (.cells (nodeC n vm vn vl) 34)).alloc (.cells (nodeC n vm' vn' vl') 34) := ⟨_, rfl⟩
  have hM : Mod None_ w w1 := by rw [hw1]; exact ((Mod.refl _ w).alloc _).alloc _
  have b1 : Blk w1 m 34 (nodeC n vm vn vl) := by rw [hw1, hm]; exact (Blk.new w 34 _).alloc _
  have b2 : Blk w1 (m + 1) 34 (nodeC n vm' vn' vl') := by
    have := Blk.new (w.alloc (.cells (nodeC n vm vn vl) 34)) 34 (nodeC n vm' vn' vl')
    rw [← hw1, alloc_size, ← hm] at this
    exact this
  have H1 := hide (lawSameRuns w1 _ _ _ _ (h.map.kept hM) (h'.map.kept hM))
  have HN := hide h
  have HN' := hide h'
  unfold nodeC at hw1
  have HW1 := hide hw1
  have HMM := hide hm
  clear hw1 hm h h'
  have c4 : w1.cell? ⟨m, 4, none⟩ = some vm := b1.cell 4
  have c4' : w1.cell? ⟨m + 1, 4, none⟩ = some vm' := b2.cell 4
  unfold nodeC
  go_enter Tryz.func10, Tryz.ntmps10
  go_upto_region 3 with fail
  rw [← HMM.out, ← HW1.out]
  clear HMM HW1
  go_wp2_with fail
  refine Calls.mono H1.out ?_
  rintro e w2 ⟨rfl, hm2⟩
  have b12 := b1.mod hm2 id
  have b22 := b2.mod hm2 id
  have hM2 := hM.trans hm2
  have H2 := hide (lawSameDents w2 _ _ _ _ (HN.out.names.kept hM2) (HN'.out.names.kept hM2))
  have c5 : w2.cell? ⟨m, 5, none⟩ = some vn := b12.cell 5
  have c5' : w2.cell? ⟨m + 1, 5, none⟩ = some vn' := b22.cell 5
  simp only [decide_true]
  clear c4 c4' b1 b2 hM hm2 H1
  go_wp2_with fail
  refine Calls.mono H2.out ?_
  rintro e w3 ⟨rfl, hm3⟩
  have b13 := b12.mod hm3 id
  have b23 := b22.mod hm3 id
  have hM3 := hM2.trans hm3
  have H3 := hide (lawSameNumbers w3 _ _ _ _ (HN.out.log.kept hM3) (HN'.out.log.kept hM3))
  have c8 : w3.cell? ⟨m, 8, none⟩ = some vl := b13.cell 8
  have c8' : w3.cell? ⟨m + 1, 8, none⟩ = some vl' := b23.cell 8
  simp only [decide_true]
  clear c5 c5' b12 b22 hM2 hm3 H2
  go_wp2_with fail
  refine Calls.mono H3.out ?_
  rintro e w4 ⟨rfl, hm4⟩
  have hM4 := hM3.trans hm4
  simp only [decide_true]
  clear c8 c8' b13 b23 hM3 hm4 H3
  go_wp2
  go_ret
  exact ⟨rfl, hM4⟩
end Go.Proofs.YtabebkffcmajkaaGreatDoor

/-! An argument that is a node, opened. -/
namespace Go.Proofs.YtabebkffcmajkaaGreatDoor
open Go.RowKit Go.Maps Go.ChangeShapes Go.WideShapes Go.Deep

theorem list_of {α : Type} {P : Nat → α → Prop} : ∀ n, (∀ i, i < n → ∃ x, P i x) → ∃ l : List α, l.length = n ∧ ∀ i (h : i < l.length), P i l[i]
  | 0, _ => ⟨[], rfl, by simp⟩
  | n + 1, h => by
    obtain ⟨l, hl, hp⟩ := list_of n (fun i hi => h i (by omega))
    obtain ⟨x, hx⟩ := h n (by omega)
    refine ⟨l ++ [x], by simp [hl], fun i hi => ?_⟩
    by_cases e : i < l.length
    · rw [List.getElem_append_left e]; exact hp i e
    · have : i = n := by simp at hi; omega
      subst this
      rw [List.getElem_append_right (by omega)]
      simp [hl]; exact hx
theorem i64_of {x : Int} (h : (Lit.int .i64 x).wf = true) : I64 x := by
  simp [Lit.wf, IntKind.min, IntKind.max, IntKind.signed, IntKind.bits] at h
  exact h
theorem spot_of {w : World} {a : Addr} {v : Value} (h : w.cell? a = some v) : a.spot = none := by
  unfold World.cell? at h
  split at h
  · split at h
    · cases h
    · rename_i h3; simpa using h3
  · cases h

theorem bulk_one_le {H : Type} (d : DataW H) : 1 ≤ Rows.uptoBulk d := by
  cases d with
  | lit l => cases l <;> simp [Rows.uptoBulk]
  | nil => simp [Rows.uptoBulk]
  | ptr d => simp [Rows.uptoBulk]
  | slice elems spare => simp [Rows.uptoBulk]
  | agg parts => simp [Rows.uptoBulk]
  | iface t d => simp [Rows.uptoBulk]
  | map entries => simp [Rows.uptoBulk]
  | held h => simp [Rows.uptoBulk]
theorem bulk_part_le {H : Type} {d : DataW H} {l : List (DataW H)} (h : d ∈ l) : Rows.uptoBulk d ≤ Rows.uptoBulkAll l := by
  induction l with
  | nil => cases h
  | cons x r ih =>
    simp only [Rows.uptoBulkAll]
    cases List.mem_cons.1 h with
    | inl e => subst e; omega
    | inr e => have := ih e; omega
theorem bulk_length_le {H : Type} (l : List (DataW H)) : l.length ≤ Rows.uptoBulkAll l := by
  induction l with
  | nil => simp [Rows.uptoBulkAll]
  | cons x r ih => have := bulk_one_le x; simp only [Rows.uptoBulkAll, List.length_cons]; omega
theorem bulk_slice_le {H : Type} (elems spare : List (DataW H)) : elems.length ≤ Rows.uptoBulk (.slice elems spare) := by
  have h1 := bulk_length_le elems
  simp only [Rows.uptoBulk]
  omega
theorem bulk_bound {H : Type} {l : List (DataW H)} (hk : Rows.uptoSmall H l = true) : Rows.uptoBulkAll l ≤ 1048576 := of_decide_eq_true hk
section
variable {H : Type} {ec : TypeId × Value → H} {W : World} {base : Nat} {spare : Nat → Bool} {held : Bool}
theorem open_list {α : Type} (enc : α → List Value) (Q : α → Prop) (sz : Nat) (hs : 0 < sz) {tS tE : TypeId} (ht : Tryz.prog.underlying tS = some (.slice tE)) (hC : Tryz.prog.cellsOf tE = sz) (he : ∀ y, (enc y).length = sz)
    (hdec : ∀ n cs x, DataW.trod ec Tryz.prog W base spare held n tE cs = some x → ∃ y : α, cs = enc y ∧ Q y)
    {fuel : Nat} {cv : Value} {x : DataW H × List MemPlace} (h : DataW.trod ec Tryz.prog W base spare held fuel tS [cv] = some x) : ∃ l : List α, ListAt enc sz W cv l ∧ (∀ y ∈ l, Q y) ∧ l.length ≤ Rows.uptoBulk x.1 := by
  rcases open_slice ht h with ⟨h0, _⟩ | ⟨a, len, cap, m, n, D, Pl, hcs, hb, hl, hm, hmm, hx, hi⟩
  · simp only [List.cons.injEq, and_true] at h0
    subst h0
    exact ⟨[], ⟨none, 0, rfl, Nat.le_refl _, by unfold maxLen; omega, fun h => by simp at h⟩, by simp, Nat.zero_le _⟩
  · simp only [List.cons.injEq, and_true] at hcs
    subst hcs
    have hlm : len ≤ m := by rw [hmm]; split <;> omega
    obtain ⟨l, hll, hp⟩ := list_of (P := fun i (y : α) => Q y ∧ ∀ j u, (enc y)[j]? = some u → W.cell? (a.add (i * sz + j)) = some u) len (fun i hi' => by
      obtain ⟨cs', hc, ht'⟩ := hi i (Nat.lt_of_lt_of_le hi' hlm)
      rw [hC] at hc
      obtain ⟨y, rfl, hq⟩ := hdec _ _ _ ht'
      obtain ⟨_, hcl, hat⟩ := World.cells?_some hc
      refine ⟨y, hq, fun j u hj => ?_⟩
      have hjl : j < sz := by have := (List.getElem?_eq_some_iff.1 hj).1; rwa [he] at this
      have hcell := hat j hjl
      rw [← Go.Deep.add_add, hcell, hj])
    subst hll
    refine ⟨l, ⟨some a, cap, rfl, hl, hm, fun h0 => ?_⟩, fun y hy => ?_, ?_⟩
    · obtain ⟨q0, c0⟩ := hp 0 h0
      have hz : 0 < (enc l[0]).length := by rw [he]; exact hs
      have c00 := c0 0 _ (List.getElem?_eq_getElem hz)
      have h2 : a.add (0 * sz + 0) = a := by rw [Nat.zero_mul]; rfl
      rw [h2] at c00
      have hsp := spot_of c00
      have hg := block_lt_of_cell c00
      obtain ⟨g, o, sp⟩ := a
      simp only at hsp
      subst hsp
      have hadd : ∀ n, (⟨g, o, none⟩ : Addr).add n = ⟨g, o + n, none⟩ := fun n => by unfold Addr.add; split <;> simp_all
      refine ⟨g, o, rfl, hg, fun i hi' j u hj => ?_⟩
      have := (hp i hi').2 j u hj
      rw [hadd, ← Nat.add_assoc] at this
      exact this
    · obtain ⟨i, hi', rfl⟩ := List.getElem_of_mem hy
      exact (hp i hi').1
    · rw [hx]
      refine Nat.le_trans (Nat.le_of_eq ?_) (bulk_slice_le _ _)
      simp
theorem cellsRun : Tryz.prog.cellsOf 73 = 3 := by kernel_rfl
theorem cellsDent : Tryz.prog.cellsOf 75 = 2 := by kernel_rfl
theorem cellsInt : Tryz.prog.cellsOf 3 = 1 := by kernel_rfl
theorem cellsStr : Tryz.prog.cellsOf 9 = 1 := by kernel_rfl
theorem cellsNode : Tryz.prog.cellsOf 34 = 10 := by kernel_rfl
theorem cellsLR : Tryz.prog.cellsOf 30 = 1 := by kernel_rfl
theorem cellsLD : Tryz.prog.cellsOf 31 = 1 := by kernel_rfl
theorem cellsLI : Tryz.prog.cellsOf 32 = 1 := by kernel_rfl
theorem dec_int {n : Nat} {cs : List Value} {x : DataW H × List MemPlace} (h : DataW.trod ec Tryz.prog W base spare held n 3 cs = some x) : ∃ y : Int, cs = encInt y ∧ I64 y := by
  obtain ⟨y, rfl, _, w0⟩ := DataW.trod_int Tryz.underlying3 h
  exact ⟨y, rfl, i64_of w0⟩
set_option maxRecDepth 100000 in
theorem dec_run {n : Nat} {cs : List Value} {x : DataW H × List MemPlace} (h : DataW.trod ec Tryz.prog W base spare held n 73 cs = some x) : ∃ y : RunD, cs = encRun y ∧ y.Ok := by
  obtain ⟨ys, n', hn', hy, hlen, hyl, hf⟩ := DataW.trod_struct Tryz.underlying73 h
  rw [cellsRun] at hlen
  match cs, hlen with
  | [a, b, c], _ =>
    have t0 := hf 0 _ rfl
    have t1 := hf 1 _ rfl
    have t2 := hf 2 _ rfl
    simp only [List.getElem_toArray, List.getElem_cons_zero, List.getElem_cons_succ, cellsInt, List.drop_zero, List.take_succ_cons, List.take_zero, List.drop_succ_cons] at t0 t1 t2
    match ys, hyl with
    | [y0, y1, y2], _ =>
      obtain ⟨x0, q0, w0⟩ := dec_int (t0.trans rfl)
      obtain ⟨x1, q1, w1⟩ := dec_int (t1.trans rfl)
      obtain ⟨x2, q2, w2⟩ := dec_int (t2.trans rfl)
      simp only [encInt, List.cons.injEq, and_true] at q0 q1 q2
      subst q0 q1 q2
      exact ⟨⟨x0, x1, x2⟩, rfl, w0, w1, w2⟩
set_option maxRecDepth 100000 in
theorem dec_dent {n : Nat} {cs : List Value} {x : DataW H × List MemPlace} (h : DataW.trod ec Tryz.prog W base spare held n 75 cs = some x) : ∃ y : ByteArray × Int, cs = encDent y ∧ I64 y.2 := by
  obtain ⟨ys, n', hn', hy, hlen, hyl, hf⟩ := DataW.trod_struct Tryz.underlying75 h
  rw [cellsDent] at hlen
  match cs, hlen with
  | [a, b], _ =>
    have t0 := hf 0 _ rfl
    have t1 := hf 1 _ rfl
    simp only [List.getElem_toArray, List.getElem_cons_zero, List.getElem_cons_succ, cellsInt, cellsStr, List.drop_zero, List.take_succ_cons, List.take_zero, List.drop_succ_cons] at t0 t1
    match ys, hyl with
    | [y0, y1], _ =>
      obtain ⟨x0, q0, _, _⟩ := DataW.trod_string Tryz.underlying9 (t0.trans rfl)
      obtain ⟨x1, q1, w1⟩ := dec_int (t1.trans rfl)
      simp only [encInt, List.cons.injEq, and_true] at q0 q1
      subst q0 q1
      exact ⟨(x0, x1), rfl, w1⟩
structure NodeD.Ints (n : NodeD) : Prop where
  ino : I64 n.ino
  kind : I64 n.kind
  links : I64 n.links
  size : I64 n.size
  head : I64 n.head
  tail : I64 n.tail
  entries : I64 n.entries
  inos : ∀ y ∈ n.names, I64 y.2
  log : ∀ y ∈ n.log, I64 y
def Bulky (n : NodeD) (k : Nat) : Prop := n.map.length ≤ k ∧ n.names.length ≤ k ∧ n.log.length ≤ k
set_option maxRecDepth 100000 in
/-- a node in cells -/
theorem dec_node {n : Nat} {cs : List Value} {x : DataW H × List MemPlace} (h : DataW.trod ec Tryz.prog W base spare held n 34 cs = some x) :
    ∃ (y : NodeD) (vm vn vl : Value), cs = (nodeC y vm vn vl).toList ∧ NodeIn W y vm vn vl ∧ y.Ints ∧ Bulky y (Rows.uptoBulk x.1) := by
  obtain ⟨ys, n', hn', hy, hlen, hyl, hf⟩ := DataW.trod_struct Tryz.underlying34 h
  rw [cellsNode] at hlen
  match cs, hlen with
  | [a0, a1, a2, a3, a4, a5, a6, a7, a8, a9], _ =>
    have t0 := hf 0 _ rfl
    have t1 := hf 1 _ rfl
    have t2 := hf 2 _ rfl
    have t3 := hf 3 _ rfl
    have t4 := hf 4 _ rfl
    have t5 := hf 5 _ rfl
    have t6 := hf 6 _ rfl
    have t7 := hf 7 _ rfl
    have t8 := hf 8 _ rfl
    have t9 := hf 9 _ rfl
    simp only [List.getElem_toArray, List.getElem_cons_zero, List.getElem_cons_succ, cellsInt, cellsLR, cellsLD, cellsLI, List.drop_zero, List.take_succ_cons, List.take_zero, List.drop_succ_cons] at t0 t1 t2 t3 t4 t5 t6 t7 t8 t9
    match ys, hyl with
    | [y0, y1, y2, y3, y4, y5, y6, y7, y8, y9], _ =>
      obtain ⟨x0, q0, w0⟩ := dec_int (t0.trans rfl)
      obtain ⟨x1, q1, w1⟩ := dec_int (t1.trans rfl)
      obtain ⟨x2, q2, w2⟩ := dec_int (t2.trans rfl)
      obtain ⟨x3, q3, w3⟩ := dec_int (t3.trans rfl)
      obtain ⟨x6, q6, w6⟩ := dec_int (t6.trans rfl)
      obtain ⟨x7, q7, w7⟩ := dec_int (t7.trans rfl)
      obtain ⟨x9, q9, w9⟩ := dec_int (t9.trans rfl)
      obtain ⟨l4, L4, k4, z4⟩ := open_list encRun RunD.Ok 3 (by decide) Tryz.underlying30 cellsRun (fun _ => rfl) (fun _ _ _ h => dec_run h) (t4.trans rfl)
      obtain ⟨l5, L5, k5, z5⟩ := open_list encDent (fun y => I64 y.2) 2 (by decide) Tryz.underlying31 cellsDent (fun _ => rfl) (fun _ _ _ h => dec_dent h) (t5.trans rfl)
      obtain ⟨l8, L8, k8, z8⟩ := open_list encInt I64 1 (by decide) Tryz.underlying32 cellsInt (fun _ => rfl) (fun _ _ _ h => dec_int h) (t8.trans rfl)
      simp only [encInt, List.cons.injEq, and_true] at q0 q1 q2 q3 q6 q7 q9
      subst q0 q1 q2 q3 q6 q7 q9
      refine ⟨⟨x0, x1, x2, x3, l4, l5, x6, x7, l8, x9⟩, a4, a5, a8, rfl, ⟨L4, L5, L8, k4, w1, w3⟩, ⟨w0, w1, w2, w3, w6, w7, w9, k5, k8⟩, ?_⟩
      rw [hy]
      have hpart : ∀ y ∈ [y0, y1, y2, y3, y4, y5, y6, y7, y8, y9], Rows.uptoBulk y.1 ≤ Rows.uptoBulk (.agg ([y0, y1, y2, y3, y4, y5, y6, y7, y8, y9].map (·.1))) := fun y hy => by
        have := bulk_part_le (List.mem_map_of_mem (f := (·.1)) hy)
        have e : Rows.uptoBulk (.agg ([y0, y1, y2, y3, y4, y5, y6, y7, y8, y9].map (·.1))) = Rows.uptoBulkAll ([y0, y1, y2, y3, y4, y5, y6, y7, y8, y9].map (·.1)) + 1 := by simp only [Rows.uptoBulk]
        omega
      exact ⟨Nat.le_trans z4 (hpart y4 (by simp)), Nat.le_trans z5 (hpart y5 (by simp)), Nat.le_trans z8 (hpart y8 (by simp))⟩
end
theorem open_node {H : Type} {ec : TypeId × Value → H} {W : World} {v : Value} {d : DataW H} {p : List MemPlace} (hv : ∃ cs, v = .agg cs ∧ cs.size = Tryz.prog.cellsOf 34) (h : DataW.Trod ec Tryz.prog W 0 (fun _ => true) true 34 v d p) :
    ∃ (y : NodeD) (vm vn vl : Value), v = .agg (nodeC y vm vn vl) ∧ NodeIn W y vm vn vl ∧ y.Ints ∧ Bulky y (Rows.uptoBulk d) := by
  obtain ⟨cs, rfl, _⟩ := hv
  obtain ⟨fuel, hf⟩ := h
  obtain ⟨y, vm, vn, vl, e, hn⟩ := dec_node hf
  refine ⟨y, vm, vn, vl, ?_, hn⟩
  have : cs.toList = (nodeC y vm vn vl).toList := e
  rw [Array.toList_inj.1 this]
end Go.Proofs.YtabebkffcmajkaaGreatDoor

/-! Reference walk: Pages. -/
namespace Go.Proofs.YtabebkffcmajkaaGreatDoor
open Go.RowKit Go.Maps Go.Shelf

set_option maxRecDepth 100000 in
set_option maxHeartbeats 2000000 in
theorem refPages_any (w : World) (n : NodeD) (vm vn vl : Value) (h : NodeAt w n vm vn vl) : Calls Tryz.prog 19 #[.agg (nodeC n vm vn vl)] w (PagesPost w n) := by
  obtain ⟨Am, cm, rfl, hcm1, hcm2, hml, _, _⟩ := id h.map
  have hlm : ∀ w, (Builtin.len_ #[30] 3 #[.slice Am n.map.length cm]).run Tryz.prog w = .ok (.int .i64 n.map.length) w := fun w => by simp [Builtin.len_, run_underlying Tryz.underlying30]; rfl
  have hM : Mod None_ w (w.alloc (.cells (nodeC n (.slice Am n.map.length cm) vn vl) 34)) := (Mod.refl None_ w).alloc _
  have HS := hide (refGood_any _ n _ vn vl (h.kept hM))
  have b1 : Blk (w.alloc (.cells (nodeC n (.slice Am n.map.length cm) vn vl) 34)) w.heap.size 34 (nodeC n (.slice Am n.map.length cm) vn vl) := Blk.new w 34 _
  have HN := hide h
  have HM := hide hM
  have B1 := hide b1
  clear hM h b1
  unfold nodeC at HM HS B1 ⊢
  go_enter Tryz.func19, Tryz.ntmps19
  obtain ⟨m, hm⟩ : ∃ m, m = w.heap.size := ⟨_, rfl⟩
  rw [← hm] at B1
  have HMM := hide hm
  clear hm
  go_wp2_with fail
  rw [← HMM.out]
  refine Calls.mono HS.out ?_
  rintro e w2 ⟨rfl, hm2⟩
  have hM := HM.out.trans hm2
  have b1 := B1.out.mod hm2 id
  clear hm2 HM HS B1 HMM
  by_cases hg : nodeGood n = true
  · have hpo := pagesOf_good hg
    obtain ⟨hl512, htame⟩ := good_tame hg
    have HPO := hide hpo
    have HTA := hide htame
    rw [hg]
    clear hpo htame hg
    go_wp2_with fail
    go_loopw [5, 4] (fun s5 s4 wr => ∃ (k : Nat) (L : List Int) (v4 : Value), v4 = s4 ∧ k ≤ n.map.length ∧ s5 = .int .i64 k ∧ L = mapPages (n.map.take k) ∧ L.length ≤ k * 512 ∧ wr.ownsRow w2.heap.size 3 1 v4 L.length (rowOf encInt L) ∧ Mod None_ w2 wr) (fun s5 _ _ => n.map.length - (intOf s5).toNat)
    case atStart => exact ⟨0, [], _, rfl, Nat.zero_le _, rfl, rfl, Nat.zero_le _, ⟨rfl, .inl ⟨rfl, rfl⟩⟩, Mod.refl _ _⟩
    obtain ⟨k, L, v4, rfl, hk, rfl, hL, hLl, hown, hmr⟩ := hrel
    have c4 : wr.cell? ⟨m, 4, none⟩ = some (.slice Am n.map.length cm) := (b1.mod hmr id).cell 4
    by_cases hlt : k < n.map.length
    · have hki : (k : Int) < n.map.length := by omega
      obtain ⟨_, _, hcv, _, _, hcell⟩ := (HN.out.kept hM).map.list
      simp only [Value.slice.injEq, true_and] at hcv
      obtain ⟨rfl, rfl⟩ := hcv
      obtain ⟨g, o, rfl, hg, hcell⟩ := hcell (by omega)
      have x1 : w2.cell? ⟨g, o + k * 3 + 1, none⟩ = some (.int .i64 n.map[k].page) := hcell k hlt 1 _ rfl
      have x2 : w2.cell? ⟨g, o + k * 3 + 2, none⟩ = some (.int .i64 n.map[k].count) := hcell k hlt 2 _ rfl
      have htx := HTA.out _ (List.getElem_mem hlt)
      have hsn := mapPages_snoc hlt
      rw [← hL] at hsn
      obtain ⟨x, hx⟩ : ∃ x, x = n.map[k] := ⟨_, rfl⟩
      rw [← hx] at x1 x2 htx hsn
      obtain ⟨t1, t2, t3, t4, t5, t6⟩ := htx
      have HSN := hide hsn
      have HX1 := hide x1
      have HX2 := hide x2
      clear hcell hsn hx hL x1 x2
      go_wp2_with fail
      obtain ⟨wo, rfl⟩ : ∃ wo : World, wo = wr := ⟨_, rfl⟩
      go_loopw [6, 4] (fun s6 s4 wv => ∃ (i : Nat) (v5 : Value), v5 = s4 ∧ i ≤ x.count.toNat ∧ s6 = .int .i64 i ∧ wv.ownsRow w2.heap.size 3 1 v5 (L ++ pagesN x i).length (rowOf encInt (L ++ pagesN x i)) ∧ Mod None_ w2 wv) (fun s6 _ _ => x.count.toNat - (intOf s6).toNat)
      case atStart => exact ⟨0, _, rfl, Nat.zero_le _, rfl, by rw [show pagesN x 0 = [] from rfl, List.append_nil]; exact hown, hmr⟩
      clear hown hmr c4
      obtain ⟨i, v5, rfl, hi, rfl, hown, hmr⟩ := hrel
      have c4 : wr.cell? ⟨m, 4, none⟩ = some (.slice (some ⟨g, o, none⟩) n.map.length cm) := (b1.mod hmr id).cell 4
      have x1 := (World.cell?_of_block (hmr.block g hg id)).trans HX1.out
      have x2 := (World.cell?_of_block (hmr.block g hg id)).trans HX2.out
      have hpl := pagesN_length x i
      by_cases hic : i < x.count.toNat
      · have hii : (i : Int) < x.count := by omega
        have hps := pagesN_snoc x i
        have ew : IntKind.i64.wrap (x.page + (i : Int)) = x.page + i := IntWalk.i64_in _ (by omega)
        obtain ⟨P, hP⟩ : ∃ P, P = L ++ pagesN x i := ⟨_, rfl⟩
        have hPs : L ++ pagesN x (i + 1) = P ++ [x.page + i] := by rw [hps, ← List.append_assoc, hP]
        have hPl : P.length = L.length + i := by rw [hP, List.length_append, hpl]
        rw [← hP] at hown
        have HPS := hide hPs
        have hsz2 := hmr.size
        clear hps hP hPs hpl
        go_wp2_with ((with_reducible refine at_slot 38 ?_); refine wpList_append_row encInt 32 3 (.int .i64 0) 1 8 Tryz.underlying32 infoInt rfl (by decide) (fun _ => rfl) oneInt rfl (.tmp 28) (.tmp 37) rfl wr w2.heap.size v5 P (x.page + i) rfl rfl wr.heap.size rfl rfl hown hsz2 (by unfold maxLen; omega) (by omega) ?_; intro v8 w8 hown8 hm8 hat8
                     have hM8 := hmr.trans' hm8 (fun g hg e => by have := (own_blk hown e.symm).1; omega)
                     have L1 := hide hown8
                     have L2 := hide hM8
                     clear hown8 hm8 hat8 hM8 hown hmr c4 x1 x2
                     go_frame)
        go_roundw
        case rel => exact ⟨i + 1, _, rfl, by omega, by simp, by rw [HPS.out]; exact L1.out, L2.out⟩
        case measure => simp [intOf]; omega
      · obtain rfl : i = x.count.toNat := by omega
        have hii : ¬ ((x.count.toNat : Nat) : Int) < x.count := by omega
        rw [← HSN.out] at hown
        have hLen : (mapPages (n.map.take (k + 1))).length ≤ (k + 1) * 512 := by rw [HSN.out, List.length_append, hpl]; omega
        clear hic
        go_wp2_with fail
        go_roundw
        case rel => exact ⟨k + 1, _, _, rfl, by omega, by simp, rfl, hLen, hown, hmr⟩
        case measure => simp [intOf]; omega
    · obtain rfl : k = n.map.length := by omega
      have hkn : ¬ (n.map.length : Int) < n.map.length := by omega
      rw [List.take_length] at hL
      subst hL
      have hfin : PagesPost w n (.returned v4) wr := ⟨_, rfl, by rw [HPO.out]; exact list_of_ownRow (enc := encInt) (fun _ => rfl) hown, hM.trans hmr⟩
      have HF := hide hfin
      clear hfin hown hmr hlt
      go_wp2
      go_ret
      exact HF.out
  · have hb : nodeGood n = false := by simpa using hg
    have hfin : PagesPost w n (.returned (.slice none 0 0)) w2 := pages_none (fun e => hg e.1) hM
    have HF := hide hfin
    rw [hb]
    clear hfin hb hg
    go_wp2
    go_ret
    exact HF.out
end Go.Proofs.YtabebkffcmajkaaGreatDoor

/-! Reference walk: Canon. -/
namespace Go.Proofs.YtabebkffcmajkaaGreatDoor
open Go.RowKit Go.Maps Go.Shelf
attribute [local go_sem] quietV loudUpon Oper.semAt_some

theorem piece16 {z : Int} {K T : List StepD} {r : RunD} (h : K ++ runSteps z r = T) (h0 : 0 < r.count) : (K ++ [.write ⟨r.off, r.page, cut16 r.count⟩ z]) ++ runSteps z ⟨r.off + 16, r.page + 16, r.count - 16⟩ = T := by
  have := piece_eq h h0
  by_cases hc : 16 ≤ r.count
  · have e : cut16 r.count = 16 := by unfold cut16; split <;> omega
    unfold nextRun at this
    rw [e] at this ⊢
    exact this
  · have e : cut16 r.count = r.count := by unfold cut16; split <;> omega
    have e1 : runSteps z (nextRun r) = [] := by
      unfold runSteps nextRun; rw [e, piecesOf_none (by show ¬ 0 < r.count - r.count; omega)]; rfl
    have e2 : runSteps z ⟨r.off + 16, r.page + 16, r.count - 16⟩ = [] := by
      unfold runSteps; rw [piecesOf_none (by show ¬ 0 < r.count - 16; omega)]; rfl
    rw [e1] at this
    rw [e2]
    exact this
def sizeTail (n : NodeD) : List StepD := if 0 < n.size ∧ n.map.length = 0 then [.resize n.size] else []
def refSteps (n : NodeD) : List StepD := n.names.map addOf ++ mapSteps n ++ sizeTail n
theorem mapSteps_ne {n : NodeD} (h : ∀ r ∈ n.map, refRun r = true) (h0 : n.map.length ≠ 0) : mapSteps n ≠ [] := by
  obtain ⟨r, l, hl⟩ : ∃ r l, n.map = r :: l := by
    cases hm : n.map with
    | nil => rw [hm] at h0; exact absurd rfl h0
    | cons r l => exact ⟨r, l, rfl⟩
  have hr := (refRun_iff r).1 (h r (by rw [hl]; simp))
  unfold mapSteps
  rw [hl, List.flatMap_cons]
  unfold runSteps
  rw [piecesOf_some (by omega)]
  simp
theorem canon_good {n : NodeD} (h : nodeGood n = true) : canonOf n = entsFrom 1 (refSteps n) := by
  obtain ⟨hr, ⟨_, hn, _⟩ | ⟨_, hm, hz⟩⟩ := good_runs h
  · unfold canonOf refSteps stepsOf
    rw [hn]
    simp only [List.map_nil, List.nil_append, List.append_nil]
    congr 1
    unfold sizeSteps sizeTail
    by_cases h0 : n.map.length = 0
    · have e : mapSteps n = [] := by unfold mapSteps; rw [List.length_eq_zero_iff.1 h0]; rfl
      rw [e]
      by_cases hz : 0 < n.size
      · rw [if_pos ⟨rfl, hz⟩, if_pos ⟨hz, h0⟩]; rfl
      · rw [if_neg (fun e => hz e.2), if_neg (fun e => hz e.1)]; rfl
    · rw [if_neg (fun e => mapSteps_ne hr h0 e.1), if_neg (fun e => h0 e.2), List.append_nil]
  · unfold canonOf refSteps stepsOf sizeSteps sizeTail
    have e : mapSteps n = [] := by unfold mapSteps; rw [hm]; rfl
    rw [e, if_neg (by rw [hz]; simp), if_neg (by rw [hz]; simp)]
    simp
theorem ents_snoc {L : List StepD} {E : List EntD} (h : E = entsFrom 1 L) (s : StepD) : E ++ [entOf s ((E.length : Int) + 1)] = entsFrom 1 (L ++ [s]) := by
  have hl := entsFrom_length 1 L
  rw [entsFrom_snoc, h, hl]
  congr 3
  omega

set_option maxRecDepth 100000 in
set_option maxHeartbeats 2000000 in
theorem refCanon_any (w : World) (n : NodeD) (vm vn vl : Value) (h : NodeAt w n vm vn vl) : Calls Tryz.prog 15 #[.agg (nodeC n vm vn vl)] w (CanonPost w n) := by
  obtain ⟨An, cn, rfl, hcn1, hcn2, _⟩ := id h.names
  obtain ⟨Am, cm, rfl, hcm1, hcm2, hml, _, _⟩ := id h.map
  have hnl := h.nlen
  have hln : ∀ w, (Builtin.len_ #[31] 3 #[.slice An n.names.length cn]).run Tryz.prog w = .ok (.int .i64 n.names.length) w := fun w => by simp [Builtin.len_, run_underlying Tryz.underlying31]; rfl
  have hlm : ∀ w, (Builtin.len_ #[30] 3 #[.slice Am n.map.length cm]).run Tryz.prog w = .ok (.int .i64 n.map.length) w := fun w => by simp [Builtin.len_, run_underlying Tryz.underlying30]; rfl
  have hll : ∀ w A (n c : Nat), (Builtin.len_ #[37] 3 #[.slice A n c]).run Tryz.prog w = .ok (.int .i64 n) w := fun w A n c => by simp [Builtin.len_, run_underlying Tryz.underlying37]; rfl
  have hM : Mod None_ w (w.alloc (.cells (nodeC n (.slice Am n.map.length cm) (.slice An n.names.length cn) vl) 34)) := (Mod.refl None_ w).alloc _
  have HS := hide (refGood_any _ n _ _ vl (h.kept hM))
  have b1 : Blk (w.alloc (.cells (nodeC n (.slice Am n.map.length cm) (.slice An n.names.length cn) vl) 34)) w.heap.size 34 (nodeC n (.slice Am n.map.length cm) (.slice An n.names.length cn) vl) := Blk.new w 34 _
  have HN := hide h
  have HM := hide hM
  have B1 := hide b1
  clear hM h b1
  unfold nodeC at HM HS B1 ⊢
  go_enter Tryz.func15, Tryz.ntmps15
  obtain ⟨m, hm⟩ : ∃ m, m = w.heap.size := ⟨_, rfl⟩
  rw [← hm] at B1
  have HMM := hide hm
  clear hm
  go_wp2_with fail
  rw [← HMM.out]
  refine Calls.mono HS.out ?_
  rintro e w2 ⟨rfl, hm2⟩
  have hM := HM.out.trans hm2
  have b1 := B1.out.mod hm2 id
  clear hm2 HM HS B1 HMM
  by_cases hg : nodeGood n = true
  · have hca := canon_good hg
    obtain ⟨hl512, htame⟩ := good_tame hg
    have HCA := hide hca
    have HG := hide hg
    have HTA := hide htame
    rw [hg]
    clear hca htame hg
    go_wp2_with fail
    go_loopw [6, 5] (fun s6 s5 wr => ∃ (k : Nat) (L : List StepD) (E : List EntD) (v5 : Value), v5 = s5 ∧ k ≤ n.names.length ∧ s6 = .int .i64 k ∧ L = (n.names.take k).map addOf ∧ E = entsFrom 1 L ∧ wr.ownsRow w2.heap.size 49 8 v5 E.length (rowOf encEntry E) ∧ Mod None_ w2 wr) (fun s6 _ _ => n.names.length - (intOf s6).toNat)
    case atStart => exact ⟨0, [], [], _, rfl, Nat.zero_le _, rfl, rfl, rfl, ⟨rfl, .inl ⟨rfl, rfl⟩⟩, Mod.refl _ _⟩
    obtain ⟨k, L, E, v5, rfl, hk, rfl, hL, hE, hown, hmr⟩ := hrel
    have hEl : E.length = k := by rw [hE, entsFrom_length, hL, List.length_map, List.length_take, Nat.min_eq_left hk]
    by_cases hlt : k < n.names.length
    · have hki : (k : Int) < n.names.length := by omega
      obtain ⟨_, _, hcv, _, _, hcell⟩ := (HN.out.kept hM).names
      simp only [Value.slice.injEq, true_and] at hcv
      obtain ⟨rfl, rfl⟩ := hcv
      obtain ⟨g, o, rfl, hg, hcell⟩ := hcell (by omega)
      have x0 : w2.cell? ⟨g, o + k * 2, none⟩ = some (.string n.names[k].1) := hcell k hlt 0 _ rfl
      have x1 : w2.cell? ⟨g, o + k * 2 + 1, none⟩ = some (.int .i64 n.names[k].2) := hcell k hlt 1 _ rfl
      have hLs : L ++ [addOf n.names[k]] = (n.names.take (k + 1)).map addOf := by rw [hL, List.take_succ_eq_append_getElem hlt, List.map_append]; rfl
      obtain ⟨x, hx⟩ : ∃ x, x = n.names[k] := ⟨_, rfl⟩
      rw [← hx] at x0 x1 hLs
      have hsn := ents_snoc hE (addOf x)
      rw [hLs] at hsn
      have HSN := hide hsn
      obtain ⟨A5, c5s, rfl⟩ := own_slice hown
      have hsz := hmr.size
      have eu : IntKind.u64.wrap ((E.length : Int) + 1) = (E.length : Int) + 1 := by unfold IntKind.wrap; simp [IntKind.bits, IntKind.signed]; omega
      have c5 : wr.cell? ⟨m, 5, none⟩ = some (.slice (some ⟨g, o, none⟩) n.names.length cn) := (b1.mod hmr id).cell 5
      have ei : IntKind.i64.wrap ((E.length : Int) + 1) = (E.length : Int) + 1 := IntWalk.i64_in _ (by omega)
      have hEle : E.length ≤ 1000000000000 := by omega
      clear hcell hx hL hLs hsn hE hEl
      go_wp2_with fail
      refine region_mxw [(true, 0), (true, 1), (true, 2), (true, 3), (true, 4), (true, 5), (true, 6), (true, 7), (true, 8), (true, 9), (true, 10), (true, 11), (true, 12), (true, 13), (true, 14), (true, 15), (true, 16), (true, 17), (false, 18), (false, 19), (true, 20)] (fun w' => Mod None_ w2 w') (by kernel_rfl) (by kernel_rfl) ?_
      rintro w3 hw3
      have hm3 : Mod None_ wr w3 := by rw [hw3]; exact (Mod.refl _ wr).drew
      have hown3 := own_mod hown hm3 (fun _ _ f => f)
      have hmr3 := hmr.trans hm3
      have hsz3 := Nat.le_trans hsz hm3.size
      have X0 := hide x0
      have X1 := hide x1
      clear hw3 hm3 hown hmr hsz c5 x0 x1
      refine ⟨hmr3, ?_⟩
      iterate 18 (refine mxw_quiet rfl (fun w' i1 K hK => by
        have i5 := (b1.mod i1 id).cell 5
        have i8 := (World.cell?_of_block (i1.block g hg id)).trans X0.out
        have i9 := (World.cell?_of_block (i1.block g hg id)).trans X1.out
        clear i1
        (try go_simp); exact hK) ?_; try go_frame)
      refine mxw_loud rfl (fun K hK => ?_)
      go_simp
      refine ⟨hmr3.alloc _, hK _ _ ?_⟩
      clear hK K
      try go_frame
      refine mxw_append_row encEntry 37 49 (.agg #[.int .i64 0, .int .u64 0, .int .i64 0, .int .i64 0, .int .i64 0, .int .i64 0, .int .i64 0, .string ⟨#[]⟩]) 8 72 Tryz.underlying37 infoEntry rfl (by decide) (fun _ => rfl) oneEntry rfl rfl (.tmp 22) (.tmp 40) rfl w3 w2.heap.size (.slice A5 E.length c5s) E ⟨3, (E.length : Int) + 1, 0, 0, 0, 0, x.2, x.1⟩ rfl rfl w3.heap.size rfl rfl hown3 hsz3 (by unfold maxLen; omega) (by omega) ?_
      intro v8 w8 hown8 hm8 hat8
      have hM8 := hmr3.trans' hm8 (fun g hg e => by have := (own_blk hown3 e.symm).1; omega)
      clear hm8 hat8 hown3 hmr3 hsz3
      refine ⟨hM8, ?_⟩
      try go_frame
      iterate 1 (refine mxw_quiet rfl (fun w' i1 KK hKK => by clear i1; (try go_simp); exact hKK) ?_; try go_frame)
      refine mxw_nil ?_
      have L1 := hide hown8
      have L2 := hide hM8
      clear hown8 hM8
      go_wp2_with fail
      go_roundw
      case rel => exact ⟨k + 1, _, _, _, rfl, by omega, by simp, rfl, HSN.out, L1.out, L2.out⟩
      case measure => simp [intOf]; omega
    · obtain rfl : k = n.names.length := by omega
      have hkn : ¬ (n.names.length : Int) < n.names.length := by omega
      rw [List.take_length] at hL
      have c5 : wr.cell? ⟨m, 5, none⟩ = some (.slice An n.names.length cn) := (b1.mod hmr id).cell 5
      have HL := hide hL
      have HE := hide hE
      clear hL hE hlt
      go_wp2_with fail
      clear c5
      go_loopw [7, 5] (fun s7 s5 wr => ∃ (k : Nat) (L : List StepD) (E : List EntD) (v5 : Value), v5 = s5 ∧ k ≤ n.map.length ∧ s7 = .int .i64 k ∧ L = n.names.map addOf ++ (n.map.take k).flatMap (runSteps n.size) ∧ L.length ≤ n.names.length + k * 512 ∧ E = entsFrom 1 L ∧ wr.ownsRow w2.heap.size 49 8 v5 E.length (rowOf encEntry E) ∧ Mod None_ w2 wr) (fun s7 _ _ => n.map.length - (intOf s7).toNat)
      case atStart => exact ⟨0, L, E, _, rfl, Nat.zero_le _, rfl, by rw [HL.out]; simp, by rw [HL.out]; simp, HE.out, hown, hmr⟩
      clear HL HE hown hmr hEl hkn hk
      clear L E
      obtain ⟨k, L, E, v5, rfl, hk, rfl, hL, hLl, hE, hown, hmr⟩ := hrel
      have hEl : E.length = L.length := by rw [hE, entsFrom_length]
      have c4 : wr.cell? ⟨m, 4, none⟩ = some (.slice Am n.map.length cm) := (b1.mod hmr id).cell 4
      by_cases hlt : k < n.map.length
      · have hki : (k : Int) < n.map.length := by omega
        obtain ⟨_, _, hcv, _, _, hcell⟩ := (HN.out.kept hM).map.list
        simp only [Value.slice.injEq, true_and] at hcv
        obtain ⟨rfl, rfl⟩ := hcv
        obtain ⟨g, o, rfl, hg, hcell⟩ := hcell (by omega)
        have x0 : wr.cell? ⟨g, o + k * 3, none⟩ = some (.int .i64 n.map[k].off) := (World.cell?_of_block (hmr.block g hg id)).trans (hcell k hlt 0 _ rfl)
        have x1 : wr.cell? ⟨g, o + k * 3 + 1, none⟩ = some (.int .i64 n.map[k].page) := (World.cell?_of_block (hmr.block g hg id)).trans (hcell k hlt 1 _ rfl)
        have x2 : wr.cell? ⟨g, o + k * 3 + 2, none⟩ = some (.int .i64 n.map[k].count) := (World.cell?_of_block (hmr.block g hg id)).trans (hcell k hlt 2 _ rfl)
        have htx := HTA.out _ (List.getElem_mem hlt)
        have hLs := steps_snoc n hlt
        obtain ⟨x, hx⟩ : ∃ x, x = n.map[k] := ⟨_, rfl⟩
        rw [← hx] at x0 x1 x2 htx hLs
        have hrl := runSteps_length n.size htx
        obtain ⟨t1, t2, t3, t4, t5, t6⟩ := htx
        have hLL : L ++ runSteps n.size x = n.names.map addOf ++ (n.map.take (k + 1)).flatMap (runSteps n.size) := by rw [hLs, hL, List.append_assoc]
        obtain ⟨ma, hma⟩ : ∃ k, k = wr.heap.size := ⟨_, rfl⟩
        obtain ⟨wa, hwa⟩ : ∃ wa, wa = wr.alloc (.cells #[.int .i64 x.off, .int .i64 x.page, .int .i64 x.count] 73) := ⟨_, rfl⟩
        have hmwa : Mod None_ wr wa := by rw [hwa]; exact (Mod.refl _ wr).alloc _
        have bx : Blk wa ma 73 #[.int .i64 x.off, .int .i64 x.page, .int .i64 x.count] := by rw [hwa, hma]; exact Blk.new wr 73 _
        have hama : w2.heap.size ≤ ma := by rw [hma]; exact hmr.size
        have hmra := hmr.trans hmwa
        have howna := own_mod hown hmwa (fun _ _ f => f)
        have HWA := hide hwa
        have HMA := hide hma
        have HLL := hide hLL
        have HX := hide hx
        clear hwa hma hmwa hLL hLs hx hcell hL hmr hown
        go_wp2_with fail
        rw [← HMA.out, ← HWA.out]
        clear HMA HWA x0 x1 x2 c4
        go_loopw [9, 5] (fun s9 s5 wv => ∃ (fr : Nat) (K : List StepD) (E : List EntD) (v6 : Value), v6 = s5 ∧ (fr : Int) ≤ x.count + 15 ∧ s9 = .int .i64 fr ∧ K ++ runSteps n.size ⟨x.off + fr, x.page + fr, x.count - fr⟩ = L ++ runSteps n.size x ∧ E = entsFrom 1 K ∧ wv.ownsRow w2.heap.size 49 8 v6 E.length (rowOf encEntry E) ∧ Mod None_ w2 wv ∧ Blk wv ma 73 #[.int .i64 x.off, .int .i64 x.page, .int .i64 x.count]) (fun s9 _ _ => x.count.toNat - (intOf s9).toNat)
        case atStart => exact ⟨0, L, E, _, rfl, by omega, rfl, by simp, hE, howna, hmra, bx⟩
        clear bx hmra howna hE hEl
        clear E
        obtain ⟨fr, K, E, v6, rfl, hfr, rfl, hK, hE, hown, hmr, bx⟩ := hrel
        have hKl : E.length ≤ L.length + 512 := by
          rw [hE, entsFrom_length]
          have := congrArg List.length hK
          simp only [List.length_append] at this
          omega
        have y2 : wr.cell? ⟨ma, 2, none⟩ = some (.int .i64 x.count) := bx.cell 2
        by_cases hfc : (fr : Int) < x.count
        · have hpc := piece16 hK (by show 0 < x.count - fr; omega)
          have hsn := ents_snoc hE (.write ⟨x.off + fr, x.page + fr, cut16 (x.count - fr)⟩ n.size)
          have e16 : ∀ y : Int, y + fr + 16 = y + ((fr + 16 : Nat) : Int) := fun y => by omega
          have e17 : x.count - fr - 16 = x.count - ((fr + 16 : Nat) : Int) := by omega
          simp only [e16, e17] at hpc
          obtain ⟨A6, c6, rfl⟩ := own_slice hown
          have hsz := hmr.size
          have y0 : wr.cell? ⟨ma, 0, none⟩ = some (.int .i64 x.off) := bx.cell 0
          have y1 : wr.cell? ⟨ma, 1, none⟩ = some (.int .i64 x.page) := bx.cell 1
          have c3 : wr.cell? ⟨m, 3, none⟩ = some (.int .i64 n.size) := (b1.mod hmr id).cell 3
          have ei : IntKind.i64.wrap ((E.length : Int) + 1) = (E.length : Int) + 1 := IntWalk.i64_in _ (by omega)
          have eu : IntKind.u64.wrap ((E.length : Int) + 1) = (E.length : Int) + 1 := by unfold IntKind.wrap; simp [IntKind.bits, IntKind.signed]; omega
          have e1 : IntKind.i64.wrap (x.off + (fr : Int)) = x.off + fr := IntWalk.i64_in _ (by omega)
          have e2 : IntKind.i64.wrap (x.page + (fr : Int)) = x.page + fr := IntWalk.i64_in _ (by omega)
          have e3 : IntKind.i64.wrap (x.count - (fr : Int)) = x.count - fr := IntWalk.i64_in _ (by omega)
          clear hK hE e16 e17
          by_cases h16 : 16 < x.count - fr
          · have ec : cut16 (x.count - fr) = 16 := by unfold cut16; rw [if_pos h16]
            have d5 : decide (16 < x.count - (fr : Int)) = true := decide_eq_true h16
            rw [ec] at hpc hsn
            have HPC := hide hpc
            have HSN := hide hsn
            clear hpc hsn ec
            go_wp2_with ((with_reducible refine at_slot 84 ?_); refine wpList_append_row encEntry 37 49 (.agg #[.int .i64 0, .int .u64 0, .int .i64 0, .int .i64 0, .int .i64 0, .int .i64 0, .int .i64 0, .string ⟨#[]⟩]) 8 72 Tryz.underlying37 infoEntry rfl (by decide) (fun _ => rfl) oneEntry rfl (.tmp 66) (.tmp 83) rfl wr w2.heap.size (.slice A6 E.length c6) E ⟨1, (E.length : Int) + 1, x.off + fr, 16, x.page + fr, n.size, 0, ⟨#[]⟩⟩ rfl rfl wr.heap.size rfl rfl hown hsz (by unfold maxLen; omega) (by omega) ?_; intro v8 w8 hown8 hm8 hat8
                         have hM8 := hmr.trans' hm8 (fun g hg e => by have := (own_blk hown e.symm).1; omega)
                         have bx8 := bx.mod hm8 (fun e => own_ne hown bx (by decide) e.symm rfl)
                         have L1 := hide hown8
                         have L2 := hide hM8
                         have L3 := hide bx8
                         clear hown8 hm8 hat8 hM8 bx8 hown hmr bx c3 y0 y1 y2 hsz
                         go_frame)
            go_roundw
            case rel => exact ⟨fr + 16, _, _, _, rfl, by omega, by simp, HPC.out, HSN.out, L1.out, L2.out, L3.out⟩
            case measure => simp [intOf]; omega
          · have ec : cut16 (x.count - fr) = (x.count - fr) := by unfold cut16; rw [if_neg h16]
            have d5 : decide (16 < x.count - (fr : Int)) = false := decide_eq_false h16
            rw [ec] at hpc hsn
            have HPC := hide hpc
            have HSN := hide hsn
            clear hpc hsn ec
            go_wp2_with ((with_reducible refine at_slot 84 ?_); refine wpList_append_row encEntry 37 49 (.agg #[.int .i64 0, .int .u64 0, .int .i64 0, .int .i64 0, .int .i64 0, .int .i64 0, .int .i64 0, .string ⟨#[]⟩]) 8 72 Tryz.underlying37 infoEntry rfl (by decide) (fun _ => rfl) oneEntry rfl (.tmp 66) (.tmp 83) rfl wr w2.heap.size (.slice A6 E.length c6) E ⟨1, (E.length : Int) + 1, x.off + fr, (x.count - fr), x.page + fr, n.size, 0, ⟨#[]⟩⟩ rfl rfl wr.heap.size rfl rfl hown hsz (by unfold maxLen; omega) (by omega) ?_; intro v8 w8 hown8 hm8 hat8
                         have hM8 := hmr.trans' hm8 (fun g hg e => by have := (own_blk hown e.symm).1; omega)
                         have bx8 := bx.mod hm8 (fun e => own_ne hown bx (by decide) e.symm rfl)
                         have L1 := hide hown8
                         have L2 := hide hM8
                         have L3 := hide bx8
                         clear hown8 hm8 hat8 hM8 bx8 hown hmr bx c3 y0 y1 y2 hsz
                         go_frame)
            go_roundw
            case rel => exact ⟨fr + 16, _, _, _, rfl, by omega, by simp, HPC.out, HSN.out, L1.out, L2.out, L3.out⟩
            case measure => simp [intOf]; omega
        · have hK0 : K = L ++ runSteps n.size x := piece_end hK (by show ¬ 0 < x.count - fr; omega)
          rw [HLL.out] at hK0
          have hKl2 : K.length ≤ n.names.length + (k + 1) * 512 := by
            have := congrArg List.length hK
            simp only [List.length_append] at this
            omega
          have HK0 := hide hK0
          clear hK hK0
          go_wp2_with fail
          go_roundw
          case rel => exact ⟨k + 1, K, E, _, rfl, by omega, by simp, HK0.out, hKl2, hE, hown, hmr⟩
          case measure => simp [intOf]; omega
      · obtain rfl : k = n.map.length := by omega
        have hkn : ¬ (n.map.length : Int) < n.map.length := by omega
        rw [List.take_length] at hL
        have c3 : wr.cell? ⟨m, 3, none⟩ = some (.int .i64 n.size) := (b1.mod hmr id).cell 3
        have hLm : L = n.names.map addOf ++ mapSteps n := hL
        by_cases hz : 0 < n.size ∧ n.map.length = 0
        · have hnn : n.names = [] := by
            obtain ⟨_, ⟨_, hn, _⟩ | ⟨_, _, hz0⟩⟩ := good_runs HG.out
            · exact hn
            · omega
          have hL0 : L = [] := by rw [hLm, hnn]; unfold mapSteps; rw [List.length_eq_zero_iff.1 hz.2]; rfl
          have hE0 : E = [] := by rw [hE, hL0]; rfl
          have hfinE : E ++ [⟨2, 1, 0, 0, 0, n.size, 0, ⟨#[]⟩⟩] = canonOf n := by
            rw [HCA.out]
            unfold refSteps sizeTail
            rw [if_pos hz, ← hLm, hL0, hE0]
            rfl
          have HFE := hide hfinE
          have d1 : decide (0 < n.size) = true := decide_eq_true hz.1
          have d2 : ((n.map.length : Int) == 0) = true := by rw [hz.2]; rfl
          have d3 : 0 < n.size := hz.1
          have hsz := hmr.size
          have hE1 : E.length ≤ 0 := by rw [hE0]; simp
          have hm0 := hz.2
          clear hfinE hLm hL hL0 hE hE0 hEl hz hlt hkn hnn
          go_wp2_with ((with_reducible refine at_slot 99 ?_); refine wpList_append_row encEntry 37 49 (.agg #[.int .i64 0, .int .u64 0, .int .i64 0, .int .i64 0, .int .i64 0, .int .i64 0, .int .i64 0, .string ⟨#[]⟩]) 8 72 Tryz.underlying37 infoEntry rfl (by decide) (fun _ => rfl) oneEntry rfl (.tmp 94) (.tmp 98) rfl wr w2.heap.size v5 E ⟨2, 1, 0, 0, 0, n.size, 0, ⟨#[]⟩⟩ rfl rfl wr.heap.size rfl rfl hown hsz (by unfold maxLen; omega) (by omega) ?_; intro v8 w8 hown8 hm8 hat8
                       have hM8 := (hM.trans hmr).trans' hm8 (fun g hg e => by
                         have h1 := (own_blk hown e.symm).1
                         have h2 := hM.size
                         omega)
                       have hli := list_of_ownRow (enc := encEntry) (fun _ => rfl) hown8
                       rw [HFE.out] at hli
                       have HF : Hid (CanonPost w n (.returned (.tuple #[v8, .int .i64 0])) w8) := hide ⟨hM8, by rw [if_pos HG.out]; exact ⟨v8, rfl, hli⟩⟩
                       clear hown8 hm8 hat8 hM8 hli hown hmr c3
                       go_frame)
          go_ret2
          exact HF.out
        · have hli := list_of_ownRow (enc := encEntry) (fun _ => rfl) hown
          have hfinE : E = canonOf n := by
            rw [HCA.out, hE, hLm]
            unfold refSteps sizeTail
            rw [if_neg hz, List.append_nil]
          rw [hfinE] at hli
          have HF : Hid (CanonPost w n (.returned (.tuple #[v5, .int .i64 0])) wr) := hide ⟨hM.trans hmr, by rw [if_pos HG.out]; exact ⟨v5, rfl, hli⟩⟩
          have c4 : wr.cell? ⟨m, 4, none⟩ = some (.slice Am n.map.length cm) := (b1.mod hmr id).cell 4
          clear hfinE hLm hL hE hEl hli hown hlt hkn
          by_cases h0 : 0 < n.size
          · have d1 : decide (0 < n.size) = true := decide_eq_true h0
            have h1 : ¬ n.map.length = 0 := fun e => hz ⟨h0, e⟩
            have d2 : ((n.map.length : Int) == 0) = false := by rw [beq_eq_false_iff_ne]; omega
            clear hz
            go_wp2
            go_ret2
            exact HF.out
          · have d1 : decide (0 < n.size) = false := decide_eq_false h0
            clear hz
            go_wp2
            go_ret2
            exact HF.out
  · have hb : nodeGood n = false := by simpa using hg
    have hfin : CanonPost w n (.returned (.tuple #[.slice none 0 0, .int .i64 90])) w2 := ⟨hM, by rw [if_neg hg]⟩
    have HF := hide hfin
    rw [hb]
    clear hfin hb hg
    go_wp2
    go_ret2
    exact HF.out
end Go.Proofs.YtabebkffcmajkaaGreatDoor
