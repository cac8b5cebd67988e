import Derived.Test.YtabebkffcmajkaaR9
import Derived.Deep.CutRange
/-! Walk: radix.Load. -/
namespace Go.Proofs.Ytabebkffcmajkaa
open Go.RowKit Go.Maps Go.Shelf

def I64 (n : Int) : Prop := -9223372036854775808 ≤ n ∧ n ≤ 9223372036854775807
def RunD.Ok (r : RunD) : Prop := I64 r.off ∧ I64 r.page ∧ I64 r.count
/-- a slice that reads as these runs -/
def RunsAt (w : World) (v : Value) (l : List RunD) : Prop :=
  ∃ A c, v = .slice A l.length c ∧ l.length ≤ c ∧ c ≤ maxLen ∧ l.length ≤ 5864062014805 ∧ (∀ r ∈ l, r.Ok) ∧ (0 < l.length → ∃ g o, A = some ⟨g, o, none⟩ ∧ g < w.heap.size ∧ ∀ i (h : i < l.length),
    w.cell? ⟨g, o + i * 3, none⟩ = some (.int .i64 l[i].off) ∧ w.cell? ⟨g, o + i * 3 + 1, none⟩ = some (.int .i64 l[i].page) ∧ w.cell? ⟨g, o + i * 3 + 2, none⟩ = some (.int .i64 l[i].count))
theorem RunsAt.kept {w w' : World} {v : Value} {l : List RunD} (h : RunsAt w v l) (hm : Mod None_ w w') : RunsAt w' v l := by
  obtain ⟨A, c, h1, h2, h3, h4, h5, h6⟩ := h
  refine ⟨A, c, h1, h2, h3, h4, h5, fun h0 => ?_⟩
  obtain ⟨g, o, e, hg, hc⟩ := h6 h0
  have hb := hm.block g hg id
  exact ⟨g, o, e, Nat.lt_of_lt_of_le hg hm.size, fun i hi => ⟨(World.cell?_of_block hb).trans (hc i hi).1, (World.cell?_of_block hb).trans (hc i hi).2.1, (World.cell?_of_block hb).trans (hc i hi).2.2⟩⟩

/-- a run's first i pages are set -/
def setN (f : Nat → Int) (o : Nat) (page : Int) : Nat → (Nat → Int)
  | 0 => f
  | i + 1 => setAt (setN f o page i) (o + i) (wrap64 (page + i))
def tableOf (l : List RunD) : Nat → Int := l.foldl (fun f r => setN f r.off.toNat r.page r.count.toNat) (fun _ => 0)
theorem tableOf_snoc (l : List RunD) (r : RunD) : tableOf (l ++ [r]) = setN (tableOf l) r.off.toNat r.page r.count.toNat := by unfold tableOf; rw [List.foldl_append]; rfl
/-- a run that Load takes -/
def okRun (r : RunD) : Bool := decide (1 ≤ r.count) && decide (1 ≤ r.page) && decide (0 ≤ r.off ∧ r.off < 512) && decide (r.count ≤ 512 - r.off)

theorem set_o (w : World) (t r : Nat) (mid leaf : Nat → Option Nat) (f : Nat → Int) (many v n : Int) (o : Nat) (h : RadixAt w t r mid leaf f many) (hn : n = o) (ho : o < 512) :
    Calls Try.prog 52 #[.pointer (some ⟨t, 0, none⟩), .int .i64 n, .int .i64 v] w (SetPost w t r mid leaf f o v) := by
  subst hn
  have := set_any w t r mid leaf f many v (o / 8) (o % 8) h (by omega) (by omega)
  have e : o / 8 * 8 + o % 8 = o := by omega
  rw [e] at this
  exact this

/-- the loop of Load, over one run's pages -/
def LoadIn (w : World) (mb : Nat) (f : Nat → Int) (x : RunD) (i : Nat) (wr : World) : Prop :=
  Blk wr mb 51 #[.int .i64 x.off, .int .i64 x.page, .int .i64 x.count] ∧ ∃ mid leaf many, RadixAt wr (w.heap.size + 1) w.heap.size mid leaf (setN f x.off.toNat x.page i) many ∧ (∀ g, TreeB (w.heap.size + 1) w.heap.size mid leaf g → w.heap.size ≤ g ∧ g ≠ mb) ∧ Mod None_ w wr
/-- what Load leaves -/
def LoadPost (w : World) (l : List RunD) : Ending → World → Prop := fun e w' =>
  if l.all okRun = true then ∃ t r mid leaf many, e = .returned (.tuple #[.pointer (some ⟨t, 0, none⟩), .int .i64 0]) ∧ RadixAt w' t r mid leaf (tableOf l) many ∧ (∀ g, TreeB t r mid leaf g → w.heap.size ≤ g) ∧ Mod None_ w w'
  else e = .returned (.tuple #[.pointer none, .int .i64 70]) ∧ Mod None_ w w'
/-- the loop of Load, over the runs -/
def LoadRel (w : World) (l : List RunD) (k : Nat) (wr : World) : Prop :=
  (l.take k).all okRun = true ∧ ∃ mid leaf many, RadixAt wr (w.heap.size + 1) w.heap.size mid leaf (tableOf (l.take k)) many ∧ (∀ g, TreeB (w.heap.size + 1) w.heap.size mid leaf g → w.heap.size ≤ g) ∧ Mod None_ w wr

set_option maxRecDepth 100000 in
set_option maxHeartbeats 4000000 in
theorem load_any (w : World) (v : Value) (l : List RunD) (h : RunsAt w v l) : Calls Try.prog 41 #[v] w (LoadPost w l) := by
  obtain ⟨A, c, rfl, hc1, hc2, hl, hok, hA⟩ := h
  have HOK := hide hok
  have HA := hide hA
  clear hok hA
  have hln : ∀ w, (Builtin.len_ #[22] 3 #[.slice A l.length c]).run Try.prog w = .ok (.int .i64 l.length) w := fun w => by simp [Builtin.len_, run_underlying Try.underlying22]; rfl
  go_enter Try.func41, Try.ntmps41
  go_wp2_with fail
  refine (rnew_any w).mono ?_
  rintro e w1 ⟨rfl, hR, hM⟩
  have h0 : LoadRel w l 0 w1 := ⟨rfl, none8, none8, 0, hR, (fun g hg => by
    rcases hg with rfl | rfl | ⟨k, _, hk⟩ | ⟨k, _, hk⟩
    · omega
    · exact Nat.le_refl _
    · cases hk
    · cases hk), hM⟩
  clear hR hM
  go_wp2_with fail
  go_loopw [11] (fun i wr => ∃ k : Nat, k ≤ l.length ∧ i = .int .i64 k ∧ LoadRel w l k wr) (fun i _ => l.length - (intOf i).toNat)
  case atStart => exact ⟨0, Nat.zero_le _, rfl, h0⟩
  case round =>
    obtain ⟨k, hk, rfl, hR⟩ := hrel
    clear h0
    by_cases hlt : k < l.length
    · have hki : (k : Int) < l.length := by omega
      obtain ⟨hall, mid, leaf, many, hT, hB, hM⟩ := hR
      obtain ⟨g, o, rfl, hg, hcell⟩ := HA.out (by omega)
      obtain ⟨x0, x1, x2⟩ := hcell k hlt
      obtain ⟨⟨ho1, ho2⟩, ⟨hp1, hp2⟩, hn1, hn2⟩ := HOK.out l[k] (List.getElem_mem hlt)
      have htk : l.take (k + 1) = l.take k ++ [l[k]] := List.take_succ_eq_append_getElem hlt
      obtain ⟨x, hx⟩ : ∃ x, x = l[k] := ⟨_, rfl⟩
      rw [← hx] at x0 x1 x2 ho1 ho2 hp1 hp2 hn1 hn2 htk
      replace x0 := (World.cell?_of_block (hM.block g hg id)).trans x0
      replace x1 := (World.cell?_of_block (hM.block g hg id)).trans x1
      replace x2 := (World.cell?_of_block (hM.block g hg id)).trans x2
      have HTL := hide (fun g (hg : TreeB (w.heap.size + 1) w.heap.size mid leaf g) => hT.lt hg)
      have HX := hide hx
      have HTK := hide htk
      have HALL := hide hall
      have HT := hide hT
      have HB := hide hB
      have HM := hide hM
      clear hx htk hall hT hB hM hcell
      go_upto_region 5 with fail
      obtain ⟨wa, hwa⟩ : ∃ wa, wa = wr.alloc (.cells #[.int .i64 x.off, .int .i64 x.page, .int .i64 x.count] 51) := ⟨_, rfl⟩
      obtain ⟨mb, hmb⟩ : ∃ mb, mb = wr.heap.size := ⟨_, rfl⟩
      rw [← hwa, ← hmb]
      have hBx : Blk wa mb 51 #[.int .i64 x.off, .int .i64 x.page, .int .i64 x.count] := by rw [hwa, hmb]; exact Blk.new wr _ _
      have hMa : Mod None_ wr wa := by rw [hwa]; exact (Mod.refl _ wr).alloc _
      have hmbw : wr.heap.size ≤ mb := by omega
      have y0 : wa.cell? ⟨mb, 0, none⟩ = some (.int .i64 x.off) := hBx.cell 0
      have y1 : wa.cell? ⟨mb, 1, none⟩ = some (.int .i64 x.page) := hBx.cell 1
      have y2 : wa.cell? ⟨mb, 2, none⟩ = some (.int .i64 x.count) := hBx.cell 2
      replace HT := hide (HT.out.kept hMa)
      replace HM := hide (HM.out.trans hMa)
      clear hwa hmb x0 x1 x2
      go_cut [36] from 15 to 36 (fun s wx => s = .bool (!okRun x) ∧ wx = wa)
      case first =>
        by_cases c1 : 1 ≤ x.count
        · by_cases c2 : 1 ≤ x.page
          · have ho := isOff_any x.off wa
            by_cases c3 : 0 ≤ x.off ∧ x.off < 512
            · rw [decide_eq_true c3] at ho
              have d1 : ¬ x.count < 1 := by omega
              have d2 : ¬ x.page < 1 := by omega
              obtain ⟨c3a, c3b⟩ := c3
              have hsub : 512 - x.off ≤ 512 := by omega
              by_cases c4 : x.count ≤ 512 - x.off
              · have d4 : decide (512 - x.off < x.count) = false := decide_eq_false (by omega)
                have e : okRun x = true := by simp [okRun, c1, c2, c3a, c3b, c4]
                have E := hide e
                have HO := hide ho
                clear e ho
                go_wp2_with fail
                refine Calls.mono HO.out ?_
                rintro e w2 ⟨rfl, rfl⟩
                go_wp2_with fail
                go_meet
                case rel => exact ⟨by rw [E.out]; rfl, rfl⟩
              · have d4 : decide (512 - x.off < x.count) = true := decide_eq_true (by omega)
                have e : okRun x = false := by simp [okRun]; intros; omega
                have E := hide e
                have HO := hide ho
                clear e ho
                go_wp2_with fail
                refine Calls.mono HO.out ?_
                rintro e w2 ⟨rfl, rfl⟩
                go_wp2_with fail
                go_meet
                case rel => exact ⟨by rw [E.out]; rfl, rfl⟩
            · rw [decide_eq_false c3] at ho
              have d1 : ¬ x.count < 1 := by omega
              have d2 : ¬ x.page < 1 := by omega
              have e : okRun x = false := by simp [okRun]; intros; omega
              have E := hide e
              have HO := hide ho
              clear e ho c3
              go_wp2_with fail
              refine Calls.mono HO.out ?_
              rintro e w2 ⟨rfl, rfl⟩
              go_wp2_with fail
              go_meet
              case rel => exact ⟨by rw [E.out]; rfl, rfl⟩
          · have d1 : ¬ x.count < 1 := by omega
            have d2 : x.page < 1 := by omega
            have e : okRun x = false := by simp [okRun]; intros; omega
            have E := hide e
            clear e
            go_wp2_with fail
            go_meet
            case rel => exact ⟨by rw [E.out]; rfl, rfl⟩
        · have d1 : x.count < 1 := by omega
          have e : okRun x = false := by simp [okRun]; intros; omega
          have E := hide e
          clear e
          go_wp2_with fail
          go_meet
          case rel => exact ⟨by rw [E.out]; rfl, rfl⟩
      case rest =>
        obtain ⟨rfl, rfl⟩ := hcut
        cases hokx : okRun x with
        | false =>
          have hfin : LoadPost w l (.returned (.tuple #[.pointer none, .int .i64 70])) wc := by
            unfold LoadPost
            rw [if_neg ?_]
            · exact ⟨rfl, HM.out⟩
            · intro e
              have := List.all_eq_true.1 e l[k] (List.getElem_mem hlt)
              rw [← HX.out, hokx] at this
              cases this
          have HF := hide hfin
          clear hfin hokx
          go_wp2
          go_ret2
          exact HF.out
        | true =>
          rw [show (!true) = false from rfl]
          have hok2 := hokx
          simp only [okRun, Bool.and_eq_true, decide_eq_true_eq] at hok2
          obtain ⟨⟨⟨q1, q2⟩, q3, q4⟩, q5⟩ := hok2
          obtain ⟨n, hn⟩ : ∃ n : Nat, x.count = n := ⟨x.count.toNat, by omega⟩
          obtain ⟨o1, ho1'⟩ : ∃ o1 : Nat, x.off = o1 := ⟨x.off.toNat, by omega⟩
          have hno : o1 + n ≤ 512 := by omega
          have hin0 : LoadIn w mb (tableOf (l.take k)) x 0 wc := ⟨hBx, mid, leaf, many, HT.out, fun g hg => ⟨HB.out g hg, fun e => by
            have := HTL.out g hg
            omega⟩, HM.out⟩
          have HN := hide hn
          have HO1 := hide ho1'
          have hto : x.off.toNat = o1 := by omega
          have HTO := hide hto
          have hni : (n : Int) ≤ 512 := by omega
          have hnx : x.count ≤ (n : Int) := by omega
          have hnx2 : (n : Int) ≤ x.count := by omega
          have hox : x.off ≤ (o1 : Int) := by omega
          have hox2 : (o1 : Int) ≤ x.off := by omega
          obtain ⟨wo, rfl⟩ : ∃ wo : World, wo = wr := ⟨_, rfl⟩
          clear hn ho1' hto HT HM HB hBx y0 y1
          go_wp2_with fail
          go_loopw [7, 39] (fun _ s wr => ∃ i : Nat, i ≤ n ∧ s = .int .i64 i ∧ LoadIn w mb (tableOf (l.take k)) x i wr) (fun _ s _ => n - (intOf s).toNat)
          case atStart => exact ⟨0, Nat.zero_le _, rfl, hin0⟩
          case round =>
            obtain ⟨i, hi, rfl, hB, mid2, leaf2, many2, hT, hTB, hM⟩ := hrel
            clear hin0
            have z0 : wr.cell? ⟨mb, 0, none⟩ = some (.int .i64 x.off) := hB.cell 0
            have z1 : wr.cell? ⟨mb, 1, none⟩ = some (.int .i64 x.page) := hB.cell 1
            by_cases hin : i < n
            · have hii : (i : Int) < x.count := by omega
              have hset := set_o wr _ _ _ _ _ _ (wrap64 (x.page + i)) (x.off + i) (o1 + i) hT (by rw [HO1.out]; push_cast; rfl) (by omega)
              have HS := hide hset
              have HB := hide hB
              have HTB := hide hTB
              have HM := hide hM
              clear hset hT hB hTB hM
              go_wp2_with fail
              refine Calls.mono HS.out ?_
              rintro e w5 ⟨mid3, leaf3, many3, rfl, hT3, hM3, hB3⟩
              have hlt5 := HB.out.lt
              have hnext : LoadIn w mb (tableOf (l.take k)) x (i + 1) w5 := by
                refine ⟨HB.out.mod hM3 (fun e => (HTB.out _ e).2 rfl), mid3, leaf3, many3, ?_, fun g hg => ?_, HM.out.trans' hM3 (fun g hg e => by have := (HTB.out g e).1; omega)⟩
                · show RadixAt w5 _ _ _ _ (setAt (setN (tableOf (l.take k)) x.off.toNat x.page i) (x.off.toNat + i) (wrap64 (x.page + i))) _
                  rw [HTO.out] at hT3 ⊢
                  exact hT3
                · rcases hB3 g hg with e | e
                  · exact HTB.out g e
                  · have := HM.out.size
                    exact ⟨by omega, by omega⟩
              have HNX := hide hnext
              clear hnext hT3 hM3 hB3
              go_wp2
              go_roundw
              case rel => exact ⟨i + 1, by omega, by simp, HNX.out⟩
              case measure => simp [intOf]; omega
            · obtain rfl : i = n := by omega
              have hii : x.count ≤ (i : Int) := by omega
              have hfin : LoadRel w l (k + 1) wr := by
                refine ⟨by rw [HTK.out, List.all_append, HALL.out]; simp [hokx], mid2, leaf2, many2, ?_, fun g hg => (hTB g hg).1, hM⟩
                rw [HTK.out, tableOf_snoc]
                have e : x.count.toNat = i := by omega
                rw [e]
                exact hT
              have HF := hide hfin
              clear hfin hT hTB hM hB hokx
              go_wp2
              go_roundw
              case rel => exact ⟨k + 1, by omega, by simp, HF.out⟩
              case measure => simp [intOf]; omega
    · obtain rfl : k = l.length := by omega
      obtain ⟨hall, mid, leaf, many, hT, hB, hM⟩ := hR
      rw [List.take_length] at hall hT
      have hfin : LoadPost w l (.returned (.tuple #[.pointer (some ⟨w.heap.size + 1, 0, none⟩), .int .i64 0])) wr := by
        unfold LoadPost
        rw [if_pos hall]
        exact ⟨_, _, _, _, _, rfl, hT, hB, hM⟩
      have HF := hide hfin
      clear hfin hall hT hB hM
      go_wp2
      go_ret2
      exact HF.out
end Go.Proofs.Ytabebkffcmajkaa
