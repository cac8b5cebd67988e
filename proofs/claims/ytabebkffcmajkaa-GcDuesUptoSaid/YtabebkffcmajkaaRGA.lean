import Derived.Test.YtabebkffcmajkaaIN7
/-! Reference walks: Data, EndPage, goodRun. -/
namespace Go.Proofs.Ytabebkffcmajkaa
open Go.RowKit Go.Maps Go.Shelf

def dataB (p : Int) : Bool := decide (5 ≤ p) && decide (p < 1024)
theorem refData_any (w : World) (p : Int) : Calls Try.prog 49 #[.int .i64 p] w fun e w' => e = .returned (.bool (dataB p)) ∧ w = w' := by
  by_cases h : 5 ≤ p
  · have d1 : decide (5 ≤ p) = true := decide_eq_true h
    have e : dataB p = decide (p < 1024) := by unfold dataB; rw [d1]; rfl
    rw [e]
    clear h e
    go_enter Try.func49, Try.ntmps49
    go_wp2
    go_ret
    exact ⟨rfl, rfl⟩
  · have d1 : decide (5 ≤ p) = false := decide_eq_false h
    have e : dataB p = false := by unfold dataB; rw [d1]; rfl
    rw [e]
    clear h e
    go_enter Try.func49, Try.ntmps49
    go_wp2
    go_ret
    exact ⟨rfl, rfl⟩

theorem refEndPage_any (n : Int) (w : World) (h0 : 0 ≤ n) (h1 : n ≤ 262144) : Calls Try.prog 33 #[.int .i64 n] w fun e w' => e = .returned (.int .i64 ((n + 511) / 512)) ∧ w = w' := by
  have e : n + 512 - 1 = n + 511 := by omega
  have E := hide e
  clear e
  go_enter Try.func33, Try.ntmps33
  go_wp2
  go_ret
  rw [E.out]
  simp

/-- what the reference asks of a run -/
def refRun (r : RunD) : Bool := decide (0 ≤ r.off) && decide (r.off < 512) && decide (1 ≤ r.count) && decide (r.count ≤ 512 - r.off) && dataB r.page && decide (r.page ≤ 1024 - r.count)

set_option maxRecDepth 100000 in
set_option maxHeartbeats 2000000 in
theorem refRun_any (w : World) (r : RunD) : Calls Try.prog 32 #[.agg #[.int .i64 r.off, .int .i64 r.page, .int .i64 r.count]] w fun e w' => e = .returned (.bool (refRun r)) ∧ Mod None_ w w' := by
  have HM : Hid (Mod None_ w (w.alloc (.cells #[.int .i64 r.off, .int .i64 r.page, .int .i64 r.count] 51))) := hide ((Mod.refl None_ w).alloc _)
  by_cases h1 : 0 ≤ r.off
  · by_cases h2 : r.off < 512
    · by_cases h3 : 1 ≤ r.count
      · by_cases h4 : r.count ≤ 512 - r.off
        · have d0 : decide (r.off < 0) = false := decide_eq_false (by omega)
          have d2 : decide (512 ≤ r.off) = false := decide_eq_false (by omega)
          have d3 : decide (r.count < 1) = false := decide_eq_false (by omega)
          have d4 : decide (512 - r.off < r.count) = false := decide_eq_false (by omega)
          have e : refRun r = (dataB r.page && decide (r.page ≤ 1024 - r.count)) := by unfold refRun; rw [decide_eq_true h1, decide_eq_true h2, decide_eq_true h3, decide_eq_true h4]; rfl
          rw [e]
          clear e
          go_enter Try.func32, Try.ntmps32
          go_wp2_with fail
          refine (refData_any _ r.page).mono ?_
          rintro e w2 ⟨rfl, rfl⟩
          cases hd : dataB r.page with
          | true =>
            have HD := hide hd
            clear hd
            go_wp2
            go_ret
            exact ⟨by rw [HD.out]; simp, HM.out⟩
          | false =>
            have HD := hide hd
            clear hd
            go_wp2
            go_ret
            exact ⟨by rw [HD.out]; simp, HM.out⟩
        · have d0 : decide (r.off < 0) = false := decide_eq_false (by omega)
          have d2 : decide (512 ≤ r.off) = false := decide_eq_false (by omega)
          have d3 : decide (r.count < 1) = false := decide_eq_false (by omega)
          have d4 : decide (512 - r.off < r.count) = true := decide_eq_true (by omega)
          have e : refRun r = false := by unfold refRun; rw [decide_eq_false h4]; simp
          rw [e]
          clear e h4
          go_enter Try.func32, Try.ntmps32
          go_wp2
          go_ret
          exact ⟨rfl, HM.out⟩
      · have d0 : decide (r.off < 0) = false := decide_eq_false (by omega)
        have d2 : decide (512 ≤ r.off) = false := decide_eq_false (by omega)
        have d3 : decide (r.count < 1) = true := decide_eq_true (by omega)
        have e : refRun r = false := by unfold refRun; rw [decide_eq_false h3]; simp
        rw [e]
        clear e h3
        go_enter Try.func32, Try.ntmps32
        go_wp2
        go_ret
        exact ⟨rfl, HM.out⟩
    · have d0 : decide (r.off < 0) = false := decide_eq_false (by omega)
      have d2 : decide (512 ≤ r.off) = true := decide_eq_true (by omega)
      have e : refRun r = false := by unfold refRun; rw [decide_eq_false h2]; simp
      rw [e]
      clear e h2
      go_enter Try.func32, Try.ntmps32
      go_wp2
      go_ret
      exact ⟨rfl, HM.out⟩
  · have d0 : decide (r.off < 0) = true := decide_eq_true (by omega)
    have e : refRun r = false := by unfold refRun; rw [decide_eq_false h1]; simp
    rw [e]
    clear e h1
    go_enter Try.func32, Try.ntmps32
    go_wp2
    go_ret
    exact ⟨rfl, HM.out⟩
end Go.Proofs.Ytabebkffcmajkaa

/-! Reference walk: ValidName. -/
namespace Go.Proofs.Ytabebkffcmajkaa
open Go.RowKit Go.Maps Go.Shelf
theorem toList_nil (s : ByteArray) : s.toList = [] ↔ s.size = 0 := by
  obtain ⟨⟨l⟩⟩ := s
  rw [show (ByteArray.mk { toList := l }) = ByteArray.mk l.toArray from rfl, ByteArray.toList_mk]
  constructor
  · rintro rfl; rfl
  · intro h
    have h2 : l.length = 0 := by simpa [ByteArray.size] using h
    exact List.length_eq_zero_iff.1 h2
set_option maxRecDepth 100000 in
set_option maxHeartbeats 1000000 in
theorem refValid_any (s : ByteArray) (w : World) :
    Calls Try.prog 37 #[.string s] w fun e w' => e = .returned (.bool (goodName s)) ∧ w = w' := by
  by_cases h0 : s.size = 0
  · have hg : goodName s = false := by simp [goodName, h0]
    have hn : s.toList = [] := (toList_nil s).2 h0
    have he : s.toList.isEmpty = true := by rw [hn]; rfl
    have HB := hide hg
    clear hg
    go_enter Try.func37, Try.ntmps37
    go_wp2
    all_goals
      go_ret
      exact ⟨by rw [HB.out]; rfl, rfl⟩
  · by_cases h1 : 28 < s.size
    · have hg : goodName s = false := by
        unfold goodName
        rw [decide_eq_false (p := s.size ≤ 28) (by omega)]
        simp
      have h1' : (28 : Int) < s.size := by omega
      have HB := hide hg
      clear hg
      go_enter Try.func37, Try.ntmps37
      go_wp2
      all_goals
        go_ret
        exact ⟨by rw [HB.out]; rfl, rfl⟩
    · have h1' : ¬ (28 : Int) < s.size := by omega
      cases h2 : (s.toList == [46]) with
      | true =>
        have hg : goodName s = false := by simp [goodName, h2]
        have HB := hide hg
        clear hg
        go_enter Try.func37, Try.ntmps37
        go_wp2
        all_goals
          go_ret
          exact ⟨by rw [HB.out]; rfl, rfl⟩
      | false =>
        cases h3 : (s.toList == [46, 46]) with
        | true =>
          have hg : goodName s = false := by simp [goodName, h3]
          have HB := hide hg
          clear hg
          go_enter Try.func37, Try.ntmps37
          go_wp2
          all_goals
            go_ret
            exact ⟨by rw [HB.out]; rfl, rfl⟩
        | false =>
          have hg : goodName s = s.data.toList.all okByte := by
            unfold goodName
            rw [h2, h3, decide_eq_true (p := 1 ≤ s.size) (by omega), decide_eq_true (p := s.size ≤ 28) (by omega)]
            simp
          have hs28 : s.size ≤ 28 := by omega
          have HG := hide hg
          clear hg
          go_enter Try.func37, Try.ntmps37
          have he : s.toList.isEmpty = false := by
            cases hq : s.toList with
            | nil => exact absurd ((toList_nil s).1 hq) h0
            | cons a l => rfl
          have he2 : ¬ s.toList = [] := by intro h; rw [h] at he; cases he
          have hlen : s.data.toList.length = s.size := by simp
          have HL := hide hlen
          clear hlen h0
          go_wp2_with fail
          go_loopw [3] (fun s3 wr => ∃ k : Nat, k ≤ s.size ∧ s3 = .int .i64 k ∧ (s.data.toList.take k).all okByte = true ∧ w = wr) (fun s3 _ => s.size - (intOf s3).toNat)
          case atStart => exact ⟨0, Nat.zero_le _, rfl, rfl, rfl⟩
          obtain ⟨k, hk, rfl, hok, rfl⟩ := hrel
          have HO := hide hok
          clear hok
          by_cases hlt : k < s.size
          · have hki : (k : Int) < s.size := by omega
            have hl : k < s.data.toList.length := by rw [HL.out]; exact hlt
            have hel : s.data.toList[k] = s[k] := by simp; rfl
            have htk : (s.data.toList.take (k + 1)).all okByte = okByte s[k] := by
              rw [List.take_succ_eq_append_getElem hl, List.all_append, HO.out, hel]; simp
            have hbad : okByte s[k] = false → s.data.toList.all okByte = false := fun h => by
              rw [List.all_eq_false]
              exact ⟨s.data.toList[k], List.getElem_mem _, by rw [hel, h]; decide⟩
            by_cases hb0 : s[k].toNat = 0
            · have hb0' : ((s[k].toNat : Int) == 0) = true := by rw [hb0]; rfl
              have hb : okByte s[k] = false := by
                have : s[k] = 0 := UInt8.toNat_inj.1 hb0
                rw [this]; decide
              have HB := hide (hbad hb)
              clear hbad htk hel hb
              go_wp2
              go_ret
              exact ⟨by rw [HG.out, HB.out]; rfl, rfl⟩
            · have hb0' : ((s[k].toNat : Int) == 0) = false := by rw [beq_eq_false_iff_ne]; omega
              by_cases hb1 : s[k].toNat = 47
              · have hb1' : ((s[k].toNat : Int) == 47) = true := by rw [hb1]; rfl
                have hb : okByte s[k] = false := by
                  have : s[k] = 47 := UInt8.toNat_inj.1 hb1
                  rw [this]; decide
                have HB := hide (hbad hb)
                clear hbad htk hel hb
                go_wp2
                go_ret
                exact ⟨by rw [HG.out, HB.out]; rfl, rfl⟩
              · have hb1' : ((s[k].toNat : Int) == 47) = false := by rw [beq_eq_false_iff_ne]; omega
                have hb : okByte s[k] = true := by
                  unfold okByte
                  have h1 : s[k] ≠ 0 := fun h => hb0 (by rw [h]; rfl)
                  have h2 : s[k] ≠ 47 := fun h => hb1 (by rw [h]; rfl)
                  simp [h1, h2]
                have HT := hide (htk.trans hb)
                clear hbad htk hel hb
                go_wp2_with fail
                go_roundw
                case rel => exact ⟨k + 1, by omega, by simp, HT.out, trivial⟩
                case measure => simp [intOf]; omega
          · obtain rfl : k = s.size := by omega
            have hkn : ¬ (s.size : Int) < s.size := by omega
            have hall : s.data.toList.all okByte = true := by
              have := HO.out
              rw [← HL.out, List.take_length] at this
              exact this
            have HA := hide hall
            clear hall hlt
            go_wp2
            go_ret
            exact ⟨by rw [HG.out, HA.out]; rfl, rfl⟩
end Go.Proofs.Ytabebkffcmajkaa
