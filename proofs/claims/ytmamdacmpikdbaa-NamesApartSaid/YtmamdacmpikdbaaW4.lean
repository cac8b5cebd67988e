import Derived.Test.YtmamdacmpikdbaaW3
/-! Walks: place, ino, good. -/
namespace Go.Proofs.Ytmamdacmpikdbaa
open Go.RowKit Go.Maps

theorem tmod_emod_pos (a n : Int) (hn : 0 < n) : (if a.tmod n < 0 then a.tmod n + n else a.tmod n) = a % n := by
  have h := Int.emod_nonneg a (show n ≠ 0 by omega)
  have h2 := Int.emod_lt_of_pos a hn
  rw [Int.tmod_eq_emod]
  split <;> split <;> omega

set_option maxRecDepth 100000 in
set_option maxHeartbeats 400000 in
theorem place_any (a n : Int) (w : World) (hn : 0 < n) (hb : n < 4611686018427387904) (ha : -9223372036854775808 ≤ a) (ha' : a ≤ 9223372036854775807) :
    Calls Try.prog 27 #[.int .i64 a, .int .i64 n] w fun e w' => e = .returned (.int .i64 (a % n)) ∧ w = w' := by
  have hE := hide (tmod_emod_pos a n hn)
  have h1 : ¬ n < 1 := by omega
  have hn0 : (n == 0) = false := by rw [beq_eq_false_iff_ne]; omega
  have hb1 : -n < a.tmod n ∧ a.tmod n < n := by
    have h := Int.emod_nonneg a (show n ≠ 0 by omega)
    have h2 := Int.emod_lt_of_pos a hn
    rw [Int.tmod_eq_emod]
    split <;> omega
  by_cases h0 : 0 ≤ a
  · have hr : 0 ≤ a % n := Int.emod_nonneg a (by omega)
    have hr2 : a % n < n := Int.emod_lt_of_pos a hn
    have hr3 : ¬ a % n < 0 := by omega
    clear hb1
    go_enter Try.func27, Try.ntmps27
    go_wp2
    go_ret
    exact ⟨rfl, rfl⟩
  · obtain ⟨hb1, hb2⟩ := hb1
    by_cases hneg : a.tmod n < 0
    · have hw : IntKind.i64.wrap (a.tmod n + n) = a.tmod n + n := IntWalk.i64_in _ (by omega)
      go_enter Try.func27, Try.ntmps27
      go_wp2
      go_ret
      refine ⟨?_, rfl⟩
      have := hE.out
      rw [if_pos hneg] at this
      rw [← this]
      rfl
    · go_enter Try.func27, Try.ntmps27
      go_wp2
      go_ret
      refine ⟨?_, rfl⟩
      have := hE.out
      rw [if_neg (by omega)] at this
      rw [← this]
      rfl

def inoOf (n : Int) : Int := 1 + n % 256
theorem inoOf_bd (n : Int) : 1 ≤ inoOf n ∧ inoOf n ≤ 256 := by unfold inoOf; omega

set_option maxRecDepth 100000 in
set_option maxHeartbeats 400000 in
theorem ino_any (n : Int) (w : World) (ha : -9223372036854775808 ≤ n) (ha' : n ≤ 9223372036854775807) :
    Calls Try.prog 16 #[.int .i64 n] w fun e w' => e = .returned (.int .i64 (inoOf n)) ∧ w = w' := by
  have h1 : 0 ≤ n % 256 := by omega
  have h2 : n % 256 < 256 := by omega
  go_enter Try.func16, Try.ntmps16
  go_wp2_with (go_at_call 27; refine (place_any _ _ _ (by omega) (by omega) ha ha').mono ?_; rintro e w' ⟨rfl, rfl⟩)
  go_ret
  exact ⟨rfl, rfl⟩

set_option maxRecDepth 100000 in
set_option maxHeartbeats 400000 in
theorem good_any (s : ByteArray) (w : World) :
    Calls Try.prog 24 #[.string s] w fun e w' => e = .returned (.bool (goodName s)) ∧ w = w' := by
  by_cases h0 : s.size = 0
  · have h0' : (s.size : Int) < 1 := by omega
    have hg : goodName s = false := by simp [goodName, h0]
    have HG := hide hg
    clear hg h0
    go_enter Try.func24, Try.ntmps24
    go_wp2
    go_ret
    exact ⟨by rw [HG.out]; rfl, rfl⟩
  · have h0' : ¬ (s.size : Int) < 1 := by omega
    by_cases h1 : 28 < s.size
    · have hg : goodName s = false := by
        unfold goodName
        rw [decide_eq_false (p := s.size ≤ 28) (by omega)]
        simp
      have HG := hide hg
      have h1' : (28 : Int) < s.size := by omega
      clear hg h0 h1
      go_enter Try.func24, Try.ntmps24
      go_wp2
      go_ret
      exact ⟨by rw [HG.out]; rfl, rfl⟩
    · have h1' : ¬ (28 : Int) < s.size := by omega
      cases h2 : (s.toList == [46]) with
      | true =>
        have hg : goodName s = false := by simp [goodName, h2]
        have HG := hide hg
        clear hg h0
        go_enter Try.func24, Try.ntmps24
        go_wp2
        go_ret
        exact ⟨by rw [HG.out]; rfl, rfl⟩
      | false =>
        cases h3 : (s.toList == [46, 46]) with
        | true =>
          have hg : goodName s = false := by simp [goodName, h3]
          have HG := hide hg
          clear hg h0
          go_enter Try.func24, Try.ntmps24
          go_wp2
          go_ret
          exact ⟨by rw [HG.out]; rfl, rfl⟩
        | false =>
          have hg : goodName s = s.data.toList.all okByte := by
            unfold goodName
            rw [h2, h3, decide_eq_true (p := 1 ≤ s.size) (by omega), decide_eq_true (p := s.size ≤ 28) (by omega)]
            simp
          have HG := hide hg
          have hsz : s.size ≤ 28 := by omega
          have hlen : s.data.toList.length = s.size := by simp
          have HL := hide hlen
          clear hg h0 h1 hlen
          go_enter Try.func24, Try.ntmps24
          go_wp2
          go_loop [3] (fun i => ∃ k : Nat, k ≤ s.size ∧ i = .int .i64 k ∧ ∀ j, j < k → okByte (s.data.toList.getD j 0) = true) (fun i => s.size - (intOf i).toNat)
          case atStart => exact ⟨0, Nat.zero_le _, rfl, by omega⟩
          case round =>
            obtain ⟨k, hk, rfl, hok⟩ := hrel
            have HO := hide hok
            clear hok
            by_cases hlt : k < s.size
            · have hbd : s[k] = s.data.toList.getD k 0 := by rw [getD_lt (by rw [HL.out]; exact hlt)]; rfl
              have hmem : s[k] ∈ s.data.toList := by
                rw [hbd, getD_lt (by rw [HL.out]; exact hlt)]; exact List.getElem_mem _
              have HB := hide hbd
              have HM := hide hmem
              have hbl := s[k].toNat_lt
              clear hbd hmem
              by_cases hb0 : s[k].toNat = 0
              · have hb0' : ((s[k].toNat : Int) == 0) = true := by rw [hb0]; rfl
                have hbad : s.data.toList.all okByte = false := by
                  rw [List.all_eq_false]
                  refine ⟨s[k], HM.out, ?_⟩
                  have : s[k] = 0 := UInt8.toNat_inj.1 hb0
                  rw [this]; decide
                have HBad := hide hbad
                clear hb0 hbad
                go_wp2
                go_ret
                exact ⟨by rw [HG.out, HBad.out]; rfl, rfl⟩
              · have hb0' : ((s[k].toNat : Int) == 0) = false := by rw [beq_eq_false_iff_ne]; omega
                by_cases hb1 : s[k].toNat = 47
                · have hb1' : ((s[k].toNat : Int) == 47) = true := by rw [hb1]; rfl
                  have hbad : s.data.toList.all okByte = false := by
                    rw [List.all_eq_false]
                    refine ⟨s[k], HM.out, ?_⟩
                    have : s[k] = 47 := UInt8.toNat_inj.1 hb1
                    rw [this]; decide
                  have HBad := hide hbad
                  clear hb0 hb1 hbad
                  go_wp2
                  go_ret
                  exact ⟨by rw [HG.out, HBad.out]; rfl, rfl⟩
                · have hb1' : ((s[k].toNat : Int) == 47) = false := by rw [beq_eq_false_iff_ne]; omega
                  have hbok : okByte s[k] = true := by
                    unfold okByte
                    rw [Bool.and_eq_true, bne_iff_ne, bne_iff_ne]
                    exact ⟨fun e => hb0 (by rw [e]; rfl), fun e => hb1 (by rw [e]; rfl)⟩
                  have HBok := hide hbok
                  clear hb0 hb1 hbok
                  go_wp2
                  go_round
                  case rel =>
                    refine ⟨k + 1, by omega, by go_num, fun j hj => ?_⟩
                    by_cases e : j = k
                    · subst e; rw [← HB.out]; exact HBok.out
                    · exact HO.out j (by omega)
                  case measure => simp [intOf]; omega
            · have hall : s.data.toList.all okByte = true := by
                rw [List.all_eq_true]
                intro x hx
                obtain ⟨j, hj, rfl⟩ := List.getElem_of_mem hx
                have := HO.out j (by have := HL.out; omega)
                rwa [getD_lt hj] at this
              have HA := hide hall
              clear hall
              go_wp2
              go_ret
              exact ⟨by rw [HG.out, HA.out]; rfl, rfl⟩
end Go.Proofs.Ytmamdacmpikdbaa
