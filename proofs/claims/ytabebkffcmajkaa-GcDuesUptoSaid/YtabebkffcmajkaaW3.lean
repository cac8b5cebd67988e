import Derived.Test.YtabebkffcmajkaaK
import Derived.Lib.ConvBytes
/-! Walks: isInode, place, ino, ValidName, good. -/
namespace Go.Proofs.Ytabebkffcmajkaa
open Go.RowKit Go.Maps

theorem getD_lt {α : Type} {l : List α} {i : Nat} {d : α} (h : i < l.length) : l.getD i d = l[i] := by simp [List.getD_eq_getElem?_getD, h]
def isInodeB (n : Int) : Bool := decide (1 ≤ n ∧ n ≤ 256)
theorem isInode_any (n : Int) (w : World) :
    Calls Try.prog 54 #[.int .i64 n] w fun e w' => e = .returned (.bool (isInodeB n)) ∧ w = w' := by
  go_enter Try.func54, Try.ntmps54
  go_wp2
  all_goals (go_ret; simp [isInodeB]; try omega)

def okByte (c : UInt8) : Bool := c != 0 && c != 47
def goodName (s : ByteArray) : Bool :=
  decide (1 ≤ s.size) && decide (s.size ≤ 28) && !(s.toList == [46]) && !(s.toList == [46, 46]) && s.data.toList.all okByte

set_option maxRecDepth 100000 in
set_option maxHeartbeats 400000 in
theorem validName_any (s : ByteArray) (w : World) :
    Calls Try.prog 55 #[.string s] w fun e w' => e = .returned (.bool (goodName s)) ∧ Mod (fun _ => False) w w' := by
  by_cases h0 : s.size = 0
  · have h0' : ((s.size : Int) == 0) = true := by simp [h0]
    have hg : goodName s = false := by simp [goodName, h0]
    have HG := hide hg
    clear hg h0
    go_enter Try.func55, Try.ntmps55
    go_wp2
    go_ret
    exact ⟨by rw [HG.out]; rfl, Mod.refl _ _⟩
  · have h0' : ((s.size : Int) == 0) = false := by
      rw [beq_eq_false_iff_ne]
      omega
    by_cases h1 : 28 < s.size
    · have hg : goodName s = false := by
        unfold goodName
        rw [decide_eq_false (p := s.size ≤ 28) (by omega)]
        simp
      have HG := hide hg
      have h1' : (28 : Int) < s.size := by omega
      clear hg h0 h1
      go_enter Try.func55, Try.ntmps55
      go_wp2
      go_ret
      exact ⟨by rw [HG.out]; rfl, Mod.refl _ _⟩
    · have h1' : ¬ (28 : Int) < s.size := by omega
      cases h2 : (s.toList == [46]) with
      | true =>
        have hg : goodName s = false := by simp [goodName, h2]
        have HG := hide hg
        clear hg h0
        go_enter Try.func55, Try.ntmps55
        go_wp2
        go_ret
        exact ⟨by rw [HG.out]; rfl, Mod.refl _ _⟩
      | false =>
        cases h3 : (s.toList == [46, 46]) with
        | true =>
          have hg : goodName s = false := by simp [goodName, h3]
          have HG := hide hg
          clear hg h0
          go_enter Try.func55, Try.ntmps55
          go_wp2
          go_ret
          exact ⟨by rw [HG.out]; rfl, Mod.refl _ _⟩
        | false =>
          have hg : goodName s = s.data.toList.all okByte := by
            unfold goodName
            rw [h2, h3, decide_eq_true (p := 1 ≤ s.size) (by omega), decide_eq_true (p := s.size ≤ 28) (by omega)]
            simp
          obtain ⟨w1, c, hcv, hM, hcell⟩ : ∃ w1 c, (Go.convert 9 113 (.string s)).run Try.prog w = .ok (.slice (some ⟨w.heap.size, 0, none⟩) s.size c) w1 ∧ Mod (fun _ => False) w w1 ∧
              ∀ j, j < s.size → w1.cell? ⟨w.heap.size, j, none⟩ = some (.int .u8 ((s.data.toList.getD j 0).toNat : Int)) :=
            ⟨_, _, Go.Lib.run_convert_string_bytes w 9 113 5 s Try.underlying9 Try.underlying113 Try.underlying5,
             ⟨rfl, rfl, rfl, by rw [Go.Lib.bytesWorld_size]; omega, fun k hk _ => Go.Lib.bytesWorld_at_old w 5 s k hk⟩, fun j hj => Go.Lib.bytesWorld_cell w 5 s j hj⟩
          have HG := hide hg
          have HC := hide hcell
          have hsz : s.size ≤ 28 := by omega
          have hlen : s.data.toList.length = s.size := by simp
          have HL := hide hlen
          clear hg hcell h0 h1 hlen
          go_enter Try.func55, Try.ntmps55
          go_wp2
          go_loop [24] (fun i => ∃ k : Nat, k ≤ s.size ∧ i = .int .i64 k ∧ ∀ j, j < k → okByte (s.data.toList.getD j 0) = true) (fun i => s.size - (intOf i).toNat)
          case atStart => exact ⟨0, Nat.zero_le _, rfl, by omega⟩
          case round =>
            obtain ⟨k, hk, rfl, hok⟩ := hrel
            have HO := hide hok
            clear hok
            by_cases hlt : k < s.size
            · have hc := HC.out k hlt
              obtain ⟨b, hb⟩ : ∃ b, b = s.data.toList.getD k 0 := ⟨_, rfl⟩
              rw [← hb] at hc
              have HB := hide hb
              clear hb
              have hbl := b.toNat_lt
              by_cases hb0 : b.toNat = 0
              · have hb0' : ((b.toNat : Int) == 0) = true := by rw [hb0]; rfl
                have hbad : s.data.toList.all okByte = false := by
                  rw [List.all_eq_false]
                  refine ⟨b, ?_, ?_⟩
                  · rw [HB.out, getD_lt (by rw [HL.out]; exact hlt)]; exact List.getElem_mem _
                  · have : b = 0 := UInt8.toNat_inj.1 hb0
                    subst this; decide
                have HBad := hide hbad
                clear hb0 hbad
                go_wp2
                go_ret
                exact ⟨by rw [HG.out, HBad.out]; rfl, hM⟩
              · have hb0' : ((b.toNat : Int) == 0) = false := by rw [beq_eq_false_iff_ne]; omega
                by_cases hb1 : b.toNat = 47
                · have hb1' : ((b.toNat : Int) == 47) = true := by rw [hb1]; rfl
                  have hbad : s.data.toList.all okByte = false := by
                    rw [List.all_eq_false]
                    refine ⟨b, ?_, ?_⟩
                    · rw [HB.out, getD_lt (by rw [HL.out]; exact hlt)]; exact List.getElem_mem _
                    · have : b = 47 := UInt8.toNat_inj.1 hb1
                      subst this; decide
                  have HBad := hide hbad
                  clear hb0 hb1 hbad
                  go_wp2
                  go_ret
                  exact ⟨by rw [HG.out, HBad.out]; rfl, hM⟩
                · have hb1' : ((b.toNat : Int) == 47) = false := by rw [beq_eq_false_iff_ne]; omega
                  have hbok : okByte b = true := by
                    unfold okByte
                    rw [Bool.and_eq_true, bne_iff_ne, bne_iff_ne]
                    exact ⟨fun e => hb0 (by rw [e]; rfl), fun e => hb1 (by rw [e]; rfl)⟩
                  have HBok := hide hbok
                  clear hb0 hb1 hbok
                  go_wp2
                  go_round
                  case rel =>
                    refine ⟨k + 1, by omega, by go_num, fun j hj => ?_⟩
                    by_cases e : j = k
                    · subst e; rw [← HB.out]; exact HBok.out
                    · exact HO.out j (by omega)
                  case measure => simp [intOf]; omega
            · have hall : s.data.toList.all okByte = true := by
                rw [List.all_eq_true]
                intro x hx
                obtain ⟨j, hj, rfl⟩ := List.getElem_of_mem hx
                have := HO.out j (by have := HL.out; omega)
                rwa [getD_lt hj] at this
              have HA := hide hall
              clear hall
              go_wp2
              go_ret
              exact ⟨by rw [HG.out, HA.out]; rfl, hM⟩
end Go.Proofs.Ytabebkffcmajkaa
