import Derived.Test.YtmamdacmpikdbaaRF3
import Derived.Test.YtmamdacmpikdbaaP4
/-! Walks of the reference's index: Drop, Clear, Copy. -/
namespace Go.Proofs.Ytmamdacmpikdbaa
open Go.RowKit Go.Maps
attribute [local go_sem] quietV loudUpon

def refDrop (L : List Row) (d : Int) (s : ByteArray) : List Row := match idxOf L d s with | none => L | some i => L.eraseIdx i
def refDropErr (L : List Row) (d : Int) (s : ByteArray) : Int := match idxOf L d s with | none => 82 | some _ => 0
def RefDropPost (w : World) (y : Nat) (L : List Row) (d : Int) (s : ByteArray) : Ending → World → Prop :=
  fun e w' => e = .returned (.tuple #[.int .i64 (refIno L d s), .int .i64 (refDropErr L d s)]) ∧ Mod (· = y) w w' ∧ RefAt w' y (refDrop L d s)

theorem erase_take_succ (L : List Row) (i k : Nat) (hk : k < L.length) : (L.take (k + 1)).eraseIdx i = if k = i then (L.take k).eraseIdx i else (L.take k).eraseIdx i ++ [L[k]] := by
  have hl : (L.take k).length = k := by rw [List.length_take]; omega
  rw [List.take_succ_eq_append_getElem hk]
  split
  · rename_i e
    subst e
    rw [List.eraseIdx_append_of_length_le (by omega), hl, Nat.sub_self, List.eraseIdx_of_length_le (l := L.take k) (by omega)]
    exact List.append_nil _
  · rename_i e
    rcases Nat.lt_or_ge i k with h | h
    · rw [List.eraseIdx_append_of_lt_length (by omega)]
    · rw [List.eraseIdx_append_of_length_le (by omega), List.eraseIdx_of_length_le (l := L.take k) (by omega), hl, List.eraseIdx_of_length_le (by simp; omega)]
theorem erase_len_le (L : List Row) (i : Nat) : (L.eraseIdx i).length ≤ L.length := by
  rw [List.length_eraseIdx]; split <;> omega

theorem RefAt.stored {w W : World} {y : Nat} {L' : List Row} {A : Option Addr} {c n : Nat} {v0 : Value} (hW : Mod None_ w W) (hy : y < w.heap.size) (hB : Blk W y 81 #[v0]) (hown : W.ownsRow w.heap.size 95 3 (.slice A n c) L'.length (rowCells L')) (hl : L'.length ≤ 2600000000000) :
    RefAt (W.setCell ⟨y, 0, none⟩ (.slice A n c)) y L' ∧ Mod (· = y) w (W.setCell ⟨y, 0, none⟩ (.slice A n c)) := by
  have hM2 : Mod (· = y) w (W.setCell ⟨y, 0, none⟩ (.slice A n c)) := Mod.setCell (S := (· = y)) hW.none (.inr rfl) _
  refine ⟨⟨_, by simpa using hB.set_ 0 (.slice A n c), ?_⟩, hM2⟩
  have hown2 := own_mod hown ((Mod.refl (· = y) W).setCell (p := ⟨y, 0, none⟩) (.inr rfl) (.slice A n c)) (fun g hg e => by have := (own_blk hown hg).1; omega)
  exact own_rows hown2 hl

set_option maxRecDepth 100000 in
set_option maxHeartbeats 4000000 in
theorem refDrop_any (w : World) (y : Nat) (L : List Row) (d : Int) (s : ByteArray) (h : RefAt w y L) :
    Calls Try.prog 50 #[.pointer (some ⟨y, 0, none⟩), .int .i64 d, .string s] w (RefDropPost w y L d s) := by
  have hlen := h.len
  have hy := h.lt
  have hF := refFind_any w y L d s h
  obtain ⟨v, hB, hR⟩ := id h.ex
  obtain ⟨A, c, rfl, HA⟩ := hR.cells
  have cy : w.cell? ⟨y, 0, none⟩ = some (.slice A L.length c) := hB.cell 0
  have HB := hide hB
  cases hi : idxOf L d s with
  | none =>
    rw [findAt_none hi] at hF
    have HP : Hid (RefDropPost w y L d s (.returned (.tuple #[.int .i64 0, .int .i64 82])) w) := hide ⟨by unfold refIno refDropErr; rw [hi], Mod.refl _ _, by unfold refDrop; rw [hi]; exact h⟩
    have HF := hide hF
    clear hF hi hB hR h
    go_enter Try.func50, Try.ntmps50
    go_wp2_with (go_at_call 68; refine Calls.mono HF.out ?_; rintro e w1 ⟨rfl, rfl⟩)
    go_ret2
    exact HP.out
  | some j =>
    rw [findAt_some hi] at hF
    have hlt := idxOf_lt hi
    obtain ⟨g, rfl, hg, hcc⟩ := HA.out (by omega)
    obtain ⟨_, _, x2⟩ := hcc j hlt
    have hil : (j : Int) < L.length := by omega
    have hr : refIno L d s = L[j].ino := by unfold refIno; rw [hi]; simp [hlt]
    have he : refDropErr L d s = 0 := by unfold refDropErr; rw [hi]
    have hd : refDrop L d s = L.eraseIdx j := by unfold refDrop; rw [hi]
    have HF := hide hF
    have HR := hide hr
    have HE := hide he
    have HD := hide hd
    have HC := hide hcc
    clear hF hi hcc hr hB hR h he hd HA
    go_enter Try.func50, Try.ntmps50
    go_wp2_with (go_at_call 68; refine Calls.mono HF.out ?_; rintro e w1 ⟨rfl, rfl⟩)
    go_loopg [10, 11] L.length (fun n l i wr => ∃ k : Nat, k + n = L.length ∧ i = .int .i64 k ∧ wr.ownsRow w.heap.size 95 3 l ((L.take k).eraseIdx j).length (rowCells ((L.take k).eraseIdx j)) ∧ Mod None_ w wr)
    case atStart => exact ⟨0, by omega, rfl, ⟨by simp [rowCells], .inl ⟨rfl, by simp⟩⟩, Mod.refl _ _⟩
    case round =>
      obtain ⟨k, hk, rfl, hown, hM⟩ := hrel
      have hBy := HB.out.mod hM id
      have cy' : wr.cell? ⟨y, 0, none⟩ = some (.slice (some ⟨g, 0, none⟩) L.length c) := hBy.cell 0
      have hbase := hM.size
      by_cases hlk : k < L.length
      · have hki : (k : Int) < L.length := by omega
        obtain ⟨x0, x1, x2'⟩ := HC.out k hlk
        replace x0 := (World.cell?_of_block (hM.block g hg id)).trans x0
        replace x1 := (World.cell?_of_block (hM.block g hg id)).trans x1
        replace x2' := (World.cell?_of_block (hM.block g hg id)).trans x2'
        have hsn := erase_take_succ L j k hlk
        have hal : ((L.take k).eraseIdx j).length ≤ 2600000000000 := by
          have h1 := erase_len_le (L.take k) j
          have h2 := List.length_take_le k L
          omega
        obtain ⟨r, hr⟩ : ∃ r, r = L[k] := ⟨_, rfl⟩
        rw [← hr] at x0 x1 x2' hsn
        obtain ⟨acc, hacc⟩ : ∃ a, a = (L.take k).eraseIdx j := ⟨_, rfl⟩
        rw [← hacc] at hown hal hsn
        have HSN := hide hsn
        have HK := hide hk
        have HOWN := hide hown
        clear hr hacc hsn hk hown x2 hBy
        by_cases hkj : k = j
        · have ek : ((k : Int) != j) = false := by rw [bne_eq_false_iff_eq]; omega
          have HKJ := hide hkj
          clear hkj
          go_wp2
          go_roundg (gk - 1)
          case measure => have := HK.out; omega
          case rel => exact ⟨k + 1, by have := HK.out; omega, by go_num, by rw [HSN.out, if_pos HKJ.out]; exact HOWN.out, hM⟩
        · have ek : ((k : Int) != j) = true := by rw [bne_iff_ne]; omega
          have HKJ := hide hkj
          clear hkj
          go_wp2_with ((with_reducible refine at_slot 47 ?_); refine wpList_append_row rfl (.tmp 38) (.tmp 46) rfl wr w.heap.size u10 acc r rfl rfl wr.heap.size rfl rfl HOWN.out hbase (by omega) ?_; intro v8 w8 hown8 hm8; go_frame)
          go_roundg (gk - 1)
          case measure => have := HK.out; omega
          case rel => exact ⟨k + 1, by have := HK.out; omega, by go_num, by rw [HSN.out, if_neg HKJ.out]; exact hown8, hM.trans' hm8 (fun b hb e => by have := (own_blk HOWN.out e.symm).1; omega)⟩
      · obtain rfl : k = L.length := by omega
        have hki : ¬ (L.length : Int) < L.length := by omega
        have htl : L.take L.length = L := List.take_of_length_le (Nat.le_refl _)
        rw [htl] at hown
        obtain ⟨A9, c9, rfl⟩ := own_slice hown
        have hle := erase_len_le L j
        have cf : wr.frozen? ⟨y, 0, none⟩ = false := hBy.frozen 0
        have HS := hide (RefAt.stored hM hy hBy hown (by omega))
        clear htl hk hown hBy hle
        go_wp2
        go_ret2
        exact ⟨by rw [HR.out, HE.out]; rfl, HS.out.2, by rw [HD.out]; exact HS.out.1⟩

theorem clear_take_snoc (L : List Row) (d : Int) (r : Row) : clearRows (L ++ [r]) d = if r.dir = d then clearRows L d else clearRows L d ++ [r] := by
  unfold clearRows
  rw [List.filter_append]
  by_cases h : r.dir = d <;> simp [h]

set_option maxRecDepth 100000 in
set_option maxHeartbeats 4000000 in
theorem refClear_any (w : World) (y : Nat) (L : List Row) (d : Int) (h : RefAt w y L) :
    Calls Try.prog 55 #[.pointer (some ⟨y, 0, none⟩), .int .i64 d] w fun e w' => e = .returned (.int .i64 (cntDir L d)) ∧ Mod (· = y) w w' ∧ RefAt w' y (clearRows L d) := by
  have hlen := h.len
  have hy := h.lt
  have HL := hide (refLen_any w y L d h)
  obtain ⟨v, hB, hR⟩ := id h.ex
  obtain ⟨A, c, rfl, HA⟩ := hR.cells
  have HB := hide hB
  clear hB hR h
  go_enter Try.func55, Try.ntmps55
  go_wp2_with (go_at_call 52; refine Calls.mono HL.out ?_; rintro e w1 ⟨rfl, hm1⟩)
  go_loopg [6, 7] L.length (fun n l i wr => ∃ k : Nat, k + n = L.length ∧ i = .int .i64 k ∧ wr.ownsRow w.heap.size 95 3 l (clearRows (L.take k) d).length (rowCells (clearRows (L.take k) d)) ∧ Mod None_ w wr)
  case atStart => exact ⟨0, by omega, rfl, ⟨rfl, .inl ⟨rfl, rfl⟩⟩, hm1⟩
  case round =>
    clear hm1
    obtain ⟨k, hk, rfl, hown, hM⟩ := hrel
    have hBy := HB.out.mod hM id
    have cy' : wr.cell? ⟨y, 0, none⟩ = some (.slice A L.length c) := hBy.cell 0
    have hbase := hM.size
    by_cases hlk : k < L.length
    · have hki : (k : Int) < L.length := by omega
      obtain ⟨g, rfl, hg, hcc⟩ := HA.out (by omega)
      obtain ⟨x0, x1, x2'⟩ := hcc k hlk
      replace x0 := (World.cell?_of_block (hM.block g hg id)).trans x0
      replace x1 := (World.cell?_of_block (hM.block g hg id)).trans x1
      replace x2' := (World.cell?_of_block (hM.block g hg id)).trans x2'
      have hsn := clear_take_snoc (L.take k) d L[k]
      rw [← List.take_succ_eq_append_getElem hlk] at hsn
      have hal : (clearRows (L.take k) d).length ≤ 2600000000000 := by
        have h1 := clear_length (L.take k) d
        have h2 := List.length_take_le k L
        omega
      obtain ⟨r, hr⟩ : ∃ r, r = L[k] := ⟨_, rfl⟩
      rw [← hr] at x0 x1 x2' hsn
      obtain ⟨acc, hacc⟩ : ∃ a, a = clearRows (L.take k) d := ⟨_, rfl⟩
      rw [← hacc] at hown hal hsn
      have HSN := hide hsn
      have HK := hide hk
      have HOWN := hide hown
      clear hr hacc hsn hk hown hBy hcc
      by_cases hkj : r.dir = d
      · have ek : ((r.dir : Int) != d) = false := by rw [bne_eq_false_iff_eq]; exact hkj
        have HKJ := hide hkj
        clear hkj
        go_wp2
        go_roundg (gk - 1)
        case measure => have := HK.out; omega
        case rel => exact ⟨k + 1, by have := HK.out; omega, by go_num, by rw [HSN.out, if_pos HKJ.out]; exact HOWN.out, hM⟩
      · have ek : ((r.dir : Int) != d) = true := by rw [bne_iff_ne]; exact hkj
        have HKJ := hide hkj
        clear hkj
        go_wp2_with ((with_reducible refine at_slot 39 ?_); refine wpList_append_row rfl (.tmp 30) (.tmp 38) rfl wr w.heap.size u6 acc r rfl rfl wr.heap.size rfl rfl HOWN.out hbase (by omega) ?_; intro v8 w8 hown8 hm8; go_frame)
        go_roundg (gk - 1)
        case measure => have := HK.out; omega
        case rel => exact ⟨k + 1, by have := HK.out; omega, by go_num, by rw [HSN.out, if_neg HKJ.out]; exact hown8, hM.trans' hm8 (fun b hb e => by have := (own_blk HOWN.out e.symm).1; omega)⟩
    · obtain rfl : k = L.length := by omega
      have hki : ¬ (L.length : Int) < L.length := by omega
      have htl : L.take L.length = L := List.take_of_length_le (Nat.le_refl _)
      rw [htl] at hown
      obtain ⟨A9, c9, rfl⟩ := own_slice hown
      have hle := clear_length L d
      have cf : wr.frozen? ⟨y, 0, none⟩ = false := hBy.frozen 0
      have HS := hide (RefAt.stored hM hy hBy hown (by omega))
      clear htl hk hown hBy hle
      go_wp2
      go_ret
      exact ⟨rfl, HS.out.2, HS.out.1⟩

theorem run_append_rows {w : World} (v : Value) (L : List Row) (ty : TypeId) (hR : RowsIs w v L) :
    ∃ v' w', (Builtin.append_ #[79, 79] ty #[.slice none 0 0, v]).run Try.prog w = .ok v' w' ∧ w'.ownsRow w.heap.size 95 3 v' L.length (rowCells L) ∧ Mod None_ w w' := by
  obtain ⟨i0, hi, hz, hsz, hby⟩ := info_parts info95
  obtain ⟨A, c, rfl, h2, h3, h4, h5⟩ := hR
  have hr : Reads w w.heap.size 3 A L.length (rowCells L) := by
    refine ⟨rowCells_length L, fun h0 => ?_⟩
    obtain ⟨g, rfl, ⟨cs, hg⟩, hc⟩ := h5 h0
    exact ⟨_, rfl, (Array.getElem?_eq_some_iff.1 hg).1, fun j u hj => by rw [add_none]; exact hc j u hj⟩
  obtain ⟨v', w', hrun, hown, hgr, _⟩ := run_append_any (P := Try.prog) w w.heap.size 79 ty 95 i0 _ 3 32 Try.underlying79 hi hz hsz hby rfl (by decide) (.slice none 0 0) 0 [] ⟨rfl, .inl ⟨rfl, rfl⟩⟩ w.heap.size A L.length c (rowCells L) hr (rowCells_one L)
    (by simp only [maxLen]; omega) (by omega) (Nat.le_refl _)
  rw [Nat.zero_add, List.nil_append] at hown
  exact ⟨v', w', hrun, hown, (Mod.of_grown hgr).mono fun _ _ e => by cases e⟩

theorem RowsIs.reads {w : World} {L : List Row} {A : Option Addr} {c : Nat} (hR : RowsIs w (.slice A L.length c) L) : Reads w w.heap.size 3 A L.length (rowCells L) := by
  obtain ⟨A', c', e, h2, h3, h4, h5⟩ := hR
  simp only [Value.slice.injEq, true_and] at e
  obtain ⟨rfl, rfl⟩ := e
  refine ⟨rowCells_length L, fun h0 => ?_⟩
  obtain ⟨g, rfl, ⟨cs, hg⟩, hc⟩ := h5 h0
  exact ⟨_, rfl, (Array.getElem?_eq_some_iff.1 hg).1, fun j u hj => by rw [add_none]; exact hc j u hj⟩
set_option maxRecDepth 100000 in
set_option maxHeartbeats 4000000 in
theorem refCopy_any (w : World) (y : Nat) (L : List Row) (h : RefAt w y L) :
    Calls Try.prog 44 #[.pointer (some ⟨y, 0, none⟩)] w fun e w' => e = .returned (.pointer (some ⟨w.heap.size, 0, none⟩)) ∧ Mod None_ w w' ∧ RefAt w' w.heap.size L := by
  obtain ⟨i0, hi, hz, hsz, hby⟩ := info_parts info95
  have hy := h.lt
  have hlen := h.len
  obtain ⟨v, hB, hR⟩ := h.ex
  have hW : Mod None_ w (w.alloc (.cells #[.slice none 0 0] 81)).drew := ((Mod.refl _ w).alloc _).drew
  have hB2 := hB.mod hW id
  have hR2 := hR.mod hW (NoRows.none w)
  have hN2 : Blk (w.alloc (.cells #[.slice none 0 0] 81)).drew w.heap.size 81 #[.slice none 0 0] := (Blk.new w 81 #[.slice none 0 0]).drew
  clear hB hR h
  obtain ⟨A, c, rfl, _, _, _, _⟩ := id hR2
  have HRD := hide hR2.reads
  have c1 : (w.alloc (.cells #[.slice none 0 0] 81)).drew.cell? ⟨w.heap.size, 0, none⟩ = some (.slice none 0 0) := hN2.cell 0
  have c2 : (w.alloc (.cells #[.slice none 0 0] 81)).drew.cell? ⟨y, 0, none⟩ = some (.slice A L.length c) := hB2.cell 0
  have hml : 0 + L.length ≤ maxLen := by simp only [maxLen]; omega
  have hbl : (0 + L.length) * 32 ≤ 140737488355328 := by omega
  have HM1 := hide hml
  have HM2 := hide hbl
  have HW := hide hW
  have HN := hide hN2
  clear hR2 hml hbl hW hN2 hB2
  go_enter Try.func44, Try.ntmps44
  go_wp2_with fail
  go_region_law (refine wp_append_any _ (.tmp 10) (.tmp 14) 79 rfl w.heap.size 95 i0 _ 3 32 Try.underlying79 hi hz hsz hby rfl (by decide) (.slice none 0 0) 0 [] rfl ⟨rfl, .inl ⟨rfl, rfl⟩⟩ (w.alloc (.cells #[.slice none 0 0] 81)).drew.heap.size A L.length c (rowCells L) rfl HRD.out (rowCells_one L) HM1.out HM2.out (by simp) ?_; intro v8 w8 hown8 hgr8 _; rw [Nat.zero_add, List.nil_append] at hown8; obtain ⟨A9, c9, rfl⟩ := own_slice hown8
                 have hm8 : Mod None_ (w.alloc (.cells #[.slice none 0 0] 81)).drew w8 := (Mod.of_grown hgr8).mono (fun _ _ e => by cases e)
                 have hN8 := HN.out.mod hm8 id
                 have d1 : w8.cell? ⟨w.heap.size, 0, none⟩ = some (.slice none 0 0) := hN8.cell 0
                 have d3 : w8.frozen? ⟨w.heap.size, 0, none⟩ = false := hN8.frozen 0)
  all_goals
    have hlt5 : w.heap.size < (w.alloc (.cells #[.slice none 0 0] 81)).drew.heap.size := HN.out.lt
    have hown9 := own_mod hown8 ((Mod.refl (· = w.heap.size) w8).setCell (p := ⟨w.heap.size, 0, none⟩) (.inr rfl) (.slice A9 L.length c9)) (fun g hg e => by
      obtain ⟨_, cur, hh⟩ := own_blk hown8 hg
      subst e
      unfold Blk at hN8
      rw [hN8] at hh; cases hh)
    have hfin : Mod None_ w (w8.setCell ⟨w.heap.size, 0, none⟩ (.slice A9 L.length c9)) := Mod.setCell (S := None_) (HW.out.trans hm8) (.inl (Nat.le_refl _)) _
    have HRef : Hid (RefAt (w8.setCell ⟨w.heap.size, 0, none⟩ (.slice A9 L.length c9)) w.heap.size L) := hide ⟨_, by simpa using hN8.set_ 0 (.slice A9 L.length c9), own_rows hown9 hlen⟩
    have HF := hide hfin
    clear hown9 hown8 hN8 hm8 hgr8 hfin d1 d3
    go_wp2
    go_ret
    exact ⟨rfl, HF.out, HRef.out⟩
end Go.Proofs.Ytmamdacmpikdbaa
