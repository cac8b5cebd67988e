import Derived.Test.YtmamdacmpikdbaaF
/-! Walks: first. -/
namespace Go.Proofs.Ytmamdacmpikdbaa
open Go.RowKit Go.Maps

theorem put_eq (w : World) (b : Nat) (rows rows' : List Row) (d : Int) (s : ByteArray) (i n : Int) (hlen : rows.length < 4611686018427387900) (h : IndexAt w b rows) (he : putErr rows d s i = n) (hr : putRows rows d s i = rows') :
    Calls Try.prog 22 #[.pointer (some ⟨b + 3, 0, none⟩), .int .i64 d, .string s, .int .i64 i] w fun e w' => e = .returned (.int .i64 n) ∧ Mod (Ix b) w w' ∧ IndexAt w' b rows' :=
  (put_any w b rows d s i hlen h).mono fun e w' ⟨h1, h2, h3⟩ => ⟨by rw [h1, he], h2, by rw [← hr]; exact h3⟩

/-- a slice of entries that is not empty: its address, and what its cells hold -/
theorem own_cells {w : World} {base e size n : Nat} {v : Value} {xs : List Value} (h : w.ownsRow base e size v n xs) (hn : 0 < n) :
    ∃ g cap, v = .slice (some ⟨g, 0, none⟩) n cap ∧ base ≤ g ∧ g < w.heap.size ∧ n ≤ cap ∧ cap ≤ maxLen ∧ ∀ j u, xs[j]? = some u → w.cell? ⟨g, j, none⟩ = some u := by
  rcases h.2 with ⟨rfl, h0⟩ | ⟨g, cap, cur, rfl, hb, hh, h1, h2, h3, h4⟩
  · omega
  · refine ⟨g, cap, rfl, hb, (Array.getElem?_eq_some_iff.1 hh).1, h1, h2, fun j u hj => ?_⟩
    rw [cell_of_row w g j cur e (0, 0) hh, ← Array.getElem?_toList]
    have hjl : j < n * size := by rw [← h.1]; exact (List.getElem?_eq_some_iff.1 hj).1
    rw [← h4, List.getElem?_take_of_lt hjl] at hj
    exact hj

theorem ix_new {w w1 w2 : World} {b : Nat} (h1 : Mod None_ w w1) (h2 : Mod (Ix b) w1 w2) (hb : w.heap.size ≤ b) : Mod None_ w w2 :=
  h1.trans' h2 fun k hk e => by unfold Ix at e; omega

set_option maxRecDepth 100000 in
set_option maxHeartbeats 2000000 in
theorem first_any (w : World) : Calls Try.prog 14 #[] w fun e w' => e = .returned (.bool true) ∧ Mod None_ w w' := by
  go_enter Try.func14, Try.ntmps14
  go_wp2_with fail
  refine (new_any w).mono ?_
  rintro e w1 ⟨rfl, hI1, hM1, hs1⟩
  obtain ⟨b, hb⟩ : ∃ b, b = w.heap.size := ⟨_, rfl⟩
  have hge : w.heap.size ≤ b := by omega
  rw [← hb] at hI1 ⊢
  clear hb hs1
  go_wp2_with fail
  refine (put_eq w1 b [] R1 1 sB 3 0 (by decide) hI1 f1 f1r).mono ?_
  rintro e w2 ⟨rfl, hm2, hI2⟩
  have hM2 := ix_new hM1 hm2 hge
  clear hI1 hM1 hm2
  go_wp2_with fail
  refine (put_eq w2 b R1 R2 1 sA 3 0 (by decide) hI2 f2 f2r).mono ?_
  rintro e w3 ⟨rfl, hm3, hI3⟩
  have hM3 := ix_new hM2 hm3 hge
  clear hI2 hM2 hm3
  go_wp2_with fail
  refine (put_eq w3 b R2 R2 1 sA 4 81 (by decide) hI3 f3 f3r).mono ?_
  rintro e w4 ⟨rfl, hm4, hI4⟩
  have hM4 := ix_new hM3 hm4 hge
  clear hI3 hM3 hm4
  go_wp2_with fail
  refine (put_eq w4 b R2 R2 1 sE 4 80 (by decide) hI4 f4 f4r).mono ?_
  rintro e w5 ⟨rfl, hm5, hI5⟩
  have hM5 := ix_new hM4 hm5 hge
  clear hI4 hM4 hm5
  go_wp2_with fail
  refine (list_any w5 b R2 1 (by decide) (by decide) hI5).mono ?_
  rintro e w6 ⟨v, rfl, hown, hm6⟩
  rw [fL] at hown
  obtain ⟨g, cap, rfl, hg1, hg2, hg3, hg4, hcell⟩ := own_cells hown (by decide)
  have e0 : w6.cell? ⟨g, 0, none⟩ = some (.string sA) := hcell 0 _ rfl
  have e1 : w6.cell? ⟨g, 1, none⟩ = some (.int .i64 3) := hcell 1 _ (by simp [dentCells, encD, f5])
  have e2 : w6.cell? ⟨g, 2, none⟩ = some (.string sB) := hcell 2 _ rfl
  have e3 : w6.cell? ⟨g, 3, none⟩ = some (.int .i64 3) := hcell 3 _ (by simp [dentCells, encD, f6])
  have hI6 := hI5.kept hm6
  have hM6 := hM5.trans hm6
  clear hI5 hM5 hm6 hown hcell hg1 hg2 hg3 hg4
  go_wp2_with fail
  have hlk := links_any w6 b R2 3 (by decide) hI6
  rw [f7] at hlk
  refine hlk.mono ?_
  rintro e w7 ⟨rfl, rfl⟩
  clear hlk e0 e1 e2 e3
  go_wp2_with fail
  refine (drop_any w6 b R2 1 sA (by decide) (by decide) hI6).mono ?_
  rintro e w8 ⟨rfl, hm8, hI8⟩
  rw [f8r] at hI8
  rw [f5, f8]
  have hM8 := ix_new hM6 hm8 hge
  clear hI6 hM6 hm8
  go_wp2_with fail
  have hgt := get_any w8 b R1 1 sA (by decide) hI8
  rw [f9] at hgt
  refine hgt.mono ?_
  rintro e w9 ⟨rfl, hm9⟩
  have hI9 := hI8.kept hm9
  have hM9 := hM8.trans hm9
  clear hI8 hM8 hm9 hgt
  go_wp2_with fail
  have hgt := get_any w9 b R1 1 sB (by decide) hI9
  rw [f10] at hgt
  refine hgt.mono ?_
  rintro e w10 ⟨rfl, hm10⟩
  have hI10 := hI9.kept hm10
  have hM10 := hM9.trans hm10
  clear hI9 hM9 hm10 hgt
  go_wp2_with fail
  have hgt := len_any w10 b R1 1 (by decide) hI10
  rw [f11] at hgt
  refine hgt.mono ?_
  rintro e w11 ⟨rfl, rfl⟩
  clear hgt hI10
  go_wp2
  go_ret
  exact ⟨rfl, hM10⟩

set_option maxRecDepth 100000 in
set_option maxHeartbeats 400000 in
theorem numbers_any (w : World) : Calls Try.prog 3 #[] w fun e w' => e = .returned (.bool true) ∧ Mod None_ w w' := by
  go_enter Try.func3, Try.ntmps3
  go_wp2_with (go_at_call 14; refine (first_any _).mono ?_; rintro e w1 ⟨rfl, hm1⟩)
  go_ret
  exact ⟨rfl, hm1⟩
end Go.Proofs.Ytmamdacmpikdbaa
