import Derived.Test.YtmamdacmpikdbaaP1
/-! The walk of NamesKept. Printed by gen_kept.py. -/
namespace Go.Proofs.Ytmamdacmpikdbaa
open Go.RowKit Go.Maps
theorem OpsAt.len {w : World} {v : Value} {ops : List OpD} (h : OpsAt w v ops) : ops.length ≤ 2513169434843 := by
  obtain ⟨_, _, _, h2, _⟩ := h; exact h2

set_option maxRecDepth 100000 in
set_option maxHeartbeats 4000000 in
theorem kept_have (w : World) (v : Value) (ops : List OpD) (dir : Int) (s : ByteArray) (to : Int) (hO : OpsAt w v ops) (hdir : I64 dir) (hto : I64 to) (hc : findIno (fillRows ops) (inoOf dir) s ≠ 0) (hg : goodName s = true) :
    Calls Try.prog 4 #[v, .int .i64 dir, .string s, .int .i64 to] w fun e w' => e = .returned (.bool true) ∧ Mod None_ w w' := by
  have hd := inoOf_bd dir
  have hn := inoOf_bd to
  have hwd : (Lit.int .i64 (inoOf dir)).wf = true := wf_i64 (by omega) (by omega)
  have hwn : (Lit.int .i64 (inoOf to)).wf = true := wf_i64 (by omega) (by omega)
  have hR := fillRows_length ops
  have hlen := hO.len
  have hRl : (fillRows ops).length ≤ 2513169434843 := by omega
  obtain ⟨R, hRe⟩ : ∃ R, R = fillRows ops := ⟨_, rfl⟩
  have HE := hide hRe
  rw [← hRe] at hRl hc
  clear hRe hR hlen
  obtain ⟨hdl, hdr⟩ := hdir
  obtain ⟨hnl, hnr⟩ := hto
  go_enter Try.func4, Try.ntmps4
  go_wp2_with fail
  refine (filled_any w v ops hO).mono ?_
  rintro e w1 ⟨rfl, hI1, hM1⟩
  rw [← HE.out] at hI1
  obtain ⟨b, hb⟩ : ∃ b, b = w.heap.size := ⟨_, rfl⟩
  have hge : w.heap.size ≤ b := by omega
  rw [← hb] at hI1 ⊢
  clear hb
  go_wp2_with fail
  refine (first_any w1).mono ?_
  rintro e w2 ⟨rfl, hm2⟩
  have hI2 := hI1.kept hm2
  have hM2 := hM1.trans hm2
  clear hI1 hM1 hm2
  go_wp2_with fail
  refine (ino_any dir w2 hdl hdr).mono ?_
  rintro e w3 ⟨rfl, rfl⟩
  go_wp2_with fail
  refine (ino_any to w2 hnl hnr).mono ?_
  rintro e w3 ⟨rfl, rfl⟩
  go_wp2_with fail
  refine (get_any w2 b R (inoOf dir) s hwd hI2).mono ?_
  rintro e w3 ⟨rfl, hm3⟩
  have hI3 := hI2.kept hm3
  have hM3 := hM2.trans hm3
  clear hI2 hM2 hm3
  go_wp2_with fail
  refine (list_dents w3 b R (inoOf dir) (by omega) hwd hI3).mono ?_
  rintro e w4 ⟨v4, rfl, hD4, hm4⟩
  have hI4 := hI3.kept hm4
  have hM4 := hM3.trans hm4
  clear hI3 hM3 hm4
  go_wp2_with fail
  have hlp : (listPairs R (inoOf dir)).length ≤ 5000000000000 := by
    rw [listPairs_length]
    have := cntDir_le R (inoOf dir)
    omega
  refine (copy_any w4 _ v4 _ hD4 hlp).mono ?_
  rintro e w5 ⟨v5, rfl, hD5, hm5⟩
  have hI5 := hI4.kept hm5
  have hM5 := hM4.trans hm5
  have hlo : b + 4 ≤ w4.heap.size := by have := hI4.lt; omega
  replace hD5 := hD5.lo hlo
  clear hI4 hM4 hm5 hD4 hlo
  go_wp2_with fail
  refine (len_any w5 b R (inoOf dir) hwd hI5).mono ?_
  rintro e w6 ⟨rfl, rfl⟩
  go_wp2_with fail
  refine (links_any w5 b R (inoOf to) hwn hI5).mono ?_
  rintro e w6 ⟨rfl, rfl⟩
  go_wp2_with fail
  refine (put_eq w5 b R R (inoOf dir) s (inoOf to) 81 (by omega) hI5 (by unfold putErr; rw [if_neg (by simp [isInodeB, hd, hn]), if_neg (by simp [hg]), if_pos hc]) (by unfold putRows; rw [if_neg (by unfold putErr; rw [if_neg (by simp [isInodeB, hd, hn]), if_neg (by simp [hg]), if_pos hc]; decide)])).mono ?_
  rintro e w6 ⟨rfl, hm6, hI6⟩
  have hM6 := ix_new hM5 hm6 hge
  replace hD5 := hD5.mod hm6 (fun k h1 h2 => by unfold Ix at h2; omega)
  clear hI5 hM5 hm6
  have hc' : (findIno R (inoOf dir) s != 0) = true := by simpa using hc
  obtain ⟨z, hz⟩ : ∃ z, z = findIno R (inoOf dir) s := ⟨_, rfl⟩
  rw [← hz] at hc' ⊢
  have HZ := hide hz
  clear hz hc
  go_wp2_with fail
  have hgt := get_any w6 b R (inoOf dir) s hwd hI6
  rw [← HZ.out] at hgt
  refine hgt.mono ?_
  rintro e w7 ⟨rfl, hm7⟩
  have hI7 := hI6.kept hm7
  have hM7 := hM6.trans hm7
  replace hD5 := hD5.mod hm7 (fun _ _ f => f)
  clear hI6 hM6 hm7 hgt
  go_wp2_with fail
  refine (links_any w7 b R (inoOf to) hwn hI7).mono ?_
  rintro e w8 ⟨rfl, rfl⟩
  go_wp2_with fail
  refine (list_dents w7 b R (inoOf dir) (by omega) hwd hI7).mono ?_
  rintro e w8 ⟨v8, rfl, hD8, hm8⟩
  have hM8 := hM7.trans hm8
  replace hD5 := hD5.mod hm8 (fun _ _ f => f)
  clear hI7 hM7 hm8
  go_wp2_with fail
  have hsm := same_any w8 _ _ v8 v5 _ _ hD8 hD5
  rw [decide_eq_true rfl] at hsm
  refine hsm.mono ?_
  rintro e w9 ⟨rfl, hm9⟩
  have hM9 := hM8.trans hm9
  clear hsm hD8 hD5 hM8 hm9
  go_wp2
  go_ret
  exact ⟨rfl, hM9⟩

set_option maxRecDepth 100000 in
set_option maxHeartbeats 4000000 in
theorem kept_bad (w : World) (v : Value) (ops : List OpD) (dir : Int) (s : ByteArray) (to : Int) (hO : OpsAt w v ops) (hdir : I64 dir) (hto : I64 to) (hg : goodName s = false) (hc : findIno (fillRows ops) (inoOf dir) s = 0) :
    Calls Try.prog 4 #[v, .int .i64 dir, .string s, .int .i64 to] w fun e w' => e = .returned (.bool true) ∧ Mod None_ w w' := by
  have hd := inoOf_bd dir
  have hn := inoOf_bd to
  have hwd : (Lit.int .i64 (inoOf dir)).wf = true := wf_i64 (by omega) (by omega)
  have hwn : (Lit.int .i64 (inoOf to)).wf = true := wf_i64 (by omega) (by omega)
  have hR := fillRows_length ops
  have hlen := hO.len
  have hRl : (fillRows ops).length ≤ 2513169434843 := by omega
  obtain ⟨R, hRe⟩ : ∃ R, R = fillRows ops := ⟨_, rfl⟩
  have HE := hide hRe
  rw [← hRe] at hRl hc
  clear hRe hR hlen
  obtain ⟨hdl, hdr⟩ := hdir
  obtain ⟨hnl, hnr⟩ := hto
  go_enter Try.func4, Try.ntmps4
  go_wp2_with fail
  refine (filled_any w v ops hO).mono ?_
  rintro e w1 ⟨rfl, hI1, hM1⟩
  rw [← HE.out] at hI1
  obtain ⟨b, hb⟩ : ∃ b, b = w.heap.size := ⟨_, rfl⟩
  have hge : w.heap.size ≤ b := by omega
  rw [← hb] at hI1 ⊢
  clear hb
  go_wp2_with fail
  refine (first_any w1).mono ?_
  rintro e w2 ⟨rfl, hm2⟩
  have hI2 := hI1.kept hm2
  have hM2 := hM1.trans hm2
  clear hI1 hM1 hm2
  go_wp2_with fail
  refine (ino_any dir w2 hdl hdr).mono ?_
  rintro e w3 ⟨rfl, rfl⟩
  go_wp2_with fail
  refine (ino_any to w2 hnl hnr).mono ?_
  rintro e w3 ⟨rfl, rfl⟩
  go_wp2_with fail
  refine (get_any w2 b R (inoOf dir) s hwd hI2).mono ?_
  rintro e w3 ⟨rfl, hm3⟩
  have hI3 := hI2.kept hm3
  have hM3 := hM2.trans hm3
  clear hI2 hM2 hm3
  go_wp2_with fail
  refine (list_dents w3 b R (inoOf dir) (by omega) hwd hI3).mono ?_
  rintro e w4 ⟨v4, rfl, hD4, hm4⟩
  have hI4 := hI3.kept hm4
  have hM4 := hM3.trans hm4
  clear hI3 hM3 hm4
  go_wp2_with fail
  have hlp : (listPairs R (inoOf dir)).length ≤ 5000000000000 := by
    rw [listPairs_length]
    have := cntDir_le R (inoOf dir)
    omega
  refine (copy_any w4 _ v4 _ hD4 hlp).mono ?_
  rintro e w5 ⟨v5, rfl, hD5, hm5⟩
  have hI5 := hI4.kept hm5
  have hM5 := hM4.trans hm5
  have hlo : b + 4 ≤ w4.heap.size := by have := hI4.lt; omega
  replace hD5 := hD5.lo hlo
  clear hI4 hM4 hm5 hD4 hlo
  go_wp2_with fail
  refine (len_any w5 b R (inoOf dir) hwd hI5).mono ?_
  rintro e w6 ⟨rfl, rfl⟩
  go_wp2_with fail
  refine (links_any w5 b R (inoOf to) hwn hI5).mono ?_
  rintro e w6 ⟨rfl, rfl⟩
  go_wp2_with fail
  refine (put_eq w5 b R R (inoOf dir) s (inoOf to) 80 (by omega) hI5 (by unfold putErr; rw [if_neg (by simp [isInodeB, hd, hn]), if_pos hg]) (by unfold putRows; rw [if_neg (by unfold putErr; rw [if_neg (by simp [isInodeB, hd, hn]), if_pos hg]; decide)])).mono ?_
  rintro e w6 ⟨rfl, hm6, hI6⟩
  have hM6 := ix_new hM5 hm6 hge
  replace hD5 := hD5.mod hm6 (fun k h1 h2 => by unfold Ix at h2; omega)
  clear hI5 hM5 hm6
  clear hc
  go_wp2_with fail
  have hgo := good_any s w6
  rw [hg] at hgo
  refine hgo.mono ?_
  rintro e w7 ⟨rfl, rfl⟩
  clear hgo
  go_wp2_with fail
  refine (list_dents w6 b R (inoOf dir) (by omega) hwd hI6).mono ?_
  rintro e w8 ⟨v8, rfl, hD8, hm8⟩
  have hM8 := hM6.trans hm8
  replace hD5 := hD5.mod hm8 (fun _ _ f => f)
  clear hI6 hM6 hm8
  go_wp2_with fail
  have hsm := same_any w8 _ _ v8 v5 _ _ hD8 hD5
  rw [decide_eq_true rfl] at hsm
  refine hsm.mono ?_
  rintro e w9 ⟨rfl, hm9⟩
  have hM9 := hM8.trans hm9
  clear hsm hD8 hD5 hM8 hm9
  go_wp2
  go_ret
  exact ⟨rfl, hM9⟩
end Go.Proofs.Ytmamdacmpikdbaa
