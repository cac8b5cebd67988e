import Derived.Test.YtmamdacmpikdbaaA3
import Derived.Test.YtmamdacmpikdbaaP6
import Derived.Test.YtmamdacmpikdbaaNK1
import Derived.Test.YtmamdacmpikdbaaSt
/-! The walk of NamesStops. -/
namespace Go.Proofs.Ytmamdacmpikdbaa
open Go.RowKit Go.Maps Go.Shelf
attribute [local go_sem] quietV loudUpon Oper.semAt_some

theorem ix_not_def {w : World} {b D : Nat} {R : List Row} (h : IndexAt w b R) (hd : Ix b D) : ¬ w.heap[D]? = some (.deferred (some [])) := by
  intro e
  obtain ⟨es, c, h0, _⟩ := h.inos.ex
  obtain ⟨l1, hl1, _⟩ := h.names
  obtain ⟨es1, c1, h1, _⟩ := hl1.ex
  obtain ⟨l2, hl2, _⟩ := h.links
  obtain ⟨es2, c2, h2, _⟩ := hl2.ex
  have h3 := h.blk
  unfold Blk at h3
  unfold Ix at hd
  have : D = b ∨ D = b + 1 ∨ D = b + 2 ∨ D = b + 3 := by omega
  rcases this with rfl | rfl | rfl | rfl
  · rw [e] at h0; cases h0
  · rw [e] at h1; cases h1
  · rw [e] at h2; cases h2
  · rw [e] at h3; cases h3
theorem store_other {w : World} {g k g2 i : Nat} {v c : Value} (h : w.cell? ⟨g2, i, none⟩ = some c) (hne : g2 ≠ g) : (w.setCell ⟨g, k, none⟩ v).cell? ⟨g2, i, none⟩ = some c :=
  (World.cell?_of_block (((Mod.refl (· = g) w).setCell (p := ⟨g, k, none⟩) (.inr rfl) v).block g2 (block_lt_of_cell h) hne)).trans h
theorem drop_eq (w : World) (b : Nat) (R : List Row) (d : Int) (s : ByteArray) (z z2 : Int) (hlen : R.length < 4611686018427387900) (hd : (Lit.int .i64 d).wf = true) (h : IndexAt w b R) (hz : findIno R d s = z) (hz2 : dropErr R d s = z2) :
    Calls Try.prog 25 #[.pointer (some ⟨b + 3, 0, none⟩), .int .i64 d, .string s] w fun e w' => e = .returned (.tuple #[.int .i64 z, .int .i64 z2]) ∧ Mod (Ix b) w w' ∧ IndexAt w' b (dropRows R d s) := by rw [← hz, ← hz2]; exact drop_any w b R d s hlen hd h
theorem get_eq (w : World) (b : Nat) (R : List Row) (d : Int) (s : ByteArray) (z : Int) (hd : (Lit.int .i64 d).wf = true) (h : IndexAt w b R) (hz : findIno R d s = z) :
    Calls Try.prog 17 #[.pointer (some ⟨b + 3, 0, none⟩), .int .i64 d, .string s] w fun e w' => e = .returned (.int .i64 z) ∧ Mod None_ w w' := by rw [← hz]; exact get_any w b R d s hd h

set_option maxRecDepth 100000 in
set_option maxHeartbeats 20000000 in
theorem stops_any (w : World) (v : Value) (ops : List OpD) (dir many : Int) (hO : OpsAt w v ops) (hdir : I64 dir) (hmany : I64 many) :
    Calls Try.prog 7 #[v, .int .i64 dir, .int .i64 many] w fun e w' => e = .returned (.bool true) ∧ Mod None_ w w' := by
  have hR := fillRows_length ops
  have hlen := hO.len
  have hRl : (fillRows ops).length ≤ 2513169434843 := by omega
  obtain ⟨R, hRe⟩ : ∃ R, R = fillRows ops := ⟨_, rfl⟩
  have HE := hide hRe
  rw [← hRe] at hRl
  clear hRe hR hlen
  obtain ⟨hdl, hdr⟩ := hdir
  obtain ⟨hml, hmr⟩ := hmany
  have hdb := inoOf_bd dir
  refine calls_of_wp_marks 3 Try.func7 rfl ?_
  simp only [Try.ntmps7, List.size_toArray, List.length_cons, List.length_nil, Nat.reduceAdd, Nat.reduceSub, Array.replicate_succ, Array.replicate_zero, List.push_toArray, List.append_toArray, List.nil_append, List.cons_append]
  go_wp2_with fail
  obtain ⟨m0, hm0⟩ : ∃ m, m = w.heap.size := ⟨_, rfl⟩
  obtain ⟨w1, hw1⟩ : ∃ w1, w1 = w.alloc (.cells #[.bool false] 4) := ⟨_, rfl⟩
  have hM1 : Mod None_ w w1 := by rw [hw1]; exact (Mod.refl _ w).alloc _
  have b0 : Blk w1 m0 4 #[.bool false] := by rw [hw1, hm0]; exact Blk.new w 4 _
  have hm0g : w.heap.size ≤ m0 := by omega
  rw [← hm0, ← hw1]
  have hO1 := hO.mod hM1
  clear hm0 hw1 hO
  refine (filled_any w1 v ops hO1).mono ?_
  rintro e w2 ⟨rfl, hI2, hM2⟩
  rw [← HE.out] at hI2
  have hb0 := b0.lt
  obtain ⟨b, hb⟩ : ∃ b, b = w1.heap.size := ⟨_, rfl⟩
  have hge : w1.heap.size ≤ b := by omega
  rw [← hb] at hI2 ⊢
  replace b0 := b0.mod hM2 id
  replace hM2 := hM1.trans hM2
  clear hb hM1 hO1 HE
  obtain ⟨mx, hmx⟩ : ∃ m, m = w2.heap.size := ⟨_, rfl⟩
  obtain ⟨w3, hw3⟩ : ∃ w3, w3 = w2.alloc (.cells #[.pointer (some ⟨b + 3, 0, none⟩)] 24) := ⟨_, rfl⟩
  have hm3 : Mod None_ w2 w3 := by rw [hw3]; exact (Mod.refl _ w2).alloc _
  have bx : Blk w3 mx 24 #[.pointer (some ⟨b + 3, 0, none⟩)] := by rw [hw3, hmx]; exact Blk.new w2 24 _
  have hbx : b + 4 ≤ mx := by have := hI2.lt; omega
  replace b0 := b0.mod hm3 id
  have hI3 := hI2.kept hm3
  have hM3 := hM2.trans hm3
  have cx := bx.cell 0
  clear hI2 hM2 hm3
  have HW3 := hide hw3
  have HMX := hide hmx
  clear hw3 hmx
  go_wp2_with fail
  rw [← HW3.out, ← HMX.out]
  clear HW3 HMX
  refine (first_any w3).mono ?_
  rintro e w4 ⟨rfl, hm4⟩
  have hI4 := hI3.kept hm4
  have hM4 := hM3.trans hm4
  replace b0 := b0.mod hm4 id
  replace bx := bx.mod hm4 id
  replace cx := bx.cell 0
  clear hI3 hM3 hm4
  go_wp2_with fail
  refine (ino_any dir w4 hdl hdr).mono ?_
  rintro e w5 ⟨rfl, rfl⟩
  obtain ⟨d, hd⟩ : ∃ d, d = inoOf dir := ⟨_, rfl⟩
  rw [← hd] at hdb ⊢
  have hwd : (Lit.int .i64 d).wf = true := wf_i64 (by omega) (by omega)
  clear hd
  replace cx : w4.cell? ⟨mx, 0, none⟩ = some (.pointer (some ⟨b + 3, 0, none⟩)) := bx.cell 0
  obtain ⟨md, hmd⟩ : ∃ m, m = w4.heap.size := ⟨_, rfl⟩
  obtain ⟨w5, hw5⟩ : ∃ w', w' = w4.alloc (.cells #[.int .i64 d] 3) := ⟨_, rfl⟩
  have hmw5 : Mod None_ w4 w5 := by rw [hw5]; exact (Mod.refl _ w4).alloc _
  have bd : Blk w5 md 3 #[.int .i64 d] := by rw [hw5, hmd]; exact Blk.new w4 3 _
  have hltmd : mx < md := by rw [hmd]; exact bx.lt
  have cbd : w5.cell? ⟨md, 0, none⟩ = some (.int .i64 d) := bd.cell 0
  have Hw5 := hide hw5
  have Hmd := hide hmd
  clear hw5 hmd
  have cx5 : (w4.alloc (.cells #[.int .i64 d] 3)).cell? ⟨mx, 0, none⟩ = some (.pointer (some ⟨b + 3, 0, none⟩)) := by rw [← Hw5.out]; exact (bx.mod hmw5 id).cell 0
  clear cbd
  go_wp2_with fail
  clear cx5
  rw [← Hw5.out, ← Hmd.out]
  clear Hw5 Hmd
  replace b0 := b0.mod hmw5 id
  replace bx := bx.mod hmw5 id
  have hI5 := hI4.kept hmw5
  have hM5 := hM4.trans hmw5
  clear hI4 hM4 hmw5 cx
  refine (list_dents w5 b R d (by omega) hwd hI5).mono ?_
  rintro e w6 ⟨v6, rfl, hD6, hm6⟩
  replace b0 := b0.mod hm6 id
  replace bx := bx.mod hm6 id
  replace bd := bd.mod hm6 id
  have hI6 := hI5.kept hm6
  have hM6 := hM5.trans hm6
  clear hI5 hM5 hm6
  have hlp : (listPairs R d).length ≤ 2513169434843 := by
    rw [listPairs_length]
    have := cntDir_le R d
    omega
  go_wp2_with fail
  refine (copy_any w6 _ v6 _ hD6 (by omega)).mono ?_
  rintro e w7 ⟨v7, rfl, hD7, hm7⟩
  have hlo : md + 1 ≤ w6.heap.size := by have := bd.lt; omega
  replace b0 := b0.mod hm7 id
  replace bx := bx.mod hm7 id
  replace bd := bd.mod hm7 id
  have hI7 := hI6.kept hm7
  have hM7 := hM6.trans hm7
  replace hD7 := hD7.lo hlo
  clear hI6 hM6 hm7 hD6 hlo
  obtain ⟨A, c, rfl, hc1, hc2, hA⟩ := id hD7
  have HD := hide hD7
  clear hA hD7
  obtain ⟨P, hP⟩ : ∃ P, P = listPairs R d := ⟨_, rfl⟩
  have HP := hide hP
  rw [← hP] at hc1 hlp HD ⊢
  clear hP
  have hln : ∀ w, (Builtin.len_ #[28] 3 #[.slice A P.length c]).run Try.prog w = .ok (.int .i64 P.length) w := fun w => by simp [Builtin.len_, run_underlying Try.underlying28]; rfl
  obtain ⟨ml, hml⟩ : ∃ m, m = w7.heap.size := ⟨_, rfl⟩
  obtain ⟨w8, hw8⟩ : ∃ w', w' = w7.alloc (.cells #[.slice A P.length c] 28) := ⟨_, rfl⟩
  have hmw8 : Mod None_ w7 w8 := by rw [hw8]; exact (Mod.refl _ w7).alloc _
  have bl : Blk w8 ml 28 #[.slice A P.length c] := by rw [hw8, hml]; exact Blk.new w7 28 _
  have hltml : md < ml := by rw [hml]; exact bd.lt
  have cbl : w8.cell? ⟨ml, 0, none⟩ = some (.slice A P.length c) := bl.cell 0
  have Hw8 := hide hw8
  have Hml := hide hml
  clear hw8 hml
  clear cbl
  go_wp2_with fail
  rw [← Hw8.out, ← Hml.out]
  clear Hw8 Hml
  replace b0 := b0.mod hmw8 id
  replace bx := bx.mod hmw8 id
  replace bd := bd.mod hmw8 id
  have hI8 := hI7.kept hmw8
  have hM8 := hM7.trans hmw8
  replace HD := hide (HD.out.mod hmw8 (fun _ _ f => f))
  clear hI7 hM7 hmw8
  refine (place_any many ((P.length : Int) + 2) w8 (by omega) (by omega) hml hmr).mono ?_
  rintro e w9 ⟨rfl, rfl⟩
  have hsb := Int.emod_nonneg many (show (P.length : Int) + 2 ≠ 0 by omega)
  have hsb2 := Int.emod_lt_of_pos many (show 0 < (P.length : Int) + 2 by omega)
  obtain ⟨S, hS⟩ : ∃ S : Nat, S = (many % ((P.length : Int) + 2)).toNat := ⟨_, rfl⟩
  have hSi : many % ((P.length : Int) + 2) = S := by omega
  rw [hSi]
  have hSl : S ≤ P.length + 1 := by omega
  clear hS hSi hsb hsb2
  obtain ⟨mt, hmt⟩ : ∃ m, m = w8.heap.size := ⟨_, rfl⟩
  obtain ⟨w10, hw10⟩ : ∃ w', w' = w8.alloc (.cells #[.int .i64 S] 3) := ⟨_, rfl⟩
  have hmw10 : Mod None_ w8 w10 := by rw [hw10]; exact (Mod.refl _ w8).alloc _
  have bt : Blk w10 mt 3 #[.int .i64 S] := by rw [hw10, hmt]; exact Blk.new w8 3 _
  have hltmt : ml < mt := by rw [hmt]; exact bl.lt
  have cbt : w10.cell? ⟨mt, 0, none⟩ = some (.int .i64 S) := bt.cell 0
  have Hw10 := hide hw10
  have Hmt := hide hmt
  clear hw10 hmt
  obtain ⟨w11, hw11⟩ : ∃ w', w' = w10.alloc (.cells #[.int .i64 0] 3) := ⟨_, rfl⟩
  have hmw11 : Mod None_ w10 w11 := by rw [hw11]; exact (Mod.refl _ w10).alloc _
  have bs : Blk w11 (mt + 1) 3 #[.int .i64 0] := by
    have := Blk.new w10 3 #[.int .i64 0]
    rw [← hw11, Hw10.out, alloc_size, ← Hmt.out] at this
    exact this
  have Hw11 := hide hw11
  have hmw := hmw10.trans hmw11
  have cx11 : ((w8.alloc (.cells #[.int .i64 S] 3)).alloc (.cells #[.int .i64 0] 3)).cell? ⟨mx, 0, none⟩ = some (.pointer (some ⟨b + 3, 0, none⟩)) := by rw [← Hw10.out, ← Hw11.out]; exact (bx.mod hmw id).cell 0
  have cd11 : ((w8.alloc (.cells #[.int .i64 S] 3)).alloc (.cells #[.int .i64 0] 3)).cell? ⟨md, 0, none⟩ = some (.int .i64 d) := by rw [← Hw10.out, ← Hw11.out]; exact (bd.mod hmw id).cell 0
  clear cbt hw11
  go_wp2_with fail
  rw [← Hw10.out, ← Hmt.out, ← Hw11.out]
  clear cx11 cd11 Hw10 Hw11 Hmt
  replace b0 := b0.mod hmw id
  replace bx := bx.mod hmw id
  replace bd := bd.mod hmw id
  replace bl := bl.mod hmw id
  replace bt := bt.mod hmw11 id
  have hI11 := hI8.kept hmw
  have hM11 := hM8.trans hmw
  replace HD := hide (HD.out.mod hmw (fun _ _ f => f))
  clear hI8 hM8 hmw hmw10 hmw11
  refine (all_call w11 b d).mono ?_
  rintro e w12 ⟨rfl, hw12⟩
  obtain ⟨mi, hmi⟩ : ∃ m, m = w11.heap.size := ⟨_, rfl⟩
  have hm12 : Mod None_ w11 w12 := by rw [hw12]; exact ((Mod.refl _ w11).alloc _).alloc _
  have b3 : Blk w12 mi 24 #[.pointer (some ⟨b + 3, 0, none⟩)] := by rw [hw12, hmi]; exact (Blk.new w11 24 _).alloc _
  have b4 : Blk w12 (mi + 1) 3 #[.int .i64 d] := by
    have := Blk.new (w11.alloc (.cells #[.pointer (some ⟨b + 3, 0, none⟩)] 24)) 3 #[.int .i64 d]
    rw [← hw12, alloc_size, ← hmi] at this
    exact this
  have hsz : w12.heap.size = mi + 2 := by rw [hw12, hmi]; simp
  have hs1 : w12.heap.size ≤ mi + 2 := by omega
  have hs2 : mi + 2 ≤ w12.heap.size := by omega
  have hlt2 : mt + 1 < mi := by have := bs.lt; omega
  rw [← hmi]
  clear hmi hw12 hsz
  replace b0 := b0.mod hm12 id
  replace bx := bx.mod hm12 id
  replace bd := bd.mod hm12 id
  replace bl := bl.mod hm12 id
  replace bt := bt.mod hm12 id
  replace bs := bs.mod hm12 id
  have hI12 := hI11.kept hm12
  have hM12 := hM11.trans hm12
  replace HD := hide (HD.out.mod hm12 (fun _ _ f => f))
  clear hI11 hM11 hm12
  go_wp2_with fail
  have hst := all_stopsR 2 (by omega) w12 b R d mi (mi + 1) (by omega) hwd hI12 (b3.cell 0) (b4.cell 0) (by omega) (by omega)
  rw [← HP.out] at hst
  clear b3 b4
  have HG : ∀ (n : Nat) (A B : World) (row : Option Nat), (Blk A (mt + 1) 3 #[.int .i64 n] ∧ Mod (· = mt + 1) w12 A) → A.grownBy B row → (∀ r, row = some r → w12.heap.size ≤ r ∧ ∃ o : Obj, A.heap[r]? = some o ∧ o.isCells = false) → Blk B (mt + 1) 3 #[.int .i64 n] ∧ Mod (· = mt + 1) w12 B :=
    fun n A B row h hg hr => ⟨blk_of_grown_own h.1 hg hr (by omega), mod_of_grown_own h.2 hg hr (Nat.le_refl _)⟩
  refine wp_range_mid 3 (by omega) (gf := 42) (lb := #[.pointer (some ⟨mi, 0, none⟩), .pointer (some ⟨mi + 1, 0, none⟩)]) rfl (enters_of Try.func42 (by kernel_rfl) rfl) hst (fun h k => h.trans k) (fun U l o o' _ h ho _ => KpR.putObj U l o o' h ho) (Below.refl _ _) (fun _ => rfl)
    (fun pre U => (pre <+: P ∧ (S = 0 ∨ pre.length < S)) ∧ Blk U (mt + 1) 3 #[.int .i64 pre.length] ∧ Mod (· = mt + 1) w12 U)
    (fun c pre U => (c = .ret ∧ ¬ pre <+: P) ∨ (c = .exit 0 ∧ pre.length = S ∧ S ≠ 0 ∧ Blk U (mt + 1) 3 #[.int .i64 pre.length] ∧ Mod (· = mt + 1) w12 U)) 0
    (fun U => ∃ k : Nat, k ≤ P.length ∧ (S = 0 → k = P.length) ∧ (S ≠ 0 → k = min S P.length) ∧ Blk U (mt + 1) 3 #[.int .i64 k] ∧ Mod (· = mt + 1) w12 U)
    (fun pre A B row h hg hr => ⟨h.1, HG _ A B row h.2 hg hr⟩) (fun c pre A B row h hg hr => h.imp id fun ⟨q1, q2, q3, q4⟩ => ⟨q1, q2, q3, HG _ A B row q4 hg hr⟩)
    ⟨⟨List.nil_prefix, by simp; omega⟩, bs, Mod.refl _ _⟩ ?done ?stop ?body ?rest
  case done =>
    rintro xs U hxs ⟨⟨_, h2⟩, h3⟩
    obtain rfl : P = xs := hxs.symm
    exact ⟨P.length, Nat.le_refl _, fun _ => rfl, fun h => by omega, h3⟩
  case stop =>
    rintro c pre U hp (⟨rfl, h⟩ | ⟨rfl, h1, h2, h3⟩)
    · exact absurd hp h
    · have := hp.length_le
      exact ⟨rfl, pre.length, this, fun h => absurd h h2, fun _ => by omega, h3⟩
  case body =>
    apply Exists.intro
    refine ⟨?_, ?_⟩
    · intro l x U K hK
      gi_wp2
      exact hK
    · rintro l pre x U ⟨⟨hpre, hS⟩, hbs, hM⟩ hlt
      have cl : U.cell? ⟨ml, 0, none⟩ = some (.slice A P.length c) := (bl.mod hM (by omega)).cell 0
      have ct : U.cell? ⟨mt, 0, none⟩ = some (.int .i64 S) := (bt.mod hM (by omega)).cell 0
      have cs : U.cell? ⟨mt + 1, 0, none⟩ = some (.int .i64 pre.length) := hbs.cell 0
      have fs : U.frozen? ⟨mt + 1, 0, none⟩ = false := hbs.frozen 0
      have c0 : U.cell? ⟨m0, 0, none⟩ = some (.bool false) := (b0.mod hM (by omega)).cell 0
      have f0 : U.frozen? ⟨m0, 0, none⟩ = false := (b0.mod hM (by omega)).frozen 0
      obtain ⟨_, _, hcv, _, _, hA⟩ := HD.out
      simp only [Value.slice.injEq, true_and] at hcv
      obtain ⟨rfl, rfl⟩ := hcv
      obtain ⟨g, rfl, _, hg, hcc⟩ := hA (by omega)
      have hgne : g ≠ mt + 1 := by
        rintro rfl
        have h1 := hcc _ _ (pairCells_fst P 0 (by omega))
        have h2 := bs.cell 0
        rw [Nat.zero_mul] at h1
        rw [h1] at h2
        cases h2
      have x0 : U.cell? ⟨g, pre.length * 2, none⟩ = some (.string P[pre.length].1) := (World.cell?_of_block (hM.block g hg hgne)).trans (hcc _ _ (pairCells_fst P pre.length hlt))
      have x1 : U.cell? ⟨g, pre.length * 2 + 1, none⟩ = some (.int .i64 P[pre.length].2) := (World.cell?_of_block (hM.block g hg hgne)).trans (hcc _ _ (pairCells_snd P pre.length hlt))
      have hnp : P[pre.length] ≠ x → ¬ pre ++ [x] <+: P := fun hne hp => hne (by
        have := hp.getElem (i := pre.length) (by simp)
        simpa using this.symm)
      have hpp : P[pre.length] = x → pre ++ [x] <+: P := fun he => by
        obtain ⟨t, ht⟩ := hpre
        refine ⟨t.tail, ?_⟩
        cases t with
        | nil => simp at ht; rw [ht] at hlt; omega
        | cons y t =>
          have : P[pre.length] = y := by subst ht; simp
          subst ht
          rw [← he, this]
          simp
      have HNP := hide hnp
      have HPP := hide hpp
      have hlt' : (pre.length : Int) < P.length := by omega
      have hge : ¬ P.length ≤ pre.length := by omega
      obtain ⟨p, hp⟩ : ∃ p, p = P[pre.length] := ⟨_, rfl⟩
      rw [← hp] at x0 x1 HNP HPP
      have K0 : KeepsFrom w12.heap.size U (U.setCell ⟨m0, 0, none⟩ (.bool false)) := KeepsFrom.of_mod ((Mod.refl (· = m0) U).setCell (p := ⟨m0, 0, none⟩) (.inr rfl) _) (fun k hk _ e => by omega)
      clear hp hcc hnp hpp hA
      by_cases h0 : p.1 = x.1
      · by_cases h1 : p.2 = x.2
        · have e0 : (p.1.toList == x.1.toList) = true := by rw [h0]; simp
          have e1 : (p.2 != x.2) = false := by rw [bne_eq_false_iff_eq]; exact h1
          have hpx := HPP.out (Prod.ext h0 h1)
          have HPX := hide hpx
          have hM1 : Mod (· = mt + 1) U (U.setCell ⟨mt + 1, 0, none⟩ (.int .i64 (pre.length + 1))) := (Mod.refl (· = mt + 1) U).setCell (p := ⟨mt + 1, 0, none⟩) (.inr rfl) _
          have hB1 : Blk (U.setCell ⟨mt + 1, 0, none⟩ (.int .i64 (pre.length + 1))) (mt + 1) 3 #[.int .i64 (pre.length + 1)] := by simpa using hbs.set_ 0 (.int .i64 (pre.length + 1))
          have el : (pre ++ [x]).length = pre.length + 1 := by simp
          have q1 : KeepsFrom w12.heap.size U (U.setCell ⟨mt + 1, 0, none⟩ (.int .i64 (pre.length + 1))) := KeepsFrom.of_mod hM1 (fun k hk _ e => by omega)
          have q2 : KpR w12.heap.size U (U.setCell ⟨mt + 1, 0, none⟩ (.int .i64 (pre.length + 1))) := hM1.kpR (fun k hk _ e => by omega)
          have q3 := hM.trans hM1
          have Q1 := hide q1
          have Q2 := hide q2
          have Q3 := hide q3
          have QB := hide hB1
          clear q1 q2 q3 hM1 hB1 hM h0 h1 hpx
          by_cases hst : pre.length + 1 = S
          · have e2 : ((pre.length : Int) + 1 == S) = true := by rw [beq_iff_eq]; omega
            have HST := hide hst
            clear hst hS
            gi_wp2
            refine ⟨Q1.out, .inr ⟨rfl, ?_, ?_, ?_, Q3.out⟩⟩
            · rw [el]; exact HST.out
            · have := HST.out; omega
            · rw [el]; exact QB.out
          · have e2 : ((pre.length : Int) + 1 == S) = false := by rw [beq_eq_false_iff_ne]; omega
            have HST := hide hst
            have HS := hide hS
            clear hst hS
            gi_wp2
            refine ⟨Q1.out, Q2.out, ⟨HPX.out, ?_⟩, ?_, Q3.out⟩
            · rw [el]; have := HST.out; have := HS.out; omega
            · rw [el]; exact QB.out
        · have e0 : (p.1.toList == x.1.toList) = true := by rw [h0]; simp
          have e1 : (p.2 != x.2) = true := by rw [bne_iff_ne]; exact h1
          have hno := HNP.out (fun e => h1 (by rw [e]))
          have HNO := hide hno
          have HK0 := hide K0
          clear hno h0 h1 hM K0 hS
          gi_wp2
          exact ⟨HK0.out, .inl ⟨rfl, HNO.out⟩⟩
      · have e0 : (p.1.toList == x.1.toList) = false := by
          rw [beq_eq_false_iff_ne]
          intro e
          rw [Go.Lib.toList_data, Go.Lib.toList_data] at e
          exact h0 (Go.WideShapes.bytes_inj e)
        have hno := HNP.out (fun e => h0 (by rw [e]))
        have HNO := hide hno
        have HK0 := hide K0
        clear hno h0 hM K0 hS
        gi_wp2
        exact ⟨HK0.out, .inl ⟨rfl, HNO.out⟩⟩
  case rest =>
    rintro D U hD ⟨k, hk, hk0, hk1, hbs, hm⟩ hdfr
    have hdf := hide hdfr
    clear hdfr
    have hIU := hI12.mod hm (fun j _ h e => by omega)
    have hMU := hM12.trans' hm (fun j hj e => by omega)
    have bs0 := bs
    clear bs
    have bs := hbs
    replace b0 := b0.mod hm (by omega)
    replace bx := bx.mod hm (by omega)
    replace bd := bd.mod hm (by omega)
    replace bl := bl.mod hm (by omega)
    replace bt := bt.mod hm (by omega)
    have hgne : ∀ g, 0 < P.length → A = some ⟨g, 0, none⟩ → g ≠ mt + 1 := by
      rintro g hp rfl rfl
      obtain ⟨_, _, hcv, _, _, hA⟩ := HD.out
      obtain ⟨g2, e, _, _, hcc⟩ := hA hp
      simp only [Value.slice.injEq] at hcv
      rw [e] at hcv
      simp only [Option.some.injEq, Addr.mk.injEq, true_and, and_true] at hcv
      obtain ⟨rfl, _⟩ := hcv
      have h1 := hcc _ _ (pairCells_fst P 0 hp)
      have h2 := bs0.cell 0
      rw [Nat.zero_mul] at h1
      rw [h1] at h2
      cases h2
    replace HD : Hid (Dents U (md + 1) (.slice A P.length c) P) := by
      obtain ⟨_, _, hcv, h1, h2, hA⟩ := HD.out
      simp only [Value.slice.injEq, true_and] at hcv
      obtain ⟨rfl, rfl⟩ := hcv
      refine hide ⟨_, _, rfl, h1, h2, fun hp => ?_⟩
      obtain ⟨g, e, h3, h4, hcc⟩ := hA hp
      exact ⟨g, e, h3, Nat.lt_of_lt_of_le h4 hm.size, fun j u hj => (World.cell?_of_block (hm.block g h4 (hgne g hp e))).trans (hcc j u hj)⟩
    have ct : U.cell? ⟨mt, 0, none⟩ = some (.int .i64 S) := bt.cell 0
    have cs : U.cell? ⟨mt + 1, 0, none⟩ = some (.int .i64 k) := bs.cell 0
    have cl : U.cell? ⟨ml, 0, none⟩ = some (.slice A P.length c) := bl.cell 0
    have cx : U.cell? ⟨mx, 0, none⟩ = some (.pointer (some ⟨b + 3, 0, none⟩)) := bx.cell 0
    have cd : U.cell? ⟨md, 0, none⟩ = some (.int .i64 d) := bd.cell 0
    clear hbs hI12 hM12 hst bs0 hgne
    dsimp only
    by_cases hS0 : S = 0
    · have hkP := hk0 hS0
      have eD : ((k : Int) != P.length) = false := by rw [bne_eq_false_iff_eq]; omega
      have eC : ((S : Int) == 0) = true := by rw [beq_iff_eq]; omega
      have eB : ((S : Int) != 0) = false := by rw [bne_eq_false_iff_eq]; omega
      by_cases hP0 : P.length = 0
      · have eA : ((k : Int) != min (S : Int) P.length) = false := by rw [bne_eq_false_iff_eq]; omega
        have eA' : (k : Int) = min (S : Int) P.length := by omega
        clear hS0 hkP hP0 hk0 hk1
        go_wp2_with fail
        refine region_mxw [(true, 0), (true, 1), (true, 3), (false, 2), (false, 4), (true, 5)] (fun w' => w'.cell? ⟨mx, 0, none⟩ = some (.pointer (some ⟨b + 3, 0, none⟩)) ∧ w'.cell? ⟨md, 0, none⟩ = some (.int .i64 d) ∧ w'.cell? ⟨ml, 0, none⟩ = some (.slice A P.length c)) (by kernel_rfl) (by kernel_rfl) ?_
        rintro U1 hU1
        have hm1 : Mod None_ U U1 := by rw [hU1]; exact (Mod.refl None_ U).drew
        replace b0 := b0.mod hm1 id
        replace bx := bx.mod hm1 id
        replace bd := bd.mod hm1 id
        replace bl := bl.mod hm1 id
        have hI13 := hIU.kept hm1
        have hM13 := hMU.trans hm1
        have hdf1 : U1.heap[D]? = some (.deferred (some [])) := by rw [hU1]; exact hdf.out
        replace HD := hide (HD.out.mod hm1 (fun _ _ f => f))
        clear hU1 hm1 hIU hMU hdf ct cs cl cx cd
        have HDF := hide hdf1
        have i1 : U1.cell? ⟨mx, 0, none⟩ = some (.pointer (some ⟨b + 3, 0, none⟩)) := bx.cell 0
        have i2 : U1.cell? ⟨md, 0, none⟩ = some (.int .i64 d) := bd.cell 0
        have i3 : U1.cell? ⟨ml, 0, none⟩ = some (.slice A P.length c) := bl.cell 0
        refine ⟨⟨i1, i2, i3⟩, ?_⟩
        iterate 3 (refine mxw_quiet rfl (fun w' ⟨i1, i2, i3⟩ K hK => by go_simp; exact hK) ?_; go_frame)
        refine mxw_loud rfl (fun K hK => ?_)
        go_simp
        refine (list_dents U1 b R d (by omega) hwd hI13).mono ?_
        rintro e U2 ⟨v14, rfl, hD14, hm1⟩
        rw [← HP.out] at hD14
        replace b0 := b0.mod hm1 id
        replace bx := bx.mod hm1 id
        replace bd := bd.mod hm1 id
        replace bl := bl.mod hm1 id
        have hI14 := hI13.kept hm1
        have hM14 := hM13.trans hm1
        have hdf2 : U2.heap[D]? = some (.deferred (some [])) := (hm1.block D (Array.getElem?_eq_some_iff.1 HDF.out).1 id).trans HDF.out
        replace HD := hide (HD.out.mod hm1 (fun _ _ f => f))
        replace HDF := hide hdf2
        clear hm1 hI13 hM13 hdf1 hdf2 i1 i2 i3
        have i1 : U2.cell? ⟨mx, 0, none⟩ = some (.pointer (some ⟨b + 3, 0, none⟩)) := bx.cell 0
        have i2 : U2.cell? ⟨md, 0, none⟩ = some (.int .i64 d) := bd.cell 0
        have i3 : U2.cell? ⟨ml, 0, none⟩ = some (.slice A P.length c) := bl.cell 0
        refine ⟨_, rfl, ⟨i1, i2, i3⟩, hK _ _ ?_⟩
        clear hK K
        try go_frame
        refine mxw_loud rfl (fun K hK => ?_)
        go_simp
        refine (same_any U2 _ _ _ _ _ _ hD14 HD.out).mono ?_
        rw [decide_eq_true (rfl : P = P)]
        rintro e U3 ⟨rfl, hm1⟩
        replace b0 := b0.mod hm1 id
        replace bx := bx.mod hm1 id
        replace bd := bd.mod hm1 id
        replace bl := bl.mod hm1 id
        have hI15 := hI14.kept hm1
        have hM15 := hM14.trans hm1
        have hdf2 : U3.heap[D]? = some (.deferred (some [])) := (hm1.block D (Array.getElem?_eq_some_iff.1 HDF.out).1 id).trans HDF.out
        replace HD := hide (HD.out.mod hm1 (fun _ _ f => f))
        replace HDF := hide hdf2
        clear hm1 hI14 hM14 hdf2 i1 i2 i3 hD14
        have i1 : U3.cell? ⟨mx, 0, none⟩ = some (.pointer (some ⟨b + 3, 0, none⟩)) := bx.cell 0
        have i2 : U3.cell? ⟨md, 0, none⟩ = some (.int .i64 d) := bd.cell 0
        have i3 : U3.cell? ⟨ml, 0, none⟩ = some (.slice A P.length c) := bl.cell 0
        refine ⟨_, rfl, ⟨i1, i2, i3⟩, hK _ _ ?_⟩
        clear hK K
        try go_frame
        iterate 1 (refine mxw_quiet rfl (fun w' ⟨i1, i2, i3⟩ K hK => by go_simp; exact hK) ?_; go_frame)
        refine mxw_nil ?_
        clear i1 i2 i3
        obtain ⟨mg, hmg⟩ : ∃ m, m = U3.heap.size := ⟨_, rfl⟩
        obtain ⟨U5, hU5⟩ : ∃ w', w' = (U3.alloc (.cells #[.int .i64 0] 3)).alloc (.cells #[.slice none 0 0] 28) := ⟨_, rfl⟩
        have hm1 : Mod None_ U3 U5 := by rw [hU5]; exact ((Mod.refl _ U3).alloc _).alloc _
        have bg : Blk U5 mg 3 #[.int .i64 0] := by rw [hU5, hmg]; exact (Blk.new U3 3 _).alloc _
        have bm : Blk U5 (mg + 1) 28 #[.slice none 0 0] := by
          have := Blk.new (U3.alloc (.cells #[.int .i64 0] 3)) 28 #[.slice none 0 0]
          rw [← hU5, alloc_size, ← hmg] at this
          exact this
        have hltg : ml < mg := by rw [hmg]; exact bl.lt
        have hsz : U5.heap.size = mg + 2 := by rw [hU5, hmg]; simp
        replace b0 := b0.mod hm1 id
        replace bx := bx.mod hm1 id
        replace bd := bd.mod hm1 id
        replace bl := bl.mod hm1 id
        have i1 : ((U3.alloc (.cells #[.int .i64 0] 3)).alloc (.cells #[.slice none 0 0] 28)).cell? ⟨mx, 0, none⟩ = some (.pointer (some ⟨b + 3, 0, none⟩)) := by rw [← hU5]; exact bx.cell 0
        have i2 : ((U3.alloc (.cells #[.int .i64 0] 3)).alloc (.cells #[.slice none 0 0] 28)).cell? ⟨md, 0, none⟩ = some (.int .i64 d) := by rw [← hU5]; exact bd.cell 0
        have HU5 := hide hU5
        have HMG := hide hmg
        have HSZ := hide hsz
        clear hU5 hmg hsz
        go_wp2_with fail
        rw [← HU5.out, ← HMG.out]
        have hI16 := hI15.kept hm1
        have hM16 := hM15.trans hm1
        have hdf2 : U5.heap[D]? = some (.deferred (some [])) := (hm1.block D (Array.getElem?_eq_some_iff.1 HDF.out).1 id).trans HDF.out
        replace HD := hide (HD.out.mod hm1 (fun _ _ f => f))
        replace HDF := hide hdf2
        clear hm1 hI15 hM15 hdf2 i1 i2 HU5 HMG
        have hDg : D < mg := by
          have h1 := (Array.getElem?_eq_some_iff.1 HDF.out).1
          have h2 := HSZ.out
          rcases Nat.lt_or_ge D mg with h | h
          · exact h
          · rcases Nat.lt_or_ge D (mg + 1) with h3 | h3
            · obtain rfl : D = mg := by omega
              have h4 := HDF.out
              have h5 := bg
              unfold Blk at h5
              rw [h5] at h4
              cases h4
            · obtain rfl : D = mg + 1 := by omega
              have h4 := HDF.out
              have h5 := bm
              unfold Blk at h5
              rw [h5] at h4
              cases h4
        refine (all_call U5 b d).mono ?_
        rintro e U6 ⟨rfl, hU6⟩
        have hsz6 : U6.heap.size = mg + 4 := by rw [hU6, alloc_size, alloc_size, HSZ.out]
        have hm1 : Mod None_ U5 U6 := by rw [hU6]; exact ((Mod.refl _ U5).alloc _).alloc _
        have e5 : U5.heap.size = mg + 2 := HSZ.out
        have b3 : Blk U6 (mg + 2) 24 #[.pointer (some ⟨b + 3, 0, none⟩)] := by rw [hU6, ← e5]; exact (Blk.new U5 24 _).alloc _
        have b4 : Blk U6 (mg + 3) 3 #[.int .i64 d] := by
          have := Blk.new (U5.alloc (.cells #[.pointer (some ⟨b + 3, 0, none⟩)] 24)) 3 #[.int .i64 d]
          rw [← hU6, alloc_size, e5] at this
          exact this
        rw [e5]
        replace b0 := b0.mod hm1 id
        replace bx := bx.mod hm1 id
        replace bd := bd.mod hm1 id
        replace bl := bl.mod hm1 id
        replace bg := bg.mod hm1 id
        replace bm := bm.mod hm1 id
        have hI17 := hI16.kept hm1
        have hM17 := hM16.trans hm1
        have hdf2 : U6.heap[D]? = some (.deferred (some [])) := (hm1.block D (Array.getElem?_eq_some_iff.1 HDF.out).1 id).trans HDF.out
        replace HD := hide (HD.out.mod hm1 (fun _ _ f => f))
        replace HDF := hide hdf2
        have hs61 : U6.heap.size ≤ mg + 4 := by omega
        have hs62 : mg + 4 ≤ U6.heap.size := by omega
        have HS6 := hide hsz6
        clear hm1 hI16 hM16 hdf2 HSZ hsz6 hU6 e5
        go_wp2_with fail
        have hno : ownerAt U6 (mg + 1) = none := by unfold ownerAt; rw [bm.cell 0]; rfl
        have hst2 := all_stops 2 (by omega) U6 (KpO U6.heap.size (mg + 1)) (fun W _ => KpO.refl _ _ W) (fun h k => h.trans k) (fun W o hW => KpO.alloc W o (by omega)) (KpO.keep (by omega) hno) (fun h => h.size) b R d (mg + 2) (mg + 3) (by omega) hwd hI17 (b3.cell 0) (b4.cell 0) (by omega) (by omega)
        rw [← HP.out] at hst2
        have hstart : StopInv d R.length R [] P := by rw [HP.out]; exact stop_start hI17.ok hI17.nodup d
        clear b3 b4
        refine wp_range_mid 3 (by omega) (gf := 42) (lb := #[.pointer (some ⟨mg + 2, 0, none⟩), .pointer (some ⟨mg + 3, 0, none⟩)]) rfl (enters_of Try.func42 (by kernel_rfl) rfl) hst2 (fun h k => h.trans k) (fun W l o o' hl h ho _ => KpO.putObj W l o o' (by omega) h ho) (Below.refl _ _) (fun _ => rfl)
          (fun pre W => pre <+: P ∧ ∃ R' made v, StopInv d R.length R' made (P.drop pre.length) ∧ IndexAt W b R' ∧ Blk W mg 3 #[.int .i64 pre.length] ∧ Blk W (mg + 1) 28 #[v] ∧ W.ownsRow U6.heap.size 36 2 v made.length (pairCells made) ∧ Mod (fun k => Ix b k ∨ k = mg ∨ k = mg + 1) U6 W)
          (fun c pre W => c = .ret ∧ ¬ pre <+: P) 2
          (fun W => ∃ R' made v, StopInv d R.length R' made [] ∧ IndexAt W b R' ∧ Blk W mg 3 #[.int .i64 P.length] ∧ Blk W (mg + 1) 28 #[v] ∧ W.ownsRow U6.heap.size 36 2 v made.length (pairCells made) ∧ Mod (fun k => Ix b k ∨ k = mg ∨ k = mg + 1) U6 W)
          ?own2 (fun c pre A B row h hg hr => h)
          ⟨List.nil_prefix, R, [], _, hstart, hI17, bg, bm, ⟨rfl, .inl ⟨rfl, rfl⟩⟩, Mod.refl _ _⟩ ?done2 ?stop2 ?body2 ?rest2
        case own2 =>
          rintro pre A B row ⟨hp, R', made, v', hs, hi, hg1, hv, hown, hM⟩ hg hr
          refine ⟨hp, R', made, v', hs, hi.mod (Mod.of_grown hg) (fun k h1 h2 e => ?_), blk_of_grown_own hg1 hg hr (by omega), blk_of_grown_own hv hg hr (by omega), own_mod hown (Mod.of_grown hg) (fun g hg' e => ?_), mod_of_grown_own hM hg hr (Nat.le_refl _)⟩
          · have := (hr k e.symm).1; omega
          · obtain ⟨_, o, ho, hoc⟩ := hr g e.symm
            obtain ⟨_, cur, hh⟩ := own_blk hown hg'
            rw [hh] at ho; cases ho; simp [Obj.isCells] at hoc
        case done2 =>
          rintro xs W hxs ⟨_, R', made, v', hs, h3⟩
          obtain rfl : P = xs := hxs.symm
          rw [List.drop_length] at hs
          exact ⟨R', made, v', hs, h3⟩
        case stop2 =>
          rintro c pre W hp ⟨rfl, h⟩
          exact absurd hp h
        case body2 =>
          apply Exists.intro
          refine ⟨?_, ?_⟩
          · intro l x W K hK
            gi_wp2
            exact hK
          · rintro l pre x W ⟨hpre, R', made, v', hs, hi, hg1, hv, hown, hM⟩ hlt
            have cl : W.cell? ⟨ml, 0, none⟩ = some (.slice A P.length c) := (bl.mod hM (by unfold Ix; omega)).cell 0
            have cx : W.cell? ⟨mx, 0, none⟩ = some (.pointer (some ⟨b + 3, 0, none⟩)) := (bx.mod hM (by unfold Ix; omega)).cell 0
            have cd : W.cell? ⟨md, 0, none⟩ = some (.int .i64 d) := (bd.mod hM (by unfold Ix; omega)).cell 0
            have cs : W.cell? ⟨mg, 0, none⟩ = some (.int .i64 pre.length) := hg1.cell 0
            have fs : W.frozen? ⟨mg, 0, none⟩ = false := hg1.frozen 0
            have c0 : W.cell? ⟨m0, 0, none⟩ = some (.bool false) := (b0.mod hM (by unfold Ix; omega)).cell 0
            have f0 : W.frozen? ⟨m0, 0, none⟩ = false := (b0.mod hM (by unfold Ix; omega)).frozen 0
            obtain ⟨_, _, hcv, _, _, hA⟩ := HD.out
            simp only [Value.slice.injEq, true_and] at hcv
            obtain ⟨rfl, rfl⟩ := hcv
            obtain ⟨g, rfl, hgl, hg, hcc⟩ := hA (by omega)
            have hgne : g ≠ mg ∧ g ≠ mg + 1 := by
              have h1 := hcc _ _ (pairCells_fst P 0 (by omega))
              rw [Nat.zero_mul] at h1
              constructor
              · rintro rfl
                have h2 := bg.cell 0
                rw [h1] at h2
                cases h2
              · rintro rfl
                have h2 := bm.cell 0
                rw [h1] at h2
                cases h2
            have hgS : ¬ (Ix b g ∨ g = mg ∨ g = mg + 1) := by unfold Ix; omega
            have x0 : W.cell? ⟨g, pre.length * 2, none⟩ = some (.string P[pre.length].1) := (World.cell?_of_block (hM.block g hg hgS)).trans (hcc _ _ (pairCells_fst P pre.length hlt))
            have x1 : W.cell? ⟨g, pre.length * 2 + 1, none⟩ = some (.int .i64 P[pre.length].2) := (World.cell?_of_block (hM.block g hg hgS)).trans (hcc _ _ (pairCells_snd P pre.length hlt))
            have hnp : P[pre.length] ≠ x → ¬ pre ++ [x] <+: P := fun hne hp => hne (by
              have := hp.getElem (i := pre.length) (by simp)
              simpa using this.symm)
            have hpp : P[pre.length] = x → pre ++ [x] <+: P := fun he => by
              obtain ⟨t, ht⟩ := hpre
              refine ⟨t.tail, ?_⟩
              cases t with
              | nil => simp at ht; rw [ht] at hlt; omega
              | cons y t =>
                have : P[pre.length] = y := by subst ht; simp
                subst ht
                rw [← he, this]
                simp
            have hdr : P[pre.length] = x → P.drop pre.length = x :: P.drop (pre.length + 1) := fun he => by rw [← he]; exact List.drop_eq_getElem_cons hlt
            have HNP := hide hnp
            have HPP := hide hpp
            have HDR := hide hdr
            have hlt' : (pre.length : Int) < P.length := by omega
            have hge : ¬ P.length ≤ pre.length := by omega
            obtain ⟨p, hp⟩ : ∃ p, p = P[pre.length] := ⟨_, rfl⟩
            rw [← hp] at x0 x1 HNP HPP HDR
            have K0 : KeepsFrom U6.heap.size W (W.setCell ⟨m0, 0, none⟩ (.bool false)) := KeepsFrom.of_mod ((Mod.refl (· = m0) W).setCell (p := ⟨m0, 0, none⟩) (.inr rfl) _) (fun k hk _ e => by omega)
            clear hp hcc hnp hpp hdr hA
            by_cases h0 : p.1 = x.1
            · by_cases h1 : p.2 = x.2
              · have e0 : (p.1.toList == x.1.toList) = true := by rw [h0]; simp
                have e1 : (p.2 != x.2) = false := by rw [bne_eq_false_iff_eq]; exact h1
                have hpx : p = x := Prod.ext h0 h1
                have HPX := hide (HPP.out hpx)
                rw [HDR.out hpx] at hs
                obtain ⟨⟨s1, s2, s3, s4⟩, _⟩ := hs.step hi.ok hi.nodup x.1
                have HSS := hide (fun t => (hs.step hi.ok hi.nodup t).2)
                have hRl' : R'.length ≤ 2513169434843 := Nat.le_trans hs.len hRl
                have hml : made.length ≤ 2513169434843 := by have h1 := hs.cnt; have h2 := cntDir_le R' d; omega
                have h2b : (x.2 != x.2) = false := by simp
                clear h0 h1 hpx HNP HPP HDR K0 hs c0 f0
                -- the counter goes on, then Drop
                obtain ⟨W1, hW1⟩ : ∃ W1, W1 = W.setCell ⟨mg, 0, none⟩ (.int .i64 (pre.length + 1)) := ⟨_, rfl⟩
                have hm1 : Mod (· = mg) W W1 := by rw [hW1]; exact (Mod.refl (· = mg) W).setCell (p := ⟨mg, 0, none⟩) (.inr rfl) _
                have hg2 : Blk W1 mg 3 #[.int .i64 (pre.length + 1)] := by rw [hW1]; simpa using hg1.set_ 0 (.int .i64 (pre.length + 1))
                have hi1 := hi.mod hm1 (fun k _ h e => by omega)
                have cx1 : (W.setCell ⟨mg, 0, none⟩ (.int .i64 (pre.length + 1))).cell? ⟨mx, 0, none⟩ = some (.pointer (some ⟨b + 3, 0, none⟩)) := store_other cx (by omega)
                have cd1 : (W.setCell ⟨mg, 0, none⟩ (.int .i64 (pre.length + 1))).cell? ⟨md, 0, none⟩ = some (.int .i64 d) := store_other cd (by omega)
                have HW1 := hide hW1
                clear hW1 hi
                gi_wp2_with first
                  | (refine ⟨trivial, ?_⟩; gi_at_call 25; rw [← HW1.out] at cx1 cd1 ⊢; clear x0 x1 cs fs cl cx cd
                     refine (CallsIn.inRound l (callsIn_wide.2 (drop_eq W1 b R' d x.1 x.2 0 (by omega) hwd hi1 s1 s2))).mono ?_; rintro e W2 ⟨rfl, hm2, hi2⟩
                     have cx2 : W2.cell? ⟨mx, 0, none⟩ = some (.pointer (some ⟨b + 3, 0, none⟩)) := (World.cell?_of_block (hm2.block mx (block_lt_of_cell cx1) (by unfold Ix; omega))).trans cx1
                     have cd2 : W2.cell? ⟨md, 0, none⟩ = some (.int .i64 d) := (World.cell?_of_block (hm2.block md (block_lt_of_cell cd1) (by unfold Ix; omega))).trans cd1
                     have HM2 := hide hm2
                     clear cx1 cd1 hm2 hi1)
                  | (refine ⟨trivial, ?_⟩; gi_at_call 17
                     refine (CallsIn.inRound l (callsIn_wide.2 (get_eq W2 b _ d x.1 0 hwd hi2 s4))).mono ?_; rintro e W3 ⟨rfl, hm3⟩
                     have cx3 : W3.cell? ⟨mx, 0, none⟩ = some (.pointer (some ⟨b + 3, 0, none⟩)) := (World.cell?_of_block (hm3.block mx (block_lt_of_cell cx2) id)).trans cx2
                     have cd3 : W3.cell? ⟨md, 0, none⟩ = some (.int .i64 d) := (World.cell?_of_block (hm3.block md (block_lt_of_cell cd2) id)).trans cd2
                     have hi3 := hi2.kept hm3
                     have HM3 := hide hm3
                     clear cx2 cd2 hm3 hi2)
                refine ⟨trivial, ?_⟩
                gi_at_call 22
                refine (CallsIn.inRound l (callsIn_wide.2 (put_any W3 b _ d _ x.2 (by omega) hi3))).mono ?_
                rintro e W4 ⟨rfl, hm4, hi4⟩
                have HS3 := hide (HSS.out ({ data := #[126] } ++ x.fst.extract 0 (min (x.fst.size : Int) 27).toNat))
                generalize ({ data := #[126] } ++ x.fst.extract 0 (min (x.fst.size : Int) 27).toNat : ByteArray) = t at hi4 HS3 ⊢
                have hmW : Mod (fun k => Ix b k ∨ k = mg) W W4 := ((((hm1.mono (T := fun k => Ix b k ∨ k = mg) (fun k _ e => .inr e)).trans' HM2.out (fun k _ e => .inl e)).trans' HM3.out (fun k _ e => e.elim))).trans' hm4 (fun k _ e => .inl e)
                have hv4 := hv.mod hmW (by unfold Ix; omega)
                have hg4 : Blk W4 mg 3 #[.int .i64 (pre.length + 1)] := ((hg2.mod HM2.out (by unfold Ix; omega)).mod HM3.out id).mod hm4 (by unfold Ix; omega)
                have hown4 := own_mod hown hmW (fun g hg e => by have := (own_blk hown hg).1; unfold Ix at e; omega)
                have hMW4 : Mod (fun k => Ix b k ∨ k = mg ∨ k = mg + 1) U6 W4 := hM.trans' hmW (fun k _ e => e.elim .inl (fun e => .inr (.inl e)))
                have k1 : KeepsFrom U6.heap.size W W4 := KeepsFrom.of_mod hmW (fun k hk _ e => by unfold Ix at e; omega)
                have k2 : KpO U6.heap.size (mg + 1) W W4 := KpO.of_mod hmW (block_lt_of_cell (hv.cell 0)) (by unfold Ix; omega) (fun k hk _ e => by unfold Ix at e; omega)
                have el : (pre ++ [x]).length = pre.length + 1 := by simp
                have hU4 : U6.heap.size ≤ W4.heap.size := hMW4.size
                have K1 := hide k1
                have K2 := hide k2
                have HI4 := hide hi4
                have HMW4 := hide hMW4
                clear hmW hm4 hi4 k1 k2 HM2 HM3 hm1 hi3 cx3 cd3 hM hv hown hg1 hg2 HSS
                obtain ⟨z, hz⟩ : ∃ z, z = putErr (dropRows R' d x.1) d t x.2 := ⟨_, rfl⟩
                rw [← hz] at HS3 ⊢
                clear hz
                by_cases hz0 : z = 0
                · subst hz0
                  rw [if_pos rfl] at HS3
                  obtain ⟨A', c', rfl⟩ := own_slice hown4
                  have cl4 : W4.cell? ⟨mg + 1, 0, none⟩ = some (.slice A' made.length c') := hv4.cell 0
                  gi_wp2_with ((with_reducible refine at_slotIn 166 ?_); refine wpListIn_append_dent rfl (.tmp 161) (.tmp 165) rfl W4 U6.heap.size (.slice A' made.length c') made (t, x.2) rfl rfl W4.heap.size rfl rfl hown4 hU4 (by omega) ?_; intro v8 w8 hown8 hm8 hat8; obtain ⟨A2, c2, rfl⟩ := own_slice hown8; go_frame
                               obtain ⟨k1, k2, k3, k4, k5⟩ := grown_keeps (by omega) hU4 hv4 hown4 hown8 hm8 hat8
                               have hv8 := hv4.mod hm8 (fun e => by have := (own_blk hown4 e.symm).1; omega)
                               have cl8 : w8.cell? ⟨mg + 1, 0, none⟩ = some (.slice A' made.length c') := hv8.cell 0
                               have cf8 : w8.frozen? ⟨mg + 1, 0, none⟩ = false := hv8.frozen 0
                               have L1 := hide k1
                               have L2 := hide k2
                               have L3 := hide k3
                               have L4 := hide k4
                               have L5 := hide k5
                               clear k1 k2 k3 k4 k5 hown8 hm8 hat8 hv8)
                  have e : (made ++ [(t, x.2)]).length = made.length + 1 := by simp
                  have q1 := L1.out
                  have q2 := L2.out
                  have q3 := L3.out
                  have q4 := L4.out
                  have q5 := L5.out
                  rw [e] at q1 q2 q3 q5
                  have q4' : (w8.setCell ⟨mg + 1, 0, none⟩ (.slice A2 (made.length + 1) c2)).ownsRow U6.heap.size 36 2 (.slice A2 (made.length + 1) c2) (made ++ [(t, x.2)]).length (pairCells (made ++ [(t, x.2)])) := by
                    have := q4
                    rw [e] at this ⊢; exact this
                  refine ⟨K1.out.trans q1, K2.out.trans q2, HPX.out, _, _, _, ?_, HI4.out.mod q5 (fun k h1 h2 e => by omega), ?_, q3, q4', HMW4.out.trans' q5 (fun k hk e => e.elim (fun e => by omega) (fun e => .inr (.inr e)))⟩
                  · rw [el]; exact HS3.out
                  · rw [el]; exact hg4.mod q5 (by omega)
                · have hzb : ((z : Int) == 0) = false := by rw [beq_eq_false_iff_ne]; exact hz0
                  rw [if_neg hz0] at HS3
                  clear hz0
                  gi_wp2
                  refine ⟨K1.out, K2.out, HPX.out, _, made, v', ?_, HI4.out, ?_, hv4, hown4, HMW4.out⟩
                  · rw [el]; exact HS3.out
                  · rw [el]; exact hg4
              · have e0 : (p.1.toList == x.1.toList) = true := by rw [h0]; simp
                have e1 : (p.2 != x.2) = true := by rw [bne_iff_ne]; exact h1
                have hno := HNP.out (fun e => h1 (by rw [e]))
                have HNO := hide hno
                have HK0 := hide K0
                clear hno h0 h1 hM K0 hs hi hg1 hv hown
                gi_wp2
                exact ⟨HK0.out, rfl, HNO.out⟩
            · have e0 : (p.1.toList == x.1.toList) = false := by
                rw [beq_eq_false_iff_ne]
                intro e
                rw [Go.Lib.toList_data, Go.Lib.toList_data] at e
                exact h0 (Go.WideShapes.bytes_inj e)
              have hno := HNP.out (fun e => h0 (by rw [e]))
              have HNO := hide hno
              have HK0 := hide K0
              clear hno h0 hM K0 hs hi hg1 hv hown
              gi_wp2
              exact ⟨HK0.out, rfl, HNO.out⟩
        case rest2 =>
          rintro D2 W hD2 ⟨R', made, v', hs, hi, hg1, hv, hown, hM⟩ hdf2
          obtain ⟨A', c', rfl⟩ := own_slice hown
          have hMw : Mod None_ w W := hM17.trans' hM (fun k hk e => by unfold Ix at e; omega)
          have hdD : W.heap[D]? = some (.deferred (some [])) := (hM.block D (Array.getElem?_eq_some_iff.1 HDF.out).1 (fun e => by
            have h1 := HDF.out
            rcases e with e | e | e
            · exact (ix_not_def hI17 e) h1
            · omega
            · omega)).trans HDF.out
          have hd' := Dents.of_own hown
          have HDD := hide hdD
          have HD2 := hide hdf2
          have HMD := hide hd'
          have HS := hide hs
          have hml : made.length ≤ 2513169434843 := by have h1 := hs.cnt; have h2 := cntDir_le R' d; have h3 := hs.len; omega
          replace bx := bx.mod hM (by unfold Ix; omega)
          replace bd := bd.mod hM (by unfold Ix; omega)
          replace bl := bl.mod hM (by unfold Ix; omega)
          replace b0 := b0.mod hM (by unfold Ix; omega)
          have HMW := hide hMw
          have cv : W.cell? ⟨mg + 1, 0, none⟩ = some (.slice A' made.length c') := hv.cell 0
          have cx : W.cell? ⟨mx, 0, none⟩ = some (.pointer (some ⟨b + 3, 0, none⟩)) := bx.cell 0
          have cd : W.cell? ⟨md, 0, none⟩ = some (.int .i64 d) := bd.cell 0
          clear hdD hdf2 hd' hs hown hM hMw HDF hst2 hstart hI17 hM17
          dsimp only
          go_wp2_with fail
          have hln2 : ∀ w, (Builtin.len_ #[28] 3 #[.slice A' made.length c']).run Try.prog w = .ok (.int .i64 made.length) w := fun w => by simp [Builtin.len_, run_underlying Try.underlying28]; rfl
          go_loopg [21] made.length (fun n i wr => ∃ j : Nat, j + n = made.length ∧ i = .int .i64 j ∧ Mod None_ W wr)
          case atStart => exact ⟨0, by omega, rfl, Mod.refl _ _⟩
          case round =>
            obtain ⟨j, hj, rfl, hm⟩ := hrel
            have cv : wr.cell? ⟨mg + 1, 0, none⟩ = some (.slice A' made.length c') := (hv.mod hm id).cell 0
            have cx : wr.cell? ⟨mx, 0, none⟩ = some (.pointer (some ⟨b + 3, 0, none⟩)) := (bx.mod hm id).cell 0
            have cd : wr.cell? ⟨md, 0, none⟩ = some (.int .i64 d) := (bd.mod hm id).cell 0
            have hir := hi.kept hm
            by_cases hjl : j < made.length
            · have hji : (j : Int) < made.length := by omega
              obtain ⟨_, _, hcv, _, _, hA⟩ := HMD.out
              simp only [Value.slice.injEq, true_and] at hcv
              obtain ⟨rfl, rfl⟩ := hcv
              obtain ⟨g, rfl, hgl, hg, hcc⟩ := hA (by omega)
              have x0 : wr.cell? ⟨g, j * 2, none⟩ = some (.string made[j].1) := (World.cell?_of_block (hm.block g hg id)).trans (hcc _ _ (pairCells_fst made j hjl))
              have x1 : wr.cell? ⟨g, j * 2 + 1, none⟩ = some (.int .i64 made[j].2) := (World.cell?_of_block (hm.block g hg id)).trans (hcc _ _ (pairCells_snd made j hjl))
              have hgot := (HS.out.got made[j] (List.getElem_mem hjl)).1
              obtain ⟨p, hp⟩ : ∃ p, p = made[j] := ⟨_, rfl⟩
              rw [← hp] at x0 x1 hgot
              have h2b : (p.2 != p.2) = false := by simp
              have HJ := hide hj
              clear hp hcc hA hj
              go_wp2_with fail
              refine region_mxw [(true, 0), (true, 1), (true, 2), (true, 3), (true, 4), (true, 5), (true, 6), (true, 8), (true, 9), (true, 10), (true, 11), (true, 12), (false, 7), (true, 13)] (fun w' => w'.cell? ⟨mg + 1, 0, none⟩ = some (.slice (some ⟨g, 0, none⟩) made.length c') ∧ w'.cell? ⟨mx, 0, none⟩ = some (.pointer (some ⟨b + 3, 0, none⟩)) ∧ w'.cell? ⟨md, 0, none⟩ = some (.int .i64 d) ∧ w'.cell? ⟨g, j * 2, none⟩ = some (.string p.1) ∧ w'.cell? ⟨g, j * 2 + 1, none⟩ = some (.int .i64 p.2)) (by kernel_rfl) (by kernel_rfl) ?_
              rintro wq hwq
              have hm1 : Mod None_ wr wq := by rw [hwq]; exact (Mod.refl None_ wr).drew
              replace hm := hm.trans hm1
              replace hir := hir.kept hm1
              replace cv : wq.cell? ⟨mg + 1, 0, none⟩ = some (.slice (some ⟨g, 0, none⟩) made.length c') := by rw [hwq]; exact cv
              replace cx : wq.cell? ⟨mx, 0, none⟩ = some (.pointer (some ⟨b + 3, 0, none⟩)) := by rw [hwq]; exact cx
              replace cd : wq.cell? ⟨md, 0, none⟩ = some (.int .i64 d) := by rw [hwq]; exact cd
              replace x0 : wq.cell? ⟨g, j * 2, none⟩ = some (.string p.1) := by rw [hwq]; exact x0
              replace x1 : wq.cell? ⟨g, j * 2 + 1, none⟩ = some (.int .i64 p.2) := by rw [hwq]; exact x1
              clear hwq hm1
              refine ⟨⟨cv, cx, cd, x0, x1⟩, ?_⟩
              iterate 12 (refine mxw_quiet rfl (fun w' ⟨i1, i2, i3, i4, i5⟩ K hK => by go_simp; exact hK) ?_; go_frame)
              refine mxw_loud rfl (fun K hK => ?_)
              go_simp
              refine (get_eq wq b R' d p.1 p.2 hwd hir hgot).mono ?_
              rintro e ws ⟨rfl, hm2⟩
              replace hm := hm.trans hm2
              replace cv : ws.cell? ⟨mg + 1, 0, none⟩ = some (.slice (some ⟨g, 0, none⟩) made.length c') := (World.cell?_of_block (hm2.block _ (block_lt_of_cell cv) id)).trans cv
              replace cx : ws.cell? ⟨mx, 0, none⟩ = some (.pointer (some ⟨b + 3, 0, none⟩)) := (World.cell?_of_block (hm2.block _ (block_lt_of_cell cx) id)).trans cx
              replace cd : ws.cell? ⟨md, 0, none⟩ = some (.int .i64 d) := (World.cell?_of_block (hm2.block _ (block_lt_of_cell cd) id)).trans cd
              replace x0 : ws.cell? ⟨g, j * 2, none⟩ = some (.string p.1) := (World.cell?_of_block (hm2.block _ (block_lt_of_cell x0) id)).trans x0
              replace x1 : ws.cell? ⟨g, j * 2 + 1, none⟩ = some (.int .i64 p.2) := (World.cell?_of_block (hm2.block _ (block_lt_of_cell x1) id)).trans x1
              refine ⟨_, rfl, ⟨cv, cx, cd, x0, x1⟩, hK _ _ ?_⟩
              clear hK K hm2
              try go_frame
              refine mxw_quiet rfl (fun w' ⟨i1, i2, i3, i4, i5⟩ K hK => by go_simp; exact hK) ?_
              go_frame
              refine mxw_nil ?_
              go_wp2
              go_roundg (gk - 1)
              case measure => have := HJ.out; omega
              case rel => exact ⟨j + 1, by have := HJ.out; omega, by go_num, hm⟩
            · obtain rfl : j = made.length := by omega
              have hji : ¬ (made.length : Int) < made.length := by omega
              go_wp2_with fail
              refine (list_dents wr b R' d (by have := HS.out.len; omega) hwd hir).mono ?_
              rintro e wa ⟨va, rfl, hDa, hma⟩
              have hqn : (listPairs R' d).length = made.length := by rw [listPairs_length, HS.out.cnt]; rfl
              have hall := all_any wa b R' d (by have := HS.out.len; omega) hwd (hir.kept hma)
              obtain ⟨Q, hQ⟩ : ∃ Q, Q = listPairs R' d := ⟨_, rfl⟩
              rw [← hQ] at hDa hqn hall
              obtain ⟨Aa, ca, rfl, ha1, ha2, ha3⟩ := id hDa
              have hlna : ∀ w, (Builtin.len_ #[28] 3 #[.slice Aa Q.length ca]).run Try.prog w = .ok (.int .i64 Q.length) w := fun w => by simp [Builtin.len_, run_underlying Try.underlying28]; rfl
              have hmA := hm.trans hma
              have cv2 : wa.cell? ⟨mg + 1, 0, none⟩ = some (.slice A' made.length c') := (hv.mod hmA id).cell 0
              have cx2 : wa.cell? ⟨mx, 0, none⟩ = some (.pointer (some ⟨b + 3, 0, none⟩)) := (bx.mod hmA id).cell 0
              have cd2 : wa.cell? ⟨md, 0, none⟩ = some (.int .i64 d) := (bd.mod hmA id).cell 0
              have cg2 : wa.cell? ⟨mg, 0, none⟩ = some (.int .i64 P.length) := (hg1.mod hmA id).cell 0
              have cl2 : wa.cell? ⟨ml, 0, none⟩ = some (.slice A P.length c) := (bl.mod hmA id).cell 0
              have hpp : ((P.length : Int) == P.length) = true := by simp
              have hqq : ((Q.length : Int) == made.length) = true := by rw [beq_iff_eq]; omega
              have HDA := hide hDa
              have HAL := hide hall
              have HMA := hide hmA
              clear hQ ha3 hDa hall hmA hma hir cv cx cd hm hqn hj
              go_wp2_with fail
              refine Calls.mono HAL.out ?_
              rintro e wb ⟨vb, rfl, hDb, hmb⟩
              have HDB := hide (HDA.out.mod hmb (fun _ _ f => f))
              have HDC := hide hDb
              have HMB := hide (HMA.out.trans hmb)
              clear hmb hDb cv2 cx2 cd2 cg2 cl2
              go_wp2_with fail
              refine (same_any wb _ _ _ _ _ _ HDC.out HDB.out).mono ?_
              rw [decide_eq_true (rfl : Q = Q)]
              rintro e wc ⟨rfl, hmc⟩
              have hmW := HMB.out.trans hmc
              replace b0 := b0.mod hmW id
              have c0 : wc.cell? ⟨m0, 0, none⟩ = some (.bool false) := b0.cell 0
              have f0 : wc.frozen? ⟨m0, 0, none⟩ = false := b0.frozen 0
              have hb1 : Blk (wc.setCell ⟨m0, 0, none⟩ (.bool true)) m0 4 #[.bool true] := by simpa using b0.set_ 0 (.bool true)
              have hms : Mod (· = m0) wc (wc.setCell ⟨m0, 0, none⟩ (.bool true)) := (Mod.refl (· = m0) wc).setCell (p := ⟨m0, 0, none⟩) (.inr rfl) _
              have hk2 : (wc.setCell ⟨m0, 0, none⟩ (.bool true)).heap[D2]? = some (.deferred (some [])) := (KeepsOthers.setCell _ _ _).same D2 _ ((hmW.block D2 (Array.getElem?_eq_some_iff.1 HD2.out).1 id).trans HD2.out) rfl
              have hk1 : (wc.setCell ⟨m0, 0, none⟩ (.bool true)).heap[D]? = some (.deferred (some [])) := (KeepsOthers.setCell _ _ _).same D _ ((hmW.block D (Array.getElem?_eq_some_iff.1 HDD.out).1 id).trans HDD.out) rfl
              have hME : Mod None_ w (wc.setCell ⟨m0, 0, none⟩ (.bool true)) := (HMW.out.trans hmW).trans' hms (fun k hk e => by omega)
              have HB1 := hide hb1
              have HK1 := hide hk1
              have HK2 := hide hk2
              have HME := hide hME
              clear hb1 hms hk1 hk2 hME hmW hmc HMB HDC HDB HMA HAL HDA
              go_wp2
              have hne : D ≠ D2 := by omega
              have hm2 : Mod (· = D2) (wc.setCell ⟨m0, 0, none⟩ (.bool true)) ((wc.setCell ⟨m0, 0, none⟩ (.bool true)).putObj D2 (.deferred none)) := (Mod.of_grown (grownBy_putObj' _ D2 _)).mono fun k _ e => by cases e; rfl
              have hm3 : Mod (· = D) ((wc.setCell ⟨m0, 0, none⟩ (.bool true)).putObj D2 (.deferred none)) (((wc.setCell ⟨m0, 0, none⟩ (.bool true)).putObj D2 (.deferred none)).putObj D (.deferred none)) := (Mod.of_grown (grownBy_putObj' _ D _)).mono fun k _ e => by cases e; rfl
              have hk1 : ((wc.setCell ⟨m0, 0, none⟩ (.bool true)).putObj D2 (.deferred none)).heap[D]? = some (.deferred (some [])) := (World.putObj_heap_other hne).trans HK1.out
              have hc := ((HB1.out.mod hm2 (by omega)).mod hm3 (by omega)).cell 0
              have hfin := (HME.out.trans' hm2 (fun k hk e => by omega)).trans' hm3 (fun k hk e => by omega)
              have HFI := hide hfin
              clear hfin hm2 hm3
              refine ⟨by simp, .inl ⟨_, _, rfl, run_takeDeferred HK2.out, ?_⟩⟩
              refine ⟨by simp, .inl ⟨_, _, rfl, run_takeDeferred hk1, ?_⟩⟩
              refine ⟨.bool true, ?_, rfl, HFI.out⟩
              simp [results, Try.results7, go_sem, hc]
      · have eA : ((k : Int) != min (S : Int) P.length) = true := by rw [bne_iff_ne]; omega
        have eA' : ¬ (k : Int) = min (S : Int) P.length := by omega
        clear hS0 hkP hP0 hk0 hk1
        go_wp2_with fail
        refine region_mxw [(true, 0), (true, 1), (true, 3), (false, 2), (false, 4), (true, 5)] (fun w' => w'.cell? ⟨mx, 0, none⟩ = some (.pointer (some ⟨b + 3, 0, none⟩)) ∧ w'.cell? ⟨md, 0, none⟩ = some (.int .i64 d) ∧ w'.cell? ⟨ml, 0, none⟩ = some (.slice A P.length c)) (by kernel_rfl) (by kernel_rfl) ?_
        rintro U1 hU1
        have hm1 : Mod None_ U U1 := by rw [hU1]; exact (Mod.refl None_ U).drew
        replace b0 := b0.mod hm1 id
        replace bx := bx.mod hm1 id
        replace bd := bd.mod hm1 id
        replace bl := bl.mod hm1 id
        have hI13 := hIU.kept hm1
        have hM13 := hMU.trans hm1
        have hdf1 : U1.heap[D]? = some (.deferred (some [])) := by rw [hU1]; exact hdf.out
        replace HD := hide (HD.out.mod hm1 (fun _ _ f => f))
        clear hU1 hm1 hIU hMU hdf ct cs cl cx cd
        have HDF := hide hdf1
        have i1 : U1.cell? ⟨mx, 0, none⟩ = some (.pointer (some ⟨b + 3, 0, none⟩)) := bx.cell 0
        have i2 : U1.cell? ⟨md, 0, none⟩ = some (.int .i64 d) := bd.cell 0
        have i3 : U1.cell? ⟨ml, 0, none⟩ = some (.slice A P.length c) := bl.cell 0
        refine ⟨⟨i1, i2, i3⟩, ?_⟩
        iterate 3 (refine mxw_quiet rfl (fun w' ⟨i1, i2, i3⟩ K hK => by go_simp; exact hK) ?_; go_frame)
        refine mxw_loud rfl (fun K hK => ?_)
        go_simp
        refine (list_dents U1 b R d (by omega) hwd hI13).mono ?_
        rintro e U2 ⟨v14, rfl, hD14, hm1⟩
        rw [← HP.out] at hD14
        replace b0 := b0.mod hm1 id
        replace bx := bx.mod hm1 id
        replace bd := bd.mod hm1 id
        replace bl := bl.mod hm1 id
        have hI14 := hI13.kept hm1
        have hM14 := hM13.trans hm1
        have hdf2 : U2.heap[D]? = some (.deferred (some [])) := (hm1.block D (Array.getElem?_eq_some_iff.1 HDF.out).1 id).trans HDF.out
        replace HD := hide (HD.out.mod hm1 (fun _ _ f => f))
        replace HDF := hide hdf2
        clear hm1 hI13 hM13 hdf1 hdf2 i1 i2 i3
        have i1 : U2.cell? ⟨mx, 0, none⟩ = some (.pointer (some ⟨b + 3, 0, none⟩)) := bx.cell 0
        have i2 : U2.cell? ⟨md, 0, none⟩ = some (.int .i64 d) := bd.cell 0
        have i3 : U2.cell? ⟨ml, 0, none⟩ = some (.slice A P.length c) := bl.cell 0
        refine ⟨_, rfl, ⟨i1, i2, i3⟩, hK _ _ ?_⟩
        clear hK K
        try go_frame
        refine mxw_loud rfl (fun K hK => ?_)
        go_simp
        refine (same_any U2 _ _ _ _ _ _ hD14 HD.out).mono ?_
        rw [decide_eq_true (rfl : P = P)]
        rintro e U3 ⟨rfl, hm1⟩
        replace b0 := b0.mod hm1 id
        replace bx := bx.mod hm1 id
        replace bd := bd.mod hm1 id
        replace bl := bl.mod hm1 id
        have hI15 := hI14.kept hm1
        have hM15 := hM14.trans hm1
        have hdf2 : U3.heap[D]? = some (.deferred (some [])) := (hm1.block D (Array.getElem?_eq_some_iff.1 HDF.out).1 id).trans HDF.out
        replace HD := hide (HD.out.mod hm1 (fun _ _ f => f))
        replace HDF := hide hdf2
        clear hm1 hI14 hM14 hdf2 i1 i2 i3 hD14
        have i1 : U3.cell? ⟨mx, 0, none⟩ = some (.pointer (some ⟨b + 3, 0, none⟩)) := bx.cell 0
        have i2 : U3.cell? ⟨md, 0, none⟩ = some (.int .i64 d) := bd.cell 0
        have i3 : U3.cell? ⟨ml, 0, none⟩ = some (.slice A P.length c) := bl.cell 0
        refine ⟨_, rfl, ⟨i1, i2, i3⟩, hK _ _ ?_⟩
        clear hK K
        try go_frame
        iterate 1 (refine mxw_quiet rfl (fun w' ⟨i1, i2, i3⟩ K hK => by go_simp; exact hK) ?_; go_frame)
        refine mxw_nil ?_
        clear i1 i2 i3
        obtain ⟨mg, hmg⟩ : ∃ m, m = U3.heap.size := ⟨_, rfl⟩
        obtain ⟨U5, hU5⟩ : ∃ w', w' = (U3.alloc (.cells #[.int .i64 0] 3)).alloc (.cells #[.slice none 0 0] 28) := ⟨_, rfl⟩
        have hm1 : Mod None_ U3 U5 := by rw [hU5]; exact ((Mod.refl _ U3).alloc _).alloc _
        have bg : Blk U5 mg 3 #[.int .i64 0] := by rw [hU5, hmg]; exact (Blk.new U3 3 _).alloc _
        have bm : Blk U5 (mg + 1) 28 #[.slice none 0 0] := by
          have := Blk.new (U3.alloc (.cells #[.int .i64 0] 3)) 28 #[.slice none 0 0]
          rw [← hU5, alloc_size, ← hmg] at this
          exact this
        have hltg : ml < mg := by rw [hmg]; exact bl.lt
        have hsz : U5.heap.size = mg + 2 := by rw [hU5, hmg]; simp
        replace b0 := b0.mod hm1 id
        replace bx := bx.mod hm1 id
        replace bd := bd.mod hm1 id
        replace bl := bl.mod hm1 id
        have i1 : ((U3.alloc (.cells #[.int .i64 0] 3)).alloc (.cells #[.slice none 0 0] 28)).cell? ⟨mx, 0, none⟩ = some (.pointer (some ⟨b + 3, 0, none⟩)) := by rw [← hU5]; exact bx.cell 0
        have i2 : ((U3.alloc (.cells #[.int .i64 0] 3)).alloc (.cells #[.slice none 0 0] 28)).cell? ⟨md, 0, none⟩ = some (.int .i64 d) := by rw [← hU5]; exact bd.cell 0
        have HU5 := hide hU5
        have HMG := hide hmg
        have HSZ := hide hsz
        clear hU5 hmg hsz
        go_wp2_with fail
        rw [← HU5.out, ← HMG.out]
        have hI16 := hI15.kept hm1
        have hM16 := hM15.trans hm1
        have hdf2 : U5.heap[D]? = some (.deferred (some [])) := (hm1.block D (Array.getElem?_eq_some_iff.1 HDF.out).1 id).trans HDF.out
        replace HD := hide (HD.out.mod hm1 (fun _ _ f => f))
        replace HDF := hide hdf2
        clear hm1 hI15 hM15 hdf2 i1 i2 HU5 HMG
        have hDg : D < mg := by
          have h1 := (Array.getElem?_eq_some_iff.1 HDF.out).1
          have h2 := HSZ.out
          rcases Nat.lt_or_ge D mg with h | h
          · exact h
          · rcases Nat.lt_or_ge D (mg + 1) with h3 | h3
            · obtain rfl : D = mg := by omega
              have h4 := HDF.out
              have h5 := bg
              unfold Blk at h5
              rw [h5] at h4
              cases h4
            · obtain rfl : D = mg + 1 := by omega
              have h4 := HDF.out
              have h5 := bm
              unfold Blk at h5
              rw [h5] at h4
              cases h4
        refine (all_call U5 b d).mono ?_
        rintro e U6 ⟨rfl, hU6⟩
        have hsz6 : U6.heap.size = mg + 4 := by rw [hU6, alloc_size, alloc_size, HSZ.out]
        have hm1 : Mod None_ U5 U6 := by rw [hU6]; exact ((Mod.refl _ U5).alloc _).alloc _
        have e5 : U5.heap.size = mg + 2 := HSZ.out
        have b3 : Blk U6 (mg + 2) 24 #[.pointer (some ⟨b + 3, 0, none⟩)] := by rw [hU6, ← e5]; exact (Blk.new U5 24 _).alloc _
        have b4 : Blk U6 (mg + 3) 3 #[.int .i64 d] := by
          have := Blk.new (U5.alloc (.cells #[.pointer (some ⟨b + 3, 0, none⟩)] 24)) 3 #[.int .i64 d]
          rw [← hU6, alloc_size, e5] at this
          exact this
        rw [e5]
        replace b0 := b0.mod hm1 id
        replace bx := bx.mod hm1 id
        replace bd := bd.mod hm1 id
        replace bl := bl.mod hm1 id
        replace bg := bg.mod hm1 id
        replace bm := bm.mod hm1 id
        have hI17 := hI16.kept hm1
        have hM17 := hM16.trans hm1
        have hdf2 : U6.heap[D]? = some (.deferred (some [])) := (hm1.block D (Array.getElem?_eq_some_iff.1 HDF.out).1 id).trans HDF.out
        replace HD := hide (HD.out.mod hm1 (fun _ _ f => f))
        replace HDF := hide hdf2
        have hs61 : U6.heap.size ≤ mg + 4 := by omega
        have hs62 : mg + 4 ≤ U6.heap.size := by omega
        have HS6 := hide hsz6
        clear hm1 hI16 hM16 hdf2 HSZ hsz6 hU6 e5
        go_wp2_with fail
        have hno : ownerAt U6 (mg + 1) = none := by unfold ownerAt; rw [bm.cell 0]; rfl
        have hst2 := all_stops 2 (by omega) U6 (KpO U6.heap.size (mg + 1)) (fun W _ => KpO.refl _ _ W) (fun h k => h.trans k) (fun W o hW => KpO.alloc W o (by omega)) (KpO.keep (by omega) hno) (fun h => h.size) b R d (mg + 2) (mg + 3) (by omega) hwd hI17 (b3.cell 0) (b4.cell 0) (by omega) (by omega)
        rw [← HP.out] at hst2
        have hstart : StopInv d R.length R [] P := by rw [HP.out]; exact stop_start hI17.ok hI17.nodup d
        clear b3 b4
        refine wp_range_mid 3 (by omega) (gf := 42) (lb := #[.pointer (some ⟨mg + 2, 0, none⟩), .pointer (some ⟨mg + 3, 0, none⟩)]) rfl (enters_of Try.func42 (by kernel_rfl) rfl) hst2 (fun h k => h.trans k) (fun W l o o' hl h ho _ => KpO.putObj W l o o' (by omega) h ho) (Below.refl _ _) (fun _ => rfl)
          (fun pre W => pre <+: P ∧ ∃ R' made v, StopInv d R.length R' made (P.drop pre.length) ∧ IndexAt W b R' ∧ Blk W mg 3 #[.int .i64 pre.length] ∧ Blk W (mg + 1) 28 #[v] ∧ W.ownsRow U6.heap.size 36 2 v made.length (pairCells made) ∧ Mod (fun k => Ix b k ∨ k = mg ∨ k = mg + 1) U6 W)
          (fun c pre W => c = .ret ∧ ¬ pre <+: P) 2
          (fun W => ∃ R' made v, StopInv d R.length R' made [] ∧ IndexAt W b R' ∧ Blk W mg 3 #[.int .i64 P.length] ∧ Blk W (mg + 1) 28 #[v] ∧ W.ownsRow U6.heap.size 36 2 v made.length (pairCells made) ∧ Mod (fun k => Ix b k ∨ k = mg ∨ k = mg + 1) U6 W)
          ?own2 (fun c pre A B row h hg hr => h)
          ⟨List.nil_prefix, R, [], _, hstart, hI17, bg, bm, ⟨rfl, .inl ⟨rfl, rfl⟩⟩, Mod.refl _ _⟩ ?done2 ?stop2 ?body2 ?rest2
        case own2 =>
          rintro pre A B row ⟨hp, R', made, v', hs, hi, hg1, hv, hown, hM⟩ hg hr
          refine ⟨hp, R', made, v', hs, hi.mod (Mod.of_grown hg) (fun k h1 h2 e => ?_), blk_of_grown_own hg1 hg hr (by omega), blk_of_grown_own hv hg hr (by omega), own_mod hown (Mod.of_grown hg) (fun g hg' e => ?_), mod_of_grown_own hM hg hr (Nat.le_refl _)⟩
          · have := (hr k e.symm).1; omega
          · obtain ⟨_, o, ho, hoc⟩ := hr g e.symm
            obtain ⟨_, cur, hh⟩ := own_blk hown hg'
            rw [hh] at ho; cases ho; simp [Obj.isCells] at hoc
        case done2 =>
          rintro xs W hxs ⟨_, R', made, v', hs, h3⟩
          obtain rfl : P = xs := hxs.symm
          rw [List.drop_length] at hs
          exact ⟨R', made, v', hs, h3⟩
        case stop2 =>
          rintro c pre W hp ⟨rfl, h⟩
          exact absurd hp h
        case body2 =>
          apply Exists.intro
          refine ⟨?_, ?_⟩
          · intro l x W K hK
            gi_wp2
            exact hK
          · rintro l pre x W ⟨hpre, R', made, v', hs, hi, hg1, hv, hown, hM⟩ hlt
            have cl : W.cell? ⟨ml, 0, none⟩ = some (.slice A P.length c) := (bl.mod hM (by unfold Ix; omega)).cell 0
            have cx : W.cell? ⟨mx, 0, none⟩ = some (.pointer (some ⟨b + 3, 0, none⟩)) := (bx.mod hM (by unfold Ix; omega)).cell 0
            have cd : W.cell? ⟨md, 0, none⟩ = some (.int .i64 d) := (bd.mod hM (by unfold Ix; omega)).cell 0
            have cs : W.cell? ⟨mg, 0, none⟩ = some (.int .i64 pre.length) := hg1.cell 0
            have fs : W.frozen? ⟨mg, 0, none⟩ = false := hg1.frozen 0
            have c0 : W.cell? ⟨m0, 0, none⟩ = some (.bool false) := (b0.mod hM (by unfold Ix; omega)).cell 0
            have f0 : W.frozen? ⟨m0, 0, none⟩ = false := (b0.mod hM (by unfold Ix; omega)).frozen 0
            obtain ⟨_, _, hcv, _, _, hA⟩ := HD.out
            simp only [Value.slice.injEq, true_and] at hcv
            obtain ⟨rfl, rfl⟩ := hcv
            obtain ⟨g, rfl, hgl, hg, hcc⟩ := hA (by omega)
            have hgne : g ≠ mg ∧ g ≠ mg + 1 := by
              have h1 := hcc _ _ (pairCells_fst P 0 (by omega))
              rw [Nat.zero_mul] at h1
              constructor
              · rintro rfl
                have h2 := bg.cell 0
                rw [h1] at h2
                cases h2
              · rintro rfl
                have h2 := bm.cell 0
                rw [h1] at h2
                cases h2
            have hgS : ¬ (Ix b g ∨ g = mg ∨ g = mg + 1) := by unfold Ix; omega
            have x0 : W.cell? ⟨g, pre.length * 2, none⟩ = some (.string P[pre.length].1) := (World.cell?_of_block (hM.block g hg hgS)).trans (hcc _ _ (pairCells_fst P pre.length hlt))
            have x1 : W.cell? ⟨g, pre.length * 2 + 1, none⟩ = some (.int .i64 P[pre.length].2) := (World.cell?_of_block (hM.block g hg hgS)).trans (hcc _ _ (pairCells_snd P pre.length hlt))
            have hnp : P[pre.length] ≠ x → ¬ pre ++ [x] <+: P := fun hne hp => hne (by
              have := hp.getElem (i := pre.length) (by simp)
              simpa using this.symm)
            have hpp : P[pre.length] = x → pre ++ [x] <+: P := fun he => by
              obtain ⟨t, ht⟩ := hpre
              refine ⟨t.tail, ?_⟩
              cases t with
              | nil => simp at ht; rw [ht] at hlt; omega
              | cons y t =>
                have : P[pre.length] = y := by subst ht; simp
                subst ht
                rw [← he, this]
                simp
            have hdr : P[pre.length] = x → P.drop pre.length = x :: P.drop (pre.length + 1) := fun he => by rw [← he]; exact List.drop_eq_getElem_cons hlt
            have HNP := hide hnp
            have HPP := hide hpp
            have HDR := hide hdr
            have hlt' : (pre.length : Int) < P.length := by omega
            have hge : ¬ P.length ≤ pre.length := by omega
            obtain ⟨p, hp⟩ : ∃ p, p = P[pre.length] := ⟨_, rfl⟩
            rw [← hp] at x0 x1 HNP HPP HDR
            have K0 : KeepsFrom U6.heap.size W (W.setCell ⟨m0, 0, none⟩ (.bool false)) := KeepsFrom.of_mod ((Mod.refl (· = m0) W).setCell (p := ⟨m0, 0, none⟩) (.inr rfl) _) (fun k hk _ e => by omega)
            clear hp hcc hnp hpp hdr hA
            by_cases h0 : p.1 = x.1
            · by_cases h1 : p.2 = x.2
              · have e0 : (p.1.toList == x.1.toList) = true := by rw [h0]; simp
                have e1 : (p.2 != x.2) = false := by rw [bne_eq_false_iff_eq]; exact h1
                have hpx : p = x := Prod.ext h0 h1
                have HPX := hide (HPP.out hpx)
                rw [HDR.out hpx] at hs
                obtain ⟨⟨s1, s2, s3, s4⟩, _⟩ := hs.step hi.ok hi.nodup x.1
                have HSS := hide (fun t => (hs.step hi.ok hi.nodup t).2)
                have hRl' : R'.length ≤ 2513169434843 := Nat.le_trans hs.len hRl
                have hml : made.length ≤ 2513169434843 := by have h1 := hs.cnt; have h2 := cntDir_le R' d; omega
                have h2b : (x.2 != x.2) = false := by simp
                clear h0 h1 hpx HNP HPP HDR K0 hs c0 f0
                -- the counter goes on, then Drop
                obtain ⟨W1, hW1⟩ : ∃ W1, W1 = W.setCell ⟨mg, 0, none⟩ (.int .i64 (pre.length + 1)) := ⟨_, rfl⟩
                have hm1 : Mod (· = mg) W W1 := by rw [hW1]; exact (Mod.refl (· = mg) W).setCell (p := ⟨mg, 0, none⟩) (.inr rfl) _
                have hg2 : Blk W1 mg 3 #[.int .i64 (pre.length + 1)] := by rw [hW1]; simpa using hg1.set_ 0 (.int .i64 (pre.length + 1))
                have hi1 := hi.mod hm1 (fun k _ h e => by omega)
                have cx1 : (W.setCell ⟨mg, 0, none⟩ (.int .i64 (pre.length + 1))).cell? ⟨mx, 0, none⟩ = some (.pointer (some ⟨b + 3, 0, none⟩)) := store_other cx (by omega)
                have cd1 : (W.setCell ⟨mg, 0, none⟩ (.int .i64 (pre.length + 1))).cell? ⟨md, 0, none⟩ = some (.int .i64 d) := store_other cd (by omega)
                have HW1 := hide hW1
                clear hW1 hi
                gi_wp2_with first
                  | (refine ⟨trivial, ?_⟩; gi_at_call 25; rw [← HW1.out] at cx1 cd1 ⊢; clear x0 x1 cs fs cl cx cd
                     refine (CallsIn.inRound l (callsIn_wide.2 (drop_eq W1 b R' d x.1 x.2 0 (by omega) hwd hi1 s1 s2))).mono ?_; rintro e W2 ⟨rfl, hm2, hi2⟩
                     have cx2 : W2.cell? ⟨mx, 0, none⟩ = some (.pointer (some ⟨b + 3, 0, none⟩)) := (World.cell?_of_block (hm2.block mx (block_lt_of_cell cx1) (by unfold Ix; omega))).trans cx1
                     have cd2 : W2.cell? ⟨md, 0, none⟩ = some (.int .i64 d) := (World.cell?_of_block (hm2.block md (block_lt_of_cell cd1) (by unfold Ix; omega))).trans cd1
                     have HM2 := hide hm2
                     clear cx1 cd1 hm2 hi1)
                  | (refine ⟨trivial, ?_⟩; gi_at_call 17
                     refine (CallsIn.inRound l (callsIn_wide.2 (get_eq W2 b _ d x.1 0 hwd hi2 s4))).mono ?_; rintro e W3 ⟨rfl, hm3⟩
                     have cx3 : W3.cell? ⟨mx, 0, none⟩ = some (.pointer (some ⟨b + 3, 0, none⟩)) := (World.cell?_of_block (hm3.block mx (block_lt_of_cell cx2) id)).trans cx2
                     have cd3 : W3.cell? ⟨md, 0, none⟩ = some (.int .i64 d) := (World.cell?_of_block (hm3.block md (block_lt_of_cell cd2) id)).trans cd2
                     have hi3 := hi2.kept hm3
                     have HM3 := hide hm3
                     clear cx2 cd2 hm3 hi2)
                refine ⟨trivial, ?_⟩
                gi_at_call 22
                refine (CallsIn.inRound l (callsIn_wide.2 (put_any W3 b _ d _ x.2 (by omega) hi3))).mono ?_
                rintro e W4 ⟨rfl, hm4, hi4⟩
                have HS3 := hide (HSS.out ({ data := #[126] } ++ x.fst.extract 0 (min (x.fst.size : Int) 27).toNat))
                generalize ({ data := #[126] } ++ x.fst.extract 0 (min (x.fst.size : Int) 27).toNat : ByteArray) = t at hi4 HS3 ⊢
                have hmW : Mod (fun k => Ix b k ∨ k = mg) W W4 := ((((hm1.mono (T := fun k => Ix b k ∨ k = mg) (fun k _ e => .inr e)).trans' HM2.out (fun k _ e => .inl e)).trans' HM3.out (fun k _ e => e.elim))).trans' hm4 (fun k _ e => .inl e)
                have hv4 := hv.mod hmW (by unfold Ix; omega)
                have hg4 : Blk W4 mg 3 #[.int .i64 (pre.length + 1)] := ((hg2.mod HM2.out (by unfold Ix; omega)).mod HM3.out id).mod hm4 (by unfold Ix; omega)
                have hown4 := own_mod hown hmW (fun g hg e => by have := (own_blk hown hg).1; unfold Ix at e; omega)
                have hMW4 : Mod (fun k => Ix b k ∨ k = mg ∨ k = mg + 1) U6 W4 := hM.trans' hmW (fun k _ e => e.elim .inl (fun e => .inr (.inl e)))
                have k1 : KeepsFrom U6.heap.size W W4 := KeepsFrom.of_mod hmW (fun k hk _ e => by unfold Ix at e; omega)
                have k2 : KpO U6.heap.size (mg + 1) W W4 := KpO.of_mod hmW (block_lt_of_cell (hv.cell 0)) (by unfold Ix; omega) (fun k hk _ e => by unfold Ix at e; omega)
                have el : (pre ++ [x]).length = pre.length + 1 := by simp
                have hU4 : U6.heap.size ≤ W4.heap.size := hMW4.size
                have K1 := hide k1
                have K2 := hide k2
                have HI4 := hide hi4
                have HMW4 := hide hMW4
                clear hmW hm4 hi4 k1 k2 HM2 HM3 hm1 hi3 cx3 cd3 hM hv hown hg1 hg2 HSS
                obtain ⟨z, hz⟩ : ∃ z, z = putErr (dropRows R' d x.1) d t x.2 := ⟨_, rfl⟩
                rw [← hz] at HS3 ⊢
                clear hz
                by_cases hz0 : z = 0
                · subst hz0
                  rw [if_pos rfl] at HS3
                  obtain ⟨A', c', rfl⟩ := own_slice hown4
                  have cl4 : W4.cell? ⟨mg + 1, 0, none⟩ = some (.slice A' made.length c') := hv4.cell 0
                  gi_wp2_with ((with_reducible refine at_slotIn 166 ?_); refine wpListIn_append_dent rfl (.tmp 161) (.tmp 165) rfl W4 U6.heap.size (.slice A' made.length c') made (t, x.2) rfl rfl W4.heap.size rfl rfl hown4 hU4 (by omega) ?_; intro v8 w8 hown8 hm8 hat8; obtain ⟨A2, c2, rfl⟩ := own_slice hown8; go_frame
                               obtain ⟨k1, k2, k3, k4, k5⟩ := grown_keeps (by omega) hU4 hv4 hown4 hown8 hm8 hat8
                               have hv8 := hv4.mod hm8 (fun e => by have := (own_blk hown4 e.symm).1; omega)
                               have cl8 : w8.cell? ⟨mg + 1, 0, none⟩ = some (.slice A' made.length c') := hv8.cell 0
                               have cf8 : w8.frozen? ⟨mg + 1, 0, none⟩ = false := hv8.frozen 0
                               have L1 := hide k1
                               have L2 := hide k2
                               have L3 := hide k3
                               have L4 := hide k4
                               have L5 := hide k5
                               clear k1 k2 k3 k4 k5 hown8 hm8 hat8 hv8)
                  have e : (made ++ [(t, x.2)]).length = made.length + 1 := by simp
                  have q1 := L1.out
                  have q2 := L2.out
                  have q3 := L3.out
                  have q4 := L4.out
                  have q5 := L5.out
                  rw [e] at q1 q2 q3 q5
                  have q4' : (w8.setCell ⟨mg + 1, 0, none⟩ (.slice A2 (made.length + 1) c2)).ownsRow U6.heap.size 36 2 (.slice A2 (made.length + 1) c2) (made ++ [(t, x.2)]).length (pairCells (made ++ [(t, x.2)])) := by
                    have := q4
                    rw [e] at this ⊢; exact this
                  refine ⟨K1.out.trans q1, K2.out.trans q2, HPX.out, _, _, _, ?_, HI4.out.mod q5 (fun k h1 h2 e => by omega), ?_, q3, q4', HMW4.out.trans' q5 (fun k hk e => e.elim (fun e => by omega) (fun e => .inr (.inr e)))⟩
                  · rw [el]; exact HS3.out
                  · rw [el]; exact hg4.mod q5 (by omega)
                · have hzb : ((z : Int) == 0) = false := by rw [beq_eq_false_iff_ne]; exact hz0
                  rw [if_neg hz0] at HS3
                  clear hz0
                  gi_wp2
                  refine ⟨K1.out, K2.out, HPX.out, _, made, v', ?_, HI4.out, ?_, hv4, hown4, HMW4.out⟩
                  · rw [el]; exact HS3.out
                  · rw [el]; exact hg4
              · have e0 : (p.1.toList == x.1.toList) = true := by rw [h0]; simp
                have e1 : (p.2 != x.2) = true := by rw [bne_iff_ne]; exact h1
                have hno := HNP.out (fun e => h1 (by rw [e]))
                have HNO := hide hno
                have HK0 := hide K0
                clear hno h0 h1 hM K0 hs hi hg1 hv hown
                gi_wp2
                exact ⟨HK0.out, rfl, HNO.out⟩
            · have e0 : (p.1.toList == x.1.toList) = false := by
                rw [beq_eq_false_iff_ne]
                intro e
                rw [Go.Lib.toList_data, Go.Lib.toList_data] at e
                exact h0 (Go.WideShapes.bytes_inj e)
              have hno := HNP.out (fun e => h0 (by rw [e]))
              have HNO := hide hno
              have HK0 := hide K0
              clear hno h0 hM K0 hs hi hg1 hv hown
              gi_wp2
              exact ⟨HK0.out, rfl, HNO.out⟩
        case rest2 =>
          rintro D2 W hD2 ⟨R', made, v', hs, hi, hg1, hv, hown, hM⟩ hdf2
          obtain ⟨A', c', rfl⟩ := own_slice hown
          have hMw : Mod None_ w W := hM17.trans' hM (fun k hk e => by unfold Ix at e; omega)
          have hdD : W.heap[D]? = some (.deferred (some [])) := (hM.block D (Array.getElem?_eq_some_iff.1 HDF.out).1 (fun e => by
            have h1 := HDF.out
            rcases e with e | e | e
            · exact (ix_not_def hI17 e) h1
            · omega
            · omega)).trans HDF.out
          have hd' := Dents.of_own hown
          have HDD := hide hdD
          have HD2 := hide hdf2
          have HMD := hide hd'
          have HS := hide hs
          have hml : made.length ≤ 2513169434843 := by have h1 := hs.cnt; have h2 := cntDir_le R' d; have h3 := hs.len; omega
          replace bx := bx.mod hM (by unfold Ix; omega)
          replace bd := bd.mod hM (by unfold Ix; omega)
          replace bl := bl.mod hM (by unfold Ix; omega)
          replace b0 := b0.mod hM (by unfold Ix; omega)
          have HMW := hide hMw
          have cv : W.cell? ⟨mg + 1, 0, none⟩ = some (.slice A' made.length c') := hv.cell 0
          have cx : W.cell? ⟨mx, 0, none⟩ = some (.pointer (some ⟨b + 3, 0, none⟩)) := bx.cell 0
          have cd : W.cell? ⟨md, 0, none⟩ = some (.int .i64 d) := bd.cell 0
          clear hdD hdf2 hd' hs hown hM hMw HDF hst2 hstart hI17 hM17
          dsimp only
          go_wp2_with fail
          have hln2 : ∀ w, (Builtin.len_ #[28] 3 #[.slice A' made.length c']).run Try.prog w = .ok (.int .i64 made.length) w := fun w => by simp [Builtin.len_, run_underlying Try.underlying28]; rfl
          go_loopg [21] made.length (fun n i wr => ∃ j : Nat, j + n = made.length ∧ i = .int .i64 j ∧ Mod None_ W wr)
          case atStart => exact ⟨0, by omega, rfl, Mod.refl _ _⟩
          case round =>
            obtain ⟨j, hj, rfl, hm⟩ := hrel
            have cv : wr.cell? ⟨mg + 1, 0, none⟩ = some (.slice A' made.length c') := (hv.mod hm id).cell 0
            have cx : wr.cell? ⟨mx, 0, none⟩ = some (.pointer (some ⟨b + 3, 0, none⟩)) := (bx.mod hm id).cell 0
            have cd : wr.cell? ⟨md, 0, none⟩ = some (.int .i64 d) := (bd.mod hm id).cell 0
            have hir := hi.kept hm
            by_cases hjl : j < made.length
            · have hji : (j : Int) < made.length := by omega
              obtain ⟨_, _, hcv, _, _, hA⟩ := HMD.out
              simp only [Value.slice.injEq, true_and] at hcv
              obtain ⟨rfl, rfl⟩ := hcv
              obtain ⟨g, rfl, hgl, hg, hcc⟩ := hA (by omega)
              have x0 : wr.cell? ⟨g, j * 2, none⟩ = some (.string made[j].1) := (World.cell?_of_block (hm.block g hg id)).trans (hcc _ _ (pairCells_fst made j hjl))
              have x1 : wr.cell? ⟨g, j * 2 + 1, none⟩ = some (.int .i64 made[j].2) := (World.cell?_of_block (hm.block g hg id)).trans (hcc _ _ (pairCells_snd made j hjl))
              have hgot := (HS.out.got made[j] (List.getElem_mem hjl)).1
              obtain ⟨p, hp⟩ : ∃ p, p = made[j] := ⟨_, rfl⟩
              rw [← hp] at x0 x1 hgot
              have h2b : (p.2 != p.2) = false := by simp
              have HJ := hide hj
              clear hp hcc hA hj
              go_wp2_with fail
              refine region_mxw [(true, 0), (true, 1), (true, 2), (true, 3), (true, 4), (true, 5), (true, 6), (true, 8), (true, 9), (true, 10), (true, 11), (true, 12), (false, 7), (true, 13)] (fun w' => w'.cell? ⟨mg + 1, 0, none⟩ = some (.slice (some ⟨g, 0, none⟩) made.length c') ∧ w'.cell? ⟨mx, 0, none⟩ = some (.pointer (some ⟨b + 3, 0, none⟩)) ∧ w'.cell? ⟨md, 0, none⟩ = some (.int .i64 d) ∧ w'.cell? ⟨g, j * 2, none⟩ = some (.string p.1) ∧ w'.cell? ⟨g, j * 2 + 1, none⟩ = some (.int .i64 p.2)) (by kernel_rfl) (by kernel_rfl) ?_
              rintro wq hwq
              have hm1 : Mod None_ wr wq := by rw [hwq]; exact (Mod.refl None_ wr).drew
              replace hm := hm.trans hm1
              replace hir := hir.kept hm1
              replace cv : wq.cell? ⟨mg + 1, 0, none⟩ = some (.slice (some ⟨g, 0, none⟩) made.length c') := by rw [hwq]; exact cv
              replace cx : wq.cell? ⟨mx, 0, none⟩ = some (.pointer (some ⟨b + 3, 0, none⟩)) := by rw [hwq]; exact cx
              replace cd : wq.cell? ⟨md, 0, none⟩ = some (.int .i64 d) := by rw [hwq]; exact cd
              replace x0 : wq.cell? ⟨g, j * 2, none⟩ = some (.string p.1) := by rw [hwq]; exact x0
              replace x1 : wq.cell? ⟨g, j * 2 + 1, none⟩ = some (.int .i64 p.2) := by rw [hwq]; exact x1
              clear hwq hm1
              refine ⟨⟨cv, cx, cd, x0, x1⟩, ?_⟩
              iterate 12 (refine mxw_quiet rfl (fun w' ⟨i1, i2, i3, i4, i5⟩ K hK => by go_simp; exact hK) ?_; go_frame)
              refine mxw_loud rfl (fun K hK => ?_)
              go_simp
              refine (get_eq wq b R' d p.1 p.2 hwd hir hgot).mono ?_
              rintro e ws ⟨rfl, hm2⟩
              replace hm := hm.trans hm2
              replace cv : ws.cell? ⟨mg + 1, 0, none⟩ = some (.slice (some ⟨g, 0, none⟩) made.length c') := (World.cell?_of_block (hm2.block _ (block_lt_of_cell cv) id)).trans cv
              replace cx : ws.cell? ⟨mx, 0, none⟩ = some (.pointer (some ⟨b + 3, 0, none⟩)) := (World.cell?_of_block (hm2.block _ (block_lt_of_cell cx) id)).trans cx
              replace cd : ws.cell? ⟨md, 0, none⟩ = some (.int .i64 d) := (World.cell?_of_block (hm2.block _ (block_lt_of_cell cd) id)).trans cd
              replace x0 : ws.cell? ⟨g, j * 2, none⟩ = some (.string p.1) := (World.cell?_of_block (hm2.block _ (block_lt_of_cell x0) id)).trans x0
              replace x1 : ws.cell? ⟨g, j * 2 + 1, none⟩ = some (.int .i64 p.2) := (World.cell?_of_block (hm2.block _ (block_lt_of_cell x1) id)).trans x1
              refine ⟨_, rfl, ⟨cv, cx, cd, x0, x1⟩, hK _ _ ?_⟩
              clear hK K hm2
              try go_frame
              refine mxw_quiet rfl (fun w' ⟨i1, i2, i3, i4, i5⟩ K hK => by go_simp; exact hK) ?_
              go_frame
              refine mxw_nil ?_
              go_wp2
              go_roundg (gk - 1)
              case measure => have := HJ.out; omega
              case rel => exact ⟨j + 1, by have := HJ.out; omega, by go_num, hm⟩
            · obtain rfl : j = made.length := by omega
              have hji : ¬ (made.length : Int) < made.length := by omega
              go_wp2_with fail
              refine (list_dents wr b R' d (by have := HS.out.len; omega) hwd hir).mono ?_
              rintro e wa ⟨va, rfl, hDa, hma⟩
              have hqn : (listPairs R' d).length = made.length := by rw [listPairs_length, HS.out.cnt]; rfl
              have hall := all_any wa b R' d (by have := HS.out.len; omega) hwd (hir.kept hma)
              obtain ⟨Q, hQ⟩ : ∃ Q, Q = listPairs R' d := ⟨_, rfl⟩
              rw [← hQ] at hDa hqn hall
              obtain ⟨Aa, ca, rfl, ha1, ha2, ha3⟩ := id hDa
              have hlna : ∀ w, (Builtin.len_ #[28] 3 #[.slice Aa Q.length ca]).run Try.prog w = .ok (.int .i64 Q.length) w := fun w => by simp [Builtin.len_, run_underlying Try.underlying28]; rfl
              have hmA := hm.trans hma
              have cv2 : wa.cell? ⟨mg + 1, 0, none⟩ = some (.slice A' made.length c') := (hv.mod hmA id).cell 0
              have cx2 : wa.cell? ⟨mx, 0, none⟩ = some (.pointer (some ⟨b + 3, 0, none⟩)) := (bx.mod hmA id).cell 0
              have cd2 : wa.cell? ⟨md, 0, none⟩ = some (.int .i64 d) := (bd.mod hmA id).cell 0
              have cg2 : wa.cell? ⟨mg, 0, none⟩ = some (.int .i64 P.length) := (hg1.mod hmA id).cell 0
              have cl2 : wa.cell? ⟨ml, 0, none⟩ = some (.slice A P.length c) := (bl.mod hmA id).cell 0
              have hpp : ((P.length : Int) == P.length) = true := by simp
              have hqq : ((Q.length : Int) == made.length) = true := by rw [beq_iff_eq]; omega
              have HDA := hide hDa
              have HAL := hide hall
              have HMA := hide hmA
              clear hQ ha3 hDa hall hmA hma hir cv cx cd hm hqn hj
              go_wp2_with fail
              refine Calls.mono HAL.out ?_
              rintro e wb ⟨vb, rfl, hDb, hmb⟩
              have HDB := hide (HDA.out.mod hmb (fun _ _ f => f))
              have HDC := hide hDb
              have HMB := hide (HMA.out.trans hmb)
              clear hmb hDb cv2 cx2 cd2 cg2 cl2
              go_wp2_with fail
              refine (same_any wb _ _ _ _ _ _ HDC.out HDB.out).mono ?_
              rw [decide_eq_true (rfl : Q = Q)]
              rintro e wc ⟨rfl, hmc⟩
              have hmW := HMB.out.trans hmc
              replace b0 := b0.mod hmW id
              have c0 : wc.cell? ⟨m0, 0, none⟩ = some (.bool false) := b0.cell 0
              have f0 : wc.frozen? ⟨m0, 0, none⟩ = false := b0.frozen 0
              have hb1 : Blk (wc.setCell ⟨m0, 0, none⟩ (.bool true)) m0 4 #[.bool true] := by simpa using b0.set_ 0 (.bool true)
              have hms : Mod (· = m0) wc (wc.setCell ⟨m0, 0, none⟩ (.bool true)) := (Mod.refl (· = m0) wc).setCell (p := ⟨m0, 0, none⟩) (.inr rfl) _
              have hk2 : (wc.setCell ⟨m0, 0, none⟩ (.bool true)).heap[D2]? = some (.deferred (some [])) := (KeepsOthers.setCell _ _ _).same D2 _ ((hmW.block D2 (Array.getElem?_eq_some_iff.1 HD2.out).1 id).trans HD2.out) rfl
              have hk1 : (wc.setCell ⟨m0, 0, none⟩ (.bool true)).heap[D]? = some (.deferred (some [])) := (KeepsOthers.setCell _ _ _).same D _ ((hmW.block D (Array.getElem?_eq_some_iff.1 HDD.out).1 id).trans HDD.out) rfl
              have hME : Mod None_ w (wc.setCell ⟨m0, 0, none⟩ (.bool true)) := (HMW.out.trans hmW).trans' hms (fun k hk e => by omega)
              have HB1 := hide hb1
              have HK1 := hide hk1
              have HK2 := hide hk2
              have HME := hide hME
              clear hb1 hms hk1 hk2 hME hmW hmc HMB HDC HDB HMA HAL HDA
              go_wp2
              have hne : D ≠ D2 := by omega
              have hm2 : Mod (· = D2) (wc.setCell ⟨m0, 0, none⟩ (.bool true)) ((wc.setCell ⟨m0, 0, none⟩ (.bool true)).putObj D2 (.deferred none)) := (Mod.of_grown (grownBy_putObj' _ D2 _)).mono fun k _ e => by cases e; rfl
              have hm3 : Mod (· = D) ((wc.setCell ⟨m0, 0, none⟩ (.bool true)).putObj D2 (.deferred none)) (((wc.setCell ⟨m0, 0, none⟩ (.bool true)).putObj D2 (.deferred none)).putObj D (.deferred none)) := (Mod.of_grown (grownBy_putObj' _ D _)).mono fun k _ e => by cases e; rfl
              have hk1 : ((wc.setCell ⟨m0, 0, none⟩ (.bool true)).putObj D2 (.deferred none)).heap[D]? = some (.deferred (some [])) := (World.putObj_heap_other hne).trans HK1.out
              have hc := ((HB1.out.mod hm2 (by omega)).mod hm3 (by omega)).cell 0
              have hfin := (HME.out.trans' hm2 (fun k hk e => by omega)).trans' hm3 (fun k hk e => by omega)
              have HFI := hide hfin
              clear hfin hm2 hm3
              refine ⟨by simp, .inl ⟨_, _, rfl, run_takeDeferred HK2.out, ?_⟩⟩
              refine ⟨by simp, .inl ⟨_, _, rfl, run_takeDeferred hk1, ?_⟩⟩
              refine ⟨.bool true, ?_, rfl, HFI.out⟩
              simp [results, Try.results7, go_sem, hc]
    · have eC : ((S : Int) == 0) = false := by rw [beq_eq_false_iff_ne]; omega
      have eB : ((S : Int) != 0) = true := by rw [bne_iff_ne]; omega
      have hkP := hk1 hS0
      have eA : ((k : Int) != min (S : Int) P.length) = false := by rw [bne_eq_false_iff_eq]; omega
      have eA' : (k : Int) = min (S : Int) P.length := by omega
      clear hS0 hkP hk0 hk1
      go_wp2_with fail
      refine region_mxw [(true, 0), (true, 1), (true, 3), (false, 2), (false, 4), (true, 5)] (fun w' => w'.cell? ⟨mx, 0, none⟩ = some (.pointer (some ⟨b + 3, 0, none⟩)) ∧ w'.cell? ⟨md, 0, none⟩ = some (.int .i64 d) ∧ w'.cell? ⟨ml, 0, none⟩ = some (.slice A P.length c)) (by kernel_rfl) (by kernel_rfl) ?_
      rintro U1 hU1
      have hm1 : Mod None_ U U1 := by rw [hU1]; exact (Mod.refl None_ U).drew
      replace b0 := b0.mod hm1 id
      replace bx := bx.mod hm1 id
      replace bd := bd.mod hm1 id
      replace bl := bl.mod hm1 id
      have hI13 := hIU.kept hm1
      have hM13 := hMU.trans hm1
      have hdf1 : U1.heap[D]? = some (.deferred (some [])) := by rw [hU1]; exact hdf.out
      replace HD := hide (HD.out.mod hm1 (fun _ _ f => f))
      clear hU1 hm1 hIU hMU hdf ct cs cl cx cd
      have HDF := hide hdf1
      have i1 : U1.cell? ⟨mx, 0, none⟩ = some (.pointer (some ⟨b + 3, 0, none⟩)) := bx.cell 0
      have i2 : U1.cell? ⟨md, 0, none⟩ = some (.int .i64 d) := bd.cell 0
      have i3 : U1.cell? ⟨ml, 0, none⟩ = some (.slice A P.length c) := bl.cell 0
      refine ⟨⟨i1, i2, i3⟩, ?_⟩
      iterate 3 (refine mxw_quiet rfl (fun w' ⟨i1, i2, i3⟩ K hK => by go_simp; exact hK) ?_; go_frame)
      refine mxw_loud rfl (fun K hK => ?_)
      go_simp
      refine (list_dents U1 b R d (by omega) hwd hI13).mono ?_
      rintro e U2 ⟨v14, rfl, hD14, hm1⟩
      rw [← HP.out] at hD14
      replace b0 := b0.mod hm1 id
      replace bx := bx.mod hm1 id
      replace bd := bd.mod hm1 id
      replace bl := bl.mod hm1 id
      have hI14 := hI13.kept hm1
      have hM14 := hM13.trans hm1
      have hdf2 : U2.heap[D]? = some (.deferred (some [])) := (hm1.block D (Array.getElem?_eq_some_iff.1 HDF.out).1 id).trans HDF.out
      replace HD := hide (HD.out.mod hm1 (fun _ _ f => f))
      replace HDF := hide hdf2
      clear hm1 hI13 hM13 hdf1 hdf2 i1 i2 i3
      have i1 : U2.cell? ⟨mx, 0, none⟩ = some (.pointer (some ⟨b + 3, 0, none⟩)) := bx.cell 0
      have i2 : U2.cell? ⟨md, 0, none⟩ = some (.int .i64 d) := bd.cell 0
      have i3 : U2.cell? ⟨ml, 0, none⟩ = some (.slice A P.length c) := bl.cell 0
      refine ⟨_, rfl, ⟨i1, i2, i3⟩, hK _ _ ?_⟩
      clear hK K
      try go_frame
      refine mxw_loud rfl (fun K hK => ?_)
      go_simp
      refine (same_any U2 _ _ _ _ _ _ hD14 HD.out).mono ?_
      rw [decide_eq_true (rfl : P = P)]
      rintro e U3 ⟨rfl, hm1⟩
      replace b0 := b0.mod hm1 id
      replace bx := bx.mod hm1 id
      replace bd := bd.mod hm1 id
      replace bl := bl.mod hm1 id
      have hI15 := hI14.kept hm1
      have hM15 := hM14.trans hm1
      have hdf2 : U3.heap[D]? = some (.deferred (some [])) := (hm1.block D (Array.getElem?_eq_some_iff.1 HDF.out).1 id).trans HDF.out
      replace HD := hide (HD.out.mod hm1 (fun _ _ f => f))
      replace HDF := hide hdf2
      clear hm1 hI14 hM14 hdf2 i1 i2 i3 hD14
      have i1 : U3.cell? ⟨mx, 0, none⟩ = some (.pointer (some ⟨b + 3, 0, none⟩)) := bx.cell 0
      have i2 : U3.cell? ⟨md, 0, none⟩ = some (.int .i64 d) := bd.cell 0
      have i3 : U3.cell? ⟨ml, 0, none⟩ = some (.slice A P.length c) := bl.cell 0
      refine ⟨_, rfl, ⟨i1, i2, i3⟩, hK _ _ ?_⟩
      clear hK K
      try go_frame
      iterate 1 (refine mxw_quiet rfl (fun w' ⟨i1, i2, i3⟩ K hK => by go_simp; exact hK) ?_; go_frame)
      refine mxw_nil ?_
      clear i1 i2 i3
      obtain ⟨mg, hmg⟩ : ∃ m, m = U3.heap.size := ⟨_, rfl⟩
      obtain ⟨U5, hU5⟩ : ∃ w', w' = (U3.alloc (.cells #[.int .i64 0] 3)).alloc (.cells #[.slice none 0 0] 28) := ⟨_, rfl⟩
      have hm1 : Mod None_ U3 U5 := by rw [hU5]; exact ((Mod.refl _ U3).alloc _).alloc _
      have bg : Blk U5 mg 3 #[.int .i64 0] := by rw [hU5, hmg]; exact (Blk.new U3 3 _).alloc _
      have bm : Blk U5 (mg + 1) 28 #[.slice none 0 0] := by
        have := Blk.new (U3.alloc (.cells #[.int .i64 0] 3)) 28 #[.slice none 0 0]
        rw [← hU5, alloc_size, ← hmg] at this
        exact this
      have hltg : ml < mg := by rw [hmg]; exact bl.lt
      have hsz : U5.heap.size = mg + 2 := by rw [hU5, hmg]; simp
      replace b0 := b0.mod hm1 id
      replace bx := bx.mod hm1 id
      replace bd := bd.mod hm1 id
      replace bl := bl.mod hm1 id
      have i1 : ((U3.alloc (.cells #[.int .i64 0] 3)).alloc (.cells #[.slice none 0 0] 28)).cell? ⟨mx, 0, none⟩ = some (.pointer (some ⟨b + 3, 0, none⟩)) := by rw [← hU5]; exact bx.cell 0
      have i2 : ((U3.alloc (.cells #[.int .i64 0] 3)).alloc (.cells #[.slice none 0 0] 28)).cell? ⟨md, 0, none⟩ = some (.int .i64 d) := by rw [← hU5]; exact bd.cell 0
      have HU5 := hide hU5
      have HMG := hide hmg
      have HSZ := hide hsz
      clear hU5 hmg hsz
      go_wp2_with fail
      rw [← HU5.out, ← HMG.out]
      have hI16 := hI15.kept hm1
      have hM16 := hM15.trans hm1
      have hdf2 : U5.heap[D]? = some (.deferred (some [])) := (hm1.block D (Array.getElem?_eq_some_iff.1 HDF.out).1 id).trans HDF.out
      replace HD := hide (HD.out.mod hm1 (fun _ _ f => f))
      replace HDF := hide hdf2
      clear hm1 hI15 hM15 hdf2 i1 i2 HU5 HMG
      have hDg : D < mg := by
        have h1 := (Array.getElem?_eq_some_iff.1 HDF.out).1
        have h2 := HSZ.out
        rcases Nat.lt_or_ge D mg with h | h
        · exact h
        · rcases Nat.lt_or_ge D (mg + 1) with h3 | h3
          · obtain rfl : D = mg := by omega
            have h4 := HDF.out
            have h5 := bg
            unfold Blk at h5
            rw [h5] at h4
            cases h4
          · obtain rfl : D = mg + 1 := by omega
            have h4 := HDF.out
            have h5 := bm
            unfold Blk at h5
            rw [h5] at h4
            cases h4
      refine (all_call U5 b d).mono ?_
      rintro e U6 ⟨rfl, hU6⟩
      have hsz6 : U6.heap.size = mg + 4 := by rw [hU6, alloc_size, alloc_size, HSZ.out]
      have hm1 : Mod None_ U5 U6 := by rw [hU6]; exact ((Mod.refl _ U5).alloc _).alloc _
      have e5 : U5.heap.size = mg + 2 := HSZ.out
      have b3 : Blk U6 (mg + 2) 24 #[.pointer (some ⟨b + 3, 0, none⟩)] := by rw [hU6, ← e5]; exact (Blk.new U5 24 _).alloc _
      have b4 : Blk U6 (mg + 3) 3 #[.int .i64 d] := by
        have := Blk.new (U5.alloc (.cells #[.pointer (some ⟨b + 3, 0, none⟩)] 24)) 3 #[.int .i64 d]
        rw [← hU6, alloc_size, e5] at this
        exact this
      rw [e5]
      replace b0 := b0.mod hm1 id
      replace bx := bx.mod hm1 id
      replace bd := bd.mod hm1 id
      replace bl := bl.mod hm1 id
      replace bg := bg.mod hm1 id
      replace bm := bm.mod hm1 id
      have hI17 := hI16.kept hm1
      have hM17 := hM16.trans hm1
      have hdf2 : U6.heap[D]? = some (.deferred (some [])) := (hm1.block D (Array.getElem?_eq_some_iff.1 HDF.out).1 id).trans HDF.out
      replace HD := hide (HD.out.mod hm1 (fun _ _ f => f))
      replace HDF := hide hdf2
      have hs61 : U6.heap.size ≤ mg + 4 := by omega
      have hs62 : mg + 4 ≤ U6.heap.size := by omega
      have HS6 := hide hsz6
      clear hm1 hI16 hM16 hdf2 HSZ hsz6 hU6 e5
      go_wp2_with fail
      have hno : ownerAt U6 (mg + 1) = none := by unfold ownerAt; rw [bm.cell 0]; rfl
      have hst2 := all_stops 2 (by omega) U6 (KpO U6.heap.size (mg + 1)) (fun W _ => KpO.refl _ _ W) (fun h k => h.trans k) (fun W o hW => KpO.alloc W o (by omega)) (KpO.keep (by omega) hno) (fun h => h.size) b R d (mg + 2) (mg + 3) (by omega) hwd hI17 (b3.cell 0) (b4.cell 0) (by omega) (by omega)
      rw [← HP.out] at hst2
      have hstart : StopInv d R.length R [] P := by rw [HP.out]; exact stop_start hI17.ok hI17.nodup d
      clear b3 b4
      refine wp_range_mid 3 (by omega) (gf := 42) (lb := #[.pointer (some ⟨mg + 2, 0, none⟩), .pointer (some ⟨mg + 3, 0, none⟩)]) rfl (enters_of Try.func42 (by kernel_rfl) rfl) hst2 (fun h k => h.trans k) (fun W l o o' hl h ho _ => KpO.putObj W l o o' (by omega) h ho) (Below.refl _ _) (fun _ => rfl)
        (fun pre W => pre <+: P ∧ ∃ R' made v, StopInv d R.length R' made (P.drop pre.length) ∧ IndexAt W b R' ∧ Blk W mg 3 #[.int .i64 pre.length] ∧ Blk W (mg + 1) 28 #[v] ∧ W.ownsRow U6.heap.size 36 2 v made.length (pairCells made) ∧ Mod (fun k => Ix b k ∨ k = mg ∨ k = mg + 1) U6 W)
        (fun c pre W => c = .ret ∧ ¬ pre <+: P) 2
        (fun W => ∃ R' made v, StopInv d R.length R' made [] ∧ IndexAt W b R' ∧ Blk W mg 3 #[.int .i64 P.length] ∧ Blk W (mg + 1) 28 #[v] ∧ W.ownsRow U6.heap.size 36 2 v made.length (pairCells made) ∧ Mod (fun k => Ix b k ∨ k = mg ∨ k = mg + 1) U6 W)
        ?own2 (fun c pre A B row h hg hr => h)
        ⟨List.nil_prefix, R, [], _, hstart, hI17, bg, bm, ⟨rfl, .inl ⟨rfl, rfl⟩⟩, Mod.refl _ _⟩ ?done2 ?stop2 ?body2 ?rest2
      case own2 =>
        rintro pre A B row ⟨hp, R', made, v', hs, hi, hg1, hv, hown, hM⟩ hg hr
        refine ⟨hp, R', made, v', hs, hi.mod (Mod.of_grown hg) (fun k h1 h2 e => ?_), blk_of_grown_own hg1 hg hr (by omega), blk_of_grown_own hv hg hr (by omega), own_mod hown (Mod.of_grown hg) (fun g hg' e => ?_), mod_of_grown_own hM hg hr (Nat.le_refl _)⟩
        · have := (hr k e.symm).1; omega
        · obtain ⟨_, o, ho, hoc⟩ := hr g e.symm
          obtain ⟨_, cur, hh⟩ := own_blk hown hg'
          rw [hh] at ho; cases ho; simp [Obj.isCells] at hoc
      case done2 =>
        rintro xs W hxs ⟨_, R', made, v', hs, h3⟩
        obtain rfl : P = xs := hxs.symm
        rw [List.drop_length] at hs
        exact ⟨R', made, v', hs, h3⟩
      case stop2 =>
        rintro c pre W hp ⟨rfl, h⟩
        exact absurd hp h
      case body2 =>
        apply Exists.intro
        refine ⟨?_, ?_⟩
        · intro l x W K hK
          gi_wp2
          exact hK
        · rintro l pre x W ⟨hpre, R', made, v', hs, hi, hg1, hv, hown, hM⟩ hlt
          have cl : W.cell? ⟨ml, 0, none⟩ = some (.slice A P.length c) := (bl.mod hM (by unfold Ix; omega)).cell 0
          have cx : W.cell? ⟨mx, 0, none⟩ = some (.pointer (some ⟨b + 3, 0, none⟩)) := (bx.mod hM (by unfold Ix; omega)).cell 0
          have cd : W.cell? ⟨md, 0, none⟩ = some (.int .i64 d) := (bd.mod hM (by unfold Ix; omega)).cell 0
          have cs : W.cell? ⟨mg, 0, none⟩ = some (.int .i64 pre.length) := hg1.cell 0
          have fs : W.frozen? ⟨mg, 0, none⟩ = false := hg1.frozen 0
          have c0 : W.cell? ⟨m0, 0, none⟩ = some (.bool false) := (b0.mod hM (by unfold Ix; omega)).cell 0
          have f0 : W.frozen? ⟨m0, 0, none⟩ = false := (b0.mod hM (by unfold Ix; omega)).frozen 0
          obtain ⟨_, _, hcv, _, _, hA⟩ := HD.out
          simp only [Value.slice.injEq, true_and] at hcv
          obtain ⟨rfl, rfl⟩ := hcv
          obtain ⟨g, rfl, hgl, hg, hcc⟩ := hA (by omega)
          have hgne : g ≠ mg ∧ g ≠ mg + 1 := by
            have h1 := hcc _ _ (pairCells_fst P 0 (by omega))
            rw [Nat.zero_mul] at h1
            constructor
            · rintro rfl
              have h2 := bg.cell 0
              rw [h1] at h2
              cases h2
            · rintro rfl
              have h2 := bm.cell 0
              rw [h1] at h2
              cases h2
          have hgS : ¬ (Ix b g ∨ g = mg ∨ g = mg + 1) := by unfold Ix; omega
          have x0 : W.cell? ⟨g, pre.length * 2, none⟩ = some (.string P[pre.length].1) := (World.cell?_of_block (hM.block g hg hgS)).trans (hcc _ _ (pairCells_fst P pre.length hlt))
          have x1 : W.cell? ⟨g, pre.length * 2 + 1, none⟩ = some (.int .i64 P[pre.length].2) := (World.cell?_of_block (hM.block g hg hgS)).trans (hcc _ _ (pairCells_snd P pre.length hlt))
          have hnp : P[pre.length] ≠ x → ¬ pre ++ [x] <+: P := fun hne hp => hne (by
            have := hp.getElem (i := pre.length) (by simp)
            simpa using this.symm)
          have hpp : P[pre.length] = x → pre ++ [x] <+: P := fun he => by
            obtain ⟨t, ht⟩ := hpre
            refine ⟨t.tail, ?_⟩
            cases t with
            | nil => simp at ht; rw [ht] at hlt; omega
            | cons y t =>
              have : P[pre.length] = y := by subst ht; simp
              subst ht
              rw [← he, this]
              simp
          have hdr : P[pre.length] = x → P.drop pre.length = x :: P.drop (pre.length + 1) := fun he => by rw [← he]; exact List.drop_eq_getElem_cons hlt
          have HNP := hide hnp
          have HPP := hide hpp
          have HDR := hide hdr
          have hlt' : (pre.length : Int) < P.length := by omega
          have hge : ¬ P.length ≤ pre.length := by omega
          obtain ⟨p, hp⟩ : ∃ p, p = P[pre.length] := ⟨_, rfl⟩
          rw [← hp] at x0 x1 HNP HPP HDR
          have K0 : KeepsFrom U6.heap.size W (W.setCell ⟨m0, 0, none⟩ (.bool false)) := KeepsFrom.of_mod ((Mod.refl (· = m0) W).setCell (p := ⟨m0, 0, none⟩) (.inr rfl) _) (fun k hk _ e => by omega)
          clear hp hcc hnp hpp hdr hA
          by_cases h0 : p.1 = x.1
          · by_cases h1 : p.2 = x.2
            · have e0 : (p.1.toList == x.1.toList) = true := by rw [h0]; simp
              have e1 : (p.2 != x.2) = false := by rw [bne_eq_false_iff_eq]; exact h1
              have hpx : p = x := Prod.ext h0 h1
              have HPX := hide (HPP.out hpx)
              rw [HDR.out hpx] at hs
              obtain ⟨⟨s1, s2, s3, s4⟩, _⟩ := hs.step hi.ok hi.nodup x.1
              have HSS := hide (fun t => (hs.step hi.ok hi.nodup t).2)
              have hRl' : R'.length ≤ 2513169434843 := Nat.le_trans hs.len hRl
              have hml : made.length ≤ 2513169434843 := by have h1 := hs.cnt; have h2 := cntDir_le R' d; omega
              have h2b : (x.2 != x.2) = false := by simp
              clear h0 h1 hpx HNP HPP HDR K0 hs c0 f0
              -- the counter goes on, then Drop
              obtain ⟨W1, hW1⟩ : ∃ W1, W1 = W.setCell ⟨mg, 0, none⟩ (.int .i64 (pre.length + 1)) := ⟨_, rfl⟩
              have hm1 : Mod (· = mg) W W1 := by rw [hW1]; exact (Mod.refl (· = mg) W).setCell (p := ⟨mg, 0, none⟩) (.inr rfl) _
              have hg2 : Blk W1 mg 3 #[.int .i64 (pre.length + 1)] := by rw [hW1]; simpa using hg1.set_ 0 (.int .i64 (pre.length + 1))
              have hi1 := hi.mod hm1 (fun k _ h e => by omega)
              have cx1 : (W.setCell ⟨mg, 0, none⟩ (.int .i64 (pre.length + 1))).cell? ⟨mx, 0, none⟩ = some (.pointer (some ⟨b + 3, 0, none⟩)) := store_other cx (by omega)
              have cd1 : (W.setCell ⟨mg, 0, none⟩ (.int .i64 (pre.length + 1))).cell? ⟨md, 0, none⟩ = some (.int .i64 d) := store_other cd (by omega)
              have HW1 := hide hW1
              clear hW1 hi
              gi_wp2_with first
                | (refine ⟨trivial, ?_⟩; gi_at_call 25; rw [← HW1.out] at cx1 cd1 ⊢; clear x0 x1 cs fs cl cx cd
                   refine (CallsIn.inRound l (callsIn_wide.2 (drop_eq W1 b R' d x.1 x.2 0 (by omega) hwd hi1 s1 s2))).mono ?_; rintro e W2 ⟨rfl, hm2, hi2⟩
                   have cx2 : W2.cell? ⟨mx, 0, none⟩ = some (.pointer (some ⟨b + 3, 0, none⟩)) := (World.cell?_of_block (hm2.block mx (block_lt_of_cell cx1) (by unfold Ix; omega))).trans cx1
                   have cd2 : W2.cell? ⟨md, 0, none⟩ = some (.int .i64 d) := (World.cell?_of_block (hm2.block md (block_lt_of_cell cd1) (by unfold Ix; omega))).trans cd1
                   have HM2 := hide hm2
                   clear cx1 cd1 hm2 hi1)
                | (refine ⟨trivial, ?_⟩; gi_at_call 17
                   refine (CallsIn.inRound l (callsIn_wide.2 (get_eq W2 b _ d x.1 0 hwd hi2 s4))).mono ?_; rintro e W3 ⟨rfl, hm3⟩
                   have cx3 : W3.cell? ⟨mx, 0, none⟩ = some (.pointer (some ⟨b + 3, 0, none⟩)) := (World.cell?_of_block (hm3.block mx (block_lt_of_cell cx2) id)).trans cx2
                   have cd3 : W3.cell? ⟨md, 0, none⟩ = some (.int .i64 d) := (World.cell?_of_block (hm3.block md (block_lt_of_cell cd2) id)).trans cd2
                   have hi3 := hi2.kept hm3
                   have HM3 := hide hm3
                   clear cx2 cd2 hm3 hi2)
              refine ⟨trivial, ?_⟩
              gi_at_call 22
              refine (CallsIn.inRound l (callsIn_wide.2 (put_any W3 b _ d _ x.2 (by omega) hi3))).mono ?_
              rintro e W4 ⟨rfl, hm4, hi4⟩
              have HS3 := hide (HSS.out ({ data := #[126] } ++ x.fst.extract 0 (min (x.fst.size : Int) 27).toNat))
              generalize ({ data := #[126] } ++ x.fst.extract 0 (min (x.fst.size : Int) 27).toNat : ByteArray) = t at hi4 HS3 ⊢
              have hmW : Mod (fun k => Ix b k ∨ k = mg) W W4 := ((((hm1.mono (T := fun k => Ix b k ∨ k = mg) (fun k _ e => .inr e)).trans' HM2.out (fun k _ e => .inl e)).trans' HM3.out (fun k _ e => e.elim))).trans' hm4 (fun k _ e => .inl e)
              have hv4 := hv.mod hmW (by unfold Ix; omega)
              have hg4 : Blk W4 mg 3 #[.int .i64 (pre.length + 1)] := ((hg2.mod HM2.out (by unfold Ix; omega)).mod HM3.out id).mod hm4 (by unfold Ix; omega)
              have hown4 := own_mod hown hmW (fun g hg e => by have := (own_blk hown hg).1; unfold Ix at e; omega)
              have hMW4 : Mod (fun k => Ix b k ∨ k = mg ∨ k = mg + 1) U6 W4 := hM.trans' hmW (fun k _ e => e.elim .inl (fun e => .inr (.inl e)))
              have k1 : KeepsFrom U6.heap.size W W4 := KeepsFrom.of_mod hmW (fun k hk _ e => by unfold Ix at e; omega)
              have k2 : KpO U6.heap.size (mg + 1) W W4 := KpO.of_mod hmW (block_lt_of_cell (hv.cell 0)) (by unfold Ix; omega) (fun k hk _ e => by unfold Ix at e; omega)
              have el : (pre ++ [x]).length = pre.length + 1 := by simp
              have hU4 : U6.heap.size ≤ W4.heap.size := hMW4.size
              have K1 := hide k1
              have K2 := hide k2
              have HI4 := hide hi4
              have HMW4 := hide hMW4
              clear hmW hm4 hi4 k1 k2 HM2 HM3 hm1 hi3 cx3 cd3 hM hv hown hg1 hg2 HSS
              obtain ⟨z, hz⟩ : ∃ z, z = putErr (dropRows R' d x.1) d t x.2 := ⟨_, rfl⟩
              rw [← hz] at HS3 ⊢
              clear hz
              by_cases hz0 : z = 0
              · subst hz0
                rw [if_pos rfl] at HS3
                obtain ⟨A', c', rfl⟩ := own_slice hown4
                have cl4 : W4.cell? ⟨mg + 1, 0, none⟩ = some (.slice A' made.length c') := hv4.cell 0
                gi_wp2_with ((with_reducible refine at_slotIn 166 ?_); refine wpListIn_append_dent rfl (.tmp 161) (.tmp 165) rfl W4 U6.heap.size (.slice A' made.length c') made (t, x.2) rfl rfl W4.heap.size rfl rfl hown4 hU4 (by omega) ?_; intro v8 w8 hown8 hm8 hat8; obtain ⟨A2, c2, rfl⟩ := own_slice hown8; go_frame
                             obtain ⟨k1, k2, k3, k4, k5⟩ := grown_keeps (by omega) hU4 hv4 hown4 hown8 hm8 hat8
                             have hv8 := hv4.mod hm8 (fun e => by have := (own_blk hown4 e.symm).1; omega)
                             have cl8 : w8.cell? ⟨mg + 1, 0, none⟩ = some (.slice A' made.length c') := hv8.cell 0
                             have cf8 : w8.frozen? ⟨mg + 1, 0, none⟩ = false := hv8.frozen 0
                             have L1 := hide k1
                             have L2 := hide k2
                             have L3 := hide k3
                             have L4 := hide k4
                             have L5 := hide k5
                             clear k1 k2 k3 k4 k5 hown8 hm8 hat8 hv8)
                have e : (made ++ [(t, x.2)]).length = made.length + 1 := by simp
                have q1 := L1.out
                have q2 := L2.out
                have q3 := L3.out
                have q4 := L4.out
                have q5 := L5.out
                rw [e] at q1 q2 q3 q5
                have q4' : (w8.setCell ⟨mg + 1, 0, none⟩ (.slice A2 (made.length + 1) c2)).ownsRow U6.heap.size 36 2 (.slice A2 (made.length + 1) c2) (made ++ [(t, x.2)]).length (pairCells (made ++ [(t, x.2)])) := by
                  have := q4
                  rw [e] at this ⊢; exact this
                refine ⟨K1.out.trans q1, K2.out.trans q2, HPX.out, _, _, _, ?_, HI4.out.mod q5 (fun k h1 h2 e => by omega), ?_, q3, q4', HMW4.out.trans' q5 (fun k hk e => e.elim (fun e => by omega) (fun e => .inr (.inr e)))⟩
                · rw [el]; exact HS3.out
                · rw [el]; exact hg4.mod q5 (by omega)
              · have hzb : ((z : Int) == 0) = false := by rw [beq_eq_false_iff_ne]; exact hz0
                rw [if_neg hz0] at HS3
                clear hz0
                gi_wp2
                refine ⟨K1.out, K2.out, HPX.out, _, made, v', ?_, HI4.out, ?_, hv4, hown4, HMW4.out⟩
                · rw [el]; exact HS3.out
                · rw [el]; exact hg4
            · have e0 : (p.1.toList == x.1.toList) = true := by rw [h0]; simp
              have e1 : (p.2 != x.2) = true := by rw [bne_iff_ne]; exact h1
              have hno := HNP.out (fun e => h1 (by rw [e]))
              have HNO := hide hno
              have HK0 := hide K0
              clear hno h0 h1 hM K0 hs hi hg1 hv hown
              gi_wp2
              exact ⟨HK0.out, rfl, HNO.out⟩
          · have e0 : (p.1.toList == x.1.toList) = false := by
              rw [beq_eq_false_iff_ne]
              intro e
              rw [Go.Lib.toList_data, Go.Lib.toList_data] at e
              exact h0 (Go.WideShapes.bytes_inj e)
            have hno := HNP.out (fun e => h0 (by rw [e]))
            have HNO := hide hno
            have HK0 := hide K0
            clear hno h0 hM K0 hs hi hg1 hv hown
            gi_wp2
            exact ⟨HK0.out, rfl, HNO.out⟩
      case rest2 =>
        rintro D2 W hD2 ⟨R', made, v', hs, hi, hg1, hv, hown, hM⟩ hdf2
        obtain ⟨A', c', rfl⟩ := own_slice hown
        have hMw : Mod None_ w W := hM17.trans' hM (fun k hk e => by unfold Ix at e; omega)
        have hdD : W.heap[D]? = some (.deferred (some [])) := (hM.block D (Array.getElem?_eq_some_iff.1 HDF.out).1 (fun e => by
          have h1 := HDF.out
          rcases e with e | e | e
          · exact (ix_not_def hI17 e) h1
          · omega
          · omega)).trans HDF.out
        have hd' := Dents.of_own hown
        have HDD := hide hdD
        have HD2 := hide hdf2
        have HMD := hide hd'
        have HS := hide hs
        have hml : made.length ≤ 2513169434843 := by have h1 := hs.cnt; have h2 := cntDir_le R' d; have h3 := hs.len; omega
        replace bx := bx.mod hM (by unfold Ix; omega)
        replace bd := bd.mod hM (by unfold Ix; omega)
        replace bl := bl.mod hM (by unfold Ix; omega)
        replace b0 := b0.mod hM (by unfold Ix; omega)
        have HMW := hide hMw
        have cv : W.cell? ⟨mg + 1, 0, none⟩ = some (.slice A' made.length c') := hv.cell 0
        have cx : W.cell? ⟨mx, 0, none⟩ = some (.pointer (some ⟨b + 3, 0, none⟩)) := bx.cell 0
        have cd : W.cell? ⟨md, 0, none⟩ = some (.int .i64 d) := bd.cell 0
        clear hdD hdf2 hd' hs hown hM hMw HDF hst2 hstart hI17 hM17
        dsimp only
        go_wp2_with fail
        have hln2 : ∀ w, (Builtin.len_ #[28] 3 #[.slice A' made.length c']).run Try.prog w = .ok (.int .i64 made.length) w := fun w => by simp [Builtin.len_, run_underlying Try.underlying28]; rfl
        go_loopg [21] made.length (fun n i wr => ∃ j : Nat, j + n = made.length ∧ i = .int .i64 j ∧ Mod None_ W wr)
        case atStart => exact ⟨0, by omega, rfl, Mod.refl _ _⟩
        case round =>
          obtain ⟨j, hj, rfl, hm⟩ := hrel
          have cv : wr.cell? ⟨mg + 1, 0, none⟩ = some (.slice A' made.length c') := (hv.mod hm id).cell 0
          have cx : wr.cell? ⟨mx, 0, none⟩ = some (.pointer (some ⟨b + 3, 0, none⟩)) := (bx.mod hm id).cell 0
          have cd : wr.cell? ⟨md, 0, none⟩ = some (.int .i64 d) := (bd.mod hm id).cell 0
          have hir := hi.kept hm
          by_cases hjl : j < made.length
          · have hji : (j : Int) < made.length := by omega
            obtain ⟨_, _, hcv, _, _, hA⟩ := HMD.out
            simp only [Value.slice.injEq, true_and] at hcv
            obtain ⟨rfl, rfl⟩ := hcv
            obtain ⟨g, rfl, hgl, hg, hcc⟩ := hA (by omega)
            have x0 : wr.cell? ⟨g, j * 2, none⟩ = some (.string made[j].1) := (World.cell?_of_block (hm.block g hg id)).trans (hcc _ _ (pairCells_fst made j hjl))
            have x1 : wr.cell? ⟨g, j * 2 + 1, none⟩ = some (.int .i64 made[j].2) := (World.cell?_of_block (hm.block g hg id)).trans (hcc _ _ (pairCells_snd made j hjl))
            have hgot := (HS.out.got made[j] (List.getElem_mem hjl)).1
            obtain ⟨p, hp⟩ : ∃ p, p = made[j] := ⟨_, rfl⟩
            rw [← hp] at x0 x1 hgot
            have h2b : (p.2 != p.2) = false := by simp
            have HJ := hide hj
            clear hp hcc hA hj
            go_wp2_with fail
            refine region_mxw [(true, 0), (true, 1), (true, 2), (true, 3), (true, 4), (true, 5), (true, 6), (true, 8), (true, 9), (true, 10), (true, 11), (true, 12), (false, 7), (true, 13)] (fun w' => w'.cell? ⟨mg + 1, 0, none⟩ = some (.slice (some ⟨g, 0, none⟩) made.length c') ∧ w'.cell? ⟨mx, 0, none⟩ = some (.pointer (some ⟨b + 3, 0, none⟩)) ∧ w'.cell? ⟨md, 0, none⟩ = some (.int .i64 d) ∧ w'.cell? ⟨g, j * 2, none⟩ = some (.string p.1) ∧ w'.cell? ⟨g, j * 2 + 1, none⟩ = some (.int .i64 p.2)) (by kernel_rfl) (by kernel_rfl) ?_
            rintro wq hwq
            have hm1 : Mod None_ wr wq := by rw [hwq]; exact (Mod.refl None_ wr).drew
            replace hm := hm.trans hm1
            replace hir := hir.kept hm1
            replace cv : wq.cell? ⟨mg + 1, 0, none⟩ = some (.slice (some ⟨g, 0, none⟩) made.length c') := by rw [hwq]; exact cv
            replace cx : wq.cell? ⟨mx, 0, none⟩ = some (.pointer (some ⟨b + 3, 0, none⟩)) := by rw [hwq]; exact cx
            replace cd : wq.cell? ⟨md, 0, none⟩ = some (.int .i64 d) := by rw [hwq]; exact cd
            replace x0 : wq.cell? ⟨g, j * 2, none⟩ = some (.string p.1) := by rw [hwq]; exact x0
            replace x1 : wq.cell? ⟨g, j * 2 + 1, none⟩ = some (.int .i64 p.2) := by rw [hwq]; exact x1
            clear hwq hm1
            refine ⟨⟨cv, cx, cd, x0, x1⟩, ?_⟩
            iterate 12 (refine mxw_quiet rfl (fun w' ⟨i1, i2, i3, i4, i5⟩ K hK => by go_simp; exact hK) ?_; go_frame)
            refine mxw_loud rfl (fun K hK => ?_)
            go_simp
            refine (get_eq wq b R' d p.1 p.2 hwd hir hgot).mono ?_
            rintro e ws ⟨rfl, hm2⟩
            replace hm := hm.trans hm2
            replace cv : ws.cell? ⟨mg + 1, 0, none⟩ = some (.slice (some ⟨g, 0, none⟩) made.length c') := (World.cell?_of_block (hm2.block _ (block_lt_of_cell cv) id)).trans cv
            replace cx : ws.cell? ⟨mx, 0, none⟩ = some (.pointer (some ⟨b + 3, 0, none⟩)) := (World.cell?_of_block (hm2.block _ (block_lt_of_cell cx) id)).trans cx
            replace cd : ws.cell? ⟨md, 0, none⟩ = some (.int .i64 d) := (World.cell?_of_block (hm2.block _ (block_lt_of_cell cd) id)).trans cd
            replace x0 : ws.cell? ⟨g, j * 2, none⟩ = some (.string p.1) := (World.cell?_of_block (hm2.block _ (block_lt_of_cell x0) id)).trans x0
            replace x1 : ws.cell? ⟨g, j * 2 + 1, none⟩ = some (.int .i64 p.2) := (World.cell?_of_block (hm2.block _ (block_lt_of_cell x1) id)).trans x1
            refine ⟨_, rfl, ⟨cv, cx, cd, x0, x1⟩, hK _ _ ?_⟩
            clear hK K hm2
            try go_frame
            refine mxw_quiet rfl (fun w' ⟨i1, i2, i3, i4, i5⟩ K hK => by go_simp; exact hK) ?_
            go_frame
            refine mxw_nil ?_
            go_wp2
            go_roundg (gk - 1)
            case measure => have := HJ.out; omega
            case rel => exact ⟨j + 1, by have := HJ.out; omega, by go_num, hm⟩
          · obtain rfl : j = made.length := by omega
            have hji : ¬ (made.length : Int) < made.length := by omega
            go_wp2_with fail
            refine (list_dents wr b R' d (by have := HS.out.len; omega) hwd hir).mono ?_
            rintro e wa ⟨va, rfl, hDa, hma⟩
            have hqn : (listPairs R' d).length = made.length := by rw [listPairs_length, HS.out.cnt]; rfl
            have hall := all_any wa b R' d (by have := HS.out.len; omega) hwd (hir.kept hma)
            obtain ⟨Q, hQ⟩ : ∃ Q, Q = listPairs R' d := ⟨_, rfl⟩
            rw [← hQ] at hDa hqn hall
            obtain ⟨Aa, ca, rfl, ha1, ha2, ha3⟩ := id hDa
            have hlna : ∀ w, (Builtin.len_ #[28] 3 #[.slice Aa Q.length ca]).run Try.prog w = .ok (.int .i64 Q.length) w := fun w => by simp [Builtin.len_, run_underlying Try.underlying28]; rfl
            have hmA := hm.trans hma
            have cv2 : wa.cell? ⟨mg + 1, 0, none⟩ = some (.slice A' made.length c') := (hv.mod hmA id).cell 0
            have cx2 : wa.cell? ⟨mx, 0, none⟩ = some (.pointer (some ⟨b + 3, 0, none⟩)) := (bx.mod hmA id).cell 0
            have cd2 : wa.cell? ⟨md, 0, none⟩ = some (.int .i64 d) := (bd.mod hmA id).cell 0
            have cg2 : wa.cell? ⟨mg, 0, none⟩ = some (.int .i64 P.length) := (hg1.mod hmA id).cell 0
            have cl2 : wa.cell? ⟨ml, 0, none⟩ = some (.slice A P.length c) := (bl.mod hmA id).cell 0
            have hpp : ((P.length : Int) == P.length) = true := by simp
            have hqq : ((Q.length : Int) == made.length) = true := by rw [beq_iff_eq]; omega
            have HDA := hide hDa
            have HAL := hide hall
            have HMA := hide hmA
            clear hQ ha3 hDa hall hmA hma hir cv cx cd hm hqn hj
            go_wp2_with fail
            refine Calls.mono HAL.out ?_
            rintro e wb ⟨vb, rfl, hDb, hmb⟩
            have HDB := hide (HDA.out.mod hmb (fun _ _ f => f))
            have HDC := hide hDb
            have HMB := hide (HMA.out.trans hmb)
            clear hmb hDb cv2 cx2 cd2 cg2 cl2
            go_wp2_with fail
            refine (same_any wb _ _ _ _ _ _ HDC.out HDB.out).mono ?_
            rw [decide_eq_true (rfl : Q = Q)]
            rintro e wc ⟨rfl, hmc⟩
            have hmW := HMB.out.trans hmc
            replace b0 := b0.mod hmW id
            have c0 : wc.cell? ⟨m0, 0, none⟩ = some (.bool false) := b0.cell 0
            have f0 : wc.frozen? ⟨m0, 0, none⟩ = false := b0.frozen 0
            have hb1 : Blk (wc.setCell ⟨m0, 0, none⟩ (.bool true)) m0 4 #[.bool true] := by simpa using b0.set_ 0 (.bool true)
            have hms : Mod (· = m0) wc (wc.setCell ⟨m0, 0, none⟩ (.bool true)) := (Mod.refl (· = m0) wc).setCell (p := ⟨m0, 0, none⟩) (.inr rfl) _
            have hk2 : (wc.setCell ⟨m0, 0, none⟩ (.bool true)).heap[D2]? = some (.deferred (some [])) := (KeepsOthers.setCell _ _ _).same D2 _ ((hmW.block D2 (Array.getElem?_eq_some_iff.1 HD2.out).1 id).trans HD2.out) rfl
            have hk1 : (wc.setCell ⟨m0, 0, none⟩ (.bool true)).heap[D]? = some (.deferred (some [])) := (KeepsOthers.setCell _ _ _).same D _ ((hmW.block D (Array.getElem?_eq_some_iff.1 HDD.out).1 id).trans HDD.out) rfl
            have hME : Mod None_ w (wc.setCell ⟨m0, 0, none⟩ (.bool true)) := (HMW.out.trans hmW).trans' hms (fun k hk e => by omega)
            have HB1 := hide hb1
            have HK1 := hide hk1
            have HK2 := hide hk2
            have HME := hide hME
            clear hb1 hms hk1 hk2 hME hmW hmc HMB HDC HDB HMA HAL HDA
            go_wp2
            have hne : D ≠ D2 := by omega
            have hm2 : Mod (· = D2) (wc.setCell ⟨m0, 0, none⟩ (.bool true)) ((wc.setCell ⟨m0, 0, none⟩ (.bool true)).putObj D2 (.deferred none)) := (Mod.of_grown (grownBy_putObj' _ D2 _)).mono fun k _ e => by cases e; rfl
            have hm3 : Mod (· = D) ((wc.setCell ⟨m0, 0, none⟩ (.bool true)).putObj D2 (.deferred none)) (((wc.setCell ⟨m0, 0, none⟩ (.bool true)).putObj D2 (.deferred none)).putObj D (.deferred none)) := (Mod.of_grown (grownBy_putObj' _ D _)).mono fun k _ e => by cases e; rfl
            have hk1 : ((wc.setCell ⟨m0, 0, none⟩ (.bool true)).putObj D2 (.deferred none)).heap[D]? = some (.deferred (some [])) := (World.putObj_heap_other hne).trans HK1.out
            have hc := ((HB1.out.mod hm2 (by omega)).mod hm3 (by omega)).cell 0
            have hfin := (HME.out.trans' hm2 (fun k hk e => by omega)).trans' hm3 (fun k hk e => by omega)
            have HFI := hide hfin
            clear hfin hm2 hm3
            refine ⟨by simp, .inl ⟨_, _, rfl, run_takeDeferred HK2.out, ?_⟩⟩
            refine ⟨by simp, .inl ⟨_, _, rfl, run_takeDeferred hk1, ?_⟩⟩
            refine ⟨.bool true, ?_, rfl, HFI.out⟩
            simp [results, Try.results7, go_sem, hc]
end Go.Proofs.Ytmamdacmpikdbaa
