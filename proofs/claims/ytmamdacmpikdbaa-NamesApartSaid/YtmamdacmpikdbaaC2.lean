import Derived.Test.YtmamdacmpikdbaaC1
/-! Walks: Clear. -/
namespace Go.Proofs.Ytmamdacmpikdbaa
open Go.RowKit Go.Maps

theorem Ranging.left_nodup {P : Program} {k : TypeId} {w : World} {r b : Nat} {l left : List (Value × Value)} (h : Ranging P k w r b l left) : (left.map (·.1)).Nodup := by
  obtain ⟨es, c, s, h1, h2, h3, h4, h5, h6⟩ := h.ex
  have hn : ((es.toList.map kv).map (·.1)).Nodup := ((h3.map _).nodup_iff).2 h.nodup
  refine ((h6.map (·.1)).nodup_iff).1 ?_
  exact hn.sublist ((List.filter_sublist.map kv).map _)

def clearRows (rows : List Row) (d : Int) : List Row := rows.filter (fun r => !decide (r.dir = d))
/-- the loop of Clear: rows that are still to come, rows that are there -/
def ClearRel (w : World) (b r : Nat) (rows : List Row) (d : Int) (n : Nat) (wr : World) : Prop :=
  ∃ lrows rs : List Row, lrows.length ≤ n ∧ Ranging Try.prog 55 wr r b (rs.map Row.kv) (lrows.map Row.kv) ∧ (clearRows rs d).Perm (clearRows rows d) ∧ (∀ x ∈ rs, x.dir = d → x ∈ lrows) ∧ rs.length ≤ rows.length ∧ IndexAt wr b rs ∧ Mod (Ix b) w wr

set_option maxRecDepth 100000 in
set_option maxHeartbeats 2000000 in
theorem clear_any (w : World) (b : Nat) (rows : List Row) (d : Int) (hlen : rows.length ≤ 50000000000000) (hd : (Lit.int .i64 d).wf = true) (h : IndexAt w b rows) :
    Calls Try.prog 31 #[.pointer (some ⟨b + 3, 0, none⟩), .int .i64 d] w fun e w' => e = .returned (.int .i64 (cntDir rows d)) ∧ IndexAt w' b (clearRows rows d) ∧ Mod (Ix b) w w' := by
  have hbl := h.lt
  obtain ⟨c0, c1, c2⟩ := h.cells
  have hl := h.names.look d hd
  obtain ⟨o, hrn, hrg⟩ := h.inos.range Try.underlying58
  have hM2 : Mod (Ix b) w (w.alloc o) := (Mod.refl _ w).alloc o
  have hI2 : IndexAt (w.alloc o) b rows := h.alloc o
  obtain ⟨r, hr⟩ : ∃ r, r = w.heap.size := ⟨_, rfl⟩
  have hrb : b + 4 ≤ r := by omega
  have hrw : w.heap.size ≤ r := by omega
  rw [← hr] at hrg hrn
  obtain ⟨c, hc⟩ : ∃ c, c = cntDir rows d := ⟨_, rfl⟩
  have HC := hide hc
  rw [← hc] at hl ⊢
  clear h hr hc
  generalize hw2 : w.alloc o = w2 at hrn hrg hM2 hI2
  have HW := hide hw2
  clear hw2
  go_enter Try.func31, Try.ntmps31
  go_wp2_with (first
    | ((with_reducible refine at_slot 17 ?_); refine wpList_val rfl (ex_range rfl hrn) ?_; go_frame))
  clear c0 c1 c2 hrn hl
  have hrel0 : ClearRel w b r rows d rows.length w2 := ⟨rows, rows, Nat.le_refl _, hrg, List.Perm.refl _, fun x hx _ => hx, Nat.le_refl _, hI2, hM2⟩
  have HR := hide hrel0
  clear hrel0 hrg hI2 hM2 HW
  go_loopg [] rows.length (fun n wr => ClearRel w b r rows d n wr)
  case atStart => exact HR.out
  case round =>
    clear HR
    obtain ⟨lrows, rs, hn, hrg, hcl, hin, hrl, hI, hM⟩ := hrel
    cases lrows with
    | nil =>
      have hx := hrg.next_end
      have hfin : IndexAt wr b (clearRows rows d) := by
        refine hI.perm ?_
        have e : clearRows rs d = rs := by
          unfold clearRows
          rw [List.filter_eq_self]
          intro x hx
          have : x.dir ≠ d := fun e => by have := hin x hx e; cases this
          simp [this]
        rw [e] at hcl
        exact hcl
      have HF := hide hfin
      clear hrg hcl hin hI hn hfin hrl
      go_wp2_with ((with_reducible refine at_slot 18 ?_); refine wpList_val rfl (ex_next rfl (hx _)) ?_; go_frame)
      go_ret
      exact ⟨rfl, HF.out, hM⟩
    | cons r0 lr0 =>
      obtain ⟨p, left', w3, hnx, hpm, hrg1, hcur, hmr, hsz1⟩ := hrg.next_some (by simp)
      obtain ⟨r1, lr', hlp, rfl, hlp'⟩ := map_perm_cons hpm
      have hr1 : r1 ∈ rs := mem_of_kv (hrg.sub _ (hpm.mem_iff.2 (by simp)))
      replace hnx : ∀ ty, (Instr.next (.pointer (some ⟨r, 0, none⟩)) false ty).run Try.prog wr = .ok (.tuple #[.bool true, keyV r1.dir r1.name, .int .i64 r1.ino]) w3 := hnx
      have hok := hI.ok r1 hr1
      have hen : (Instr.entry (.pointer (some ⟨r, 0, none⟩))).run Try.prog w3 = .ok (.tuple #[keyV r1.dir r1.name, .int .i64 r1.ino]) w3 := Cur.entry (P := Try.prog) hcur
      have hM3 : Mod (Ix b) w w3 := hM.trans' hmr (fun k hk e => by omega)
      have hI3 : IndexAt w3 b rs := hI.mod hmr (fun k h1 h2 e => by omega)
      have hrg2 : Ranging Try.prog 55 w3 r b (rs.map Row.kv) (lr'.map Row.kv) := hrg1.perm_left hlp'
      have hnl : r1.kv ∉ lr'.map Row.kv := by
        have hnd := hrg.left_nodup
        have hnd2 := ((hpm.map (·.1)).nodup_iff).1 hnd
        simp only [List.map_cons, List.nodup_cons] at hnd2
        intro hm
        exact hnd2.1 (List.mem_map.2 ⟨r1.kv, hlp'.mem_iff.2 hm, rfl⟩)
      have hin2 : ∀ x ∈ rs, x.dir = d → x = r1 ∨ x ∈ lr' := fun x hx e => by
        have h1 := hin x hx e
        have h2 := hlp.mem_iff.1 h1
        exact List.mem_cons.1 h2
      have hn' : lr'.length + 1 ≤ gk := by
        have := hlp.length_eq
        simp only [List.length_cons] at this hn
        omega
      have hrlt := hrg.lt
      have HK := hide (keyA_size r1.dir r1.name hok.size)
      have HIN := hide hin2
      have HNL := hide hnl
      have HCL := hide hcl
      have HR1 := hide hr1
      clear hpm hlp hlp' hrg hrg1 hcur hM hI hn hok hr1 hmr r0 lr0 left' hin hin2 hnl hcl
      have hM4 : Mod None_ w3 (w3.alloc (.cells (keyA r1.dir r1.name) 55)) := (Mod.refl _ w3).alloc _
      have hB4 : Blk (w3.alloc (.cells (keyA r1.dir r1.name) 55)) w3.heap.size 55 (keyA r1.dir r1.name) := Blk.new _ _ _
      obtain ⟨w4, hw4⟩ : ∃ w4, w4 = w3.alloc (.cells (keyA r1.dir r1.name) 55) := ⟨_, rfl⟩
      rw [← hw4] at hM4 hB4
      have HW := hide hw4
      obtain ⟨g4, hg4⟩ : ∃ g4, g4 = w3.heap.size := ⟨_, rfl⟩
      have hg4r : r < g4 := by omega
      have HG := hide hg4
      rw [← hg4] at hB4
      have hk0 : (keyA r1.dir r1.name)[0]? = some (.int .i64 r1.dir) := by simp [keyA, keyCells]
      have ck : w4.cell? ⟨g4, 0, none⟩ = some (.int .i64 r1.dir) := (hB4.cell 0).trans hk0
      have hI4 : IndexAt w4 b rs := hI3.kept hM4
      have hrg4 : Ranging Try.prog 55 w4 r b (rs.map Row.kv) (lr'.map Row.kv) := hrg2.mod hM4 id id
      have hM5 : Mod (Ix b) w w4 := hM3.trans hM4.none
      clear hw4 hg4 hsz1 hrlt hk0
      by_cases hd1 : r1.dir = d
      · have ht : ((r1.dir : Int) == d) = true := by rw [hd1]; exact beq_self_eq_true d
        have HD := hide hd1
        obtain ⟨rs', hp⟩ := mem_perm HR1.out
        have hlr : rs.length = rs'.length + 1 := hp.length_eq
        have HO := hide (out_any w4 b rs rs' r1 hp (by omega) hI4)
        have HP := hide hp
        clear hd1 hI3 hrg2 hp hM3 hI4 hM4
        go_wp2_with (first
          | ((with_reducible refine at_slot 18 ?_); refine wpList_val rfl (ex_next rfl (hnx _)) ?_; go_frame)
          | ((with_reducible refine at_slot 20 ?_); refine wpList_val rfl (ex_entry rfl hen) ?_; go_frame)
          | ((with_reducible refine at_slot 6 ?_); refine wpList_declare rfl rfl 55 6 (.tmp 21) rfl rfl rfl zeroK (keyA r1.dir r1.name) zero55 (size55' HK.out) (zeroK_size.trans HK.out.symm) (keyA_one _ _) (by simp) rfl ?_; go_frame; rw [← HW.out, ← HG.out])
          | ((with_reducible refine at_slot 27 ?_); refine wpList_val rfl (ex_load rfl (run_loadRow hB4 Try.underlying55 rfl (size55' HK.out))) ?_; go_frame))
        refine Calls.mono HO.out ?_
        rintro e w5 ⟨rfl, hm5, hI5, hRg⟩
        have hrg5 := hRg r _ hrg4 HNL.out (.inr hrb)
        have hrel2 : ClearRel w b r rows d (gk - 1) w5 := by
          refine ⟨lr', rs', by omega, hrg5, ?_, ?_, by omega, hI5, hM5.trans hm5⟩
          · have e : (clearRows rs d).Perm (clearRows (r1 :: rs') d) := HP.out.filter _
            have e2 : clearRows (r1 :: rs') d = clearRows rs' d := by unfold clearRows; rw [List.filter_cons_of_neg (by simp [HD.out])]
            rw [e2] at e
            exact e.symm.trans HCL.out
          · intro x hx hxd
            rcases HIN.out x (HP.out.mem_iff.2 (List.mem_cons_of_mem _ hx)) hxd with rfl | hx'
            · exfalso
              have hnod := (HP.out.map Row.kv).map (·.1) |>.nodup_iff.1 (Ranging.nodup hrg4)
              simp only [List.map_cons, List.nodup_cons] at hnod
              exact hnod.1 (List.mem_map.2 ⟨_, List.mem_map_of_mem hx, rfl⟩)
            · exact hx'
        have HF := hide hrel2
        clear hrel2 hrg5 hRg hI5 hm5 hrg4
        go_wp2
        go_roundg (gk - 1)
        case measure => omega
        case rel => exact HF.out
      · have ht : ((r1.dir : Int) == d) = false := by rw [beq_eq_false_iff_ne]; exact hd1
        have hrel2 : ClearRel w b r rows d (gk - 1) w4 := by
          refine ⟨lr', rs, by omega, hrg4, HCL.out, ?_, hrl, hI4, hM5⟩
          intro x hx hxd
          rcases HIN.out x hx hxd with rfl | hx'
          · exact absurd hxd hd1
          · exact hx'
        have HF := hide hrel2
        clear hd1 hI3 hrg2 hM3 hI4 hM4 hrel2 hrg4
        go_wp2_with (first
          | ((with_reducible refine at_slot 18 ?_); refine wpList_val rfl (ex_next rfl (hnx _)) ?_; go_frame)
          | ((with_reducible refine at_slot 20 ?_); refine wpList_val rfl (ex_entry rfl hen) ?_; go_frame)
          | ((with_reducible refine at_slot 6 ?_); refine wpList_declare rfl rfl 55 6 (.tmp 21) rfl rfl rfl zeroK (keyA r1.dir r1.name) zero55 (size55' HK.out) (zeroK_size.trans HK.out.symm) (keyA_one _ _) (by simp) rfl ?_; go_frame; rw [← HW.out, ← HG.out]))
        go_roundg (gk - 1)
        case measure => omega
        case rel => exact HF.out
end Go.Proofs.Ytmamdacmpikdbaa
