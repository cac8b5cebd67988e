import Derived.Lib.Strings
import Derived.WideShapes
import Derived.Deep.CutRange
import Derived.Maps.AppendAt
import Derived.Test.YtabebkffcmajkaaGreatDoorG3
import Derived.Test.YtabebkffcmajkaaGreatDoorG2
/-! Lists in slices, of any kind of element. -/
namespace Go.Proofs.YtabebkffcmajkaaGreatDoor
open Go.RowKit Go.Maps Go.Shelf

/-- a slice that reads as a list -/
def ListAt {α : Type} (enc : α → List Value) (sz : Nat) (w : World) (v : Value) (l : List α) : Prop :=
  ∃ A c, v = .slice A l.length c ∧ l.length ≤ c ∧ c ≤ maxLen ∧ (0 < l.length → ∃ g o, A = some ⟨g, o, none⟩ ∧ g < w.heap.size ∧ ∀ i (h : i < l.length), w.rangeAt g (o + i * sz) (enc l[i]))
theorem ListAt.kept {α : Type} {enc : α → List Value} {sz : Nat} {w w' : World} {v : Value} {l : List α} (h : ListAt enc sz w v l) (hm : Mod None_ w w') : ListAt enc sz w' v l := by
  obtain ⟨A, c, h1, h2, h3, h4⟩ := h
  refine ⟨A, c, h1, h2, h3, fun h0 => ?_⟩
  obtain ⟨g, o, e, hg, hc⟩ := h4 h0
  exact ⟨g, o, e, Nat.lt_of_lt_of_le hg hm.size, fun i hi j u hj => (World.cell?_of_block (hm.block g hg id)).trans (hc i hi j u hj)⟩
def encRun (r : RunD) : List Value := [.int .i64 r.off, .int .i64 r.page, .int .i64 r.count]
def encDent (p : ByteArray × Int) : List Value := [.string p.1, .int .i64 p.2]
def encInt (n : Int) : List Value := [.int .i64 n]
structure EntD where
  kind : Int
  seq : Int
  off : Int
  count : Int
  page : Int
  size : Int
  ino : Int
  name : ByteArray
deriving DecidableEq
def encEntry (e : EntD) : List Value := [.int .i64 e.kind, .int .u64 e.seq, .int .i64 e.off, .int .i64 e.count, .int .i64 e.page, .int .i64 e.size, .int .i64 e.ino, .string e.name]

theorem ex_neqAgg {o : Oper} {a : Act} {w : World} {b : Bool} {t t2 : TypeId} {x y : Operand} {xs ys : Array Value} (h : o.op = .binOp .neq t x y t2) (hm : Tryz.prog.eqGuardType Tryz.prog.depth t = false) (hx : a.eval x = .agg xs) (hy : a.eval y = .agg ys)
    (hr : (binOp .neq t (.agg xs) (.agg ys)).run Tryz.prog w = .ok (.bool b) w) : (execOp a.eval o).run Tryz.prog w = .ok (.value (.bool b)) w := by
  unfold execOp; simp only [h, hx, hy]; simp [hr, run_eqGuard_agg w .neq t x y xs ys hm]
theorem guardRun : Tryz.prog.eqGuardType Tryz.prog.depth 73 = false := by kernel_rfl
theorem run_sameRun (p : RunD) (w : World) : (binOp .neq 73 (.agg (encRun p).toArray) (.agg (encRun p).toArray)).run Tryz.prog w = .ok (.bool false) w := by
  rcases p with ⟨a0, a1, a2⟩
  unfold encRun
  have h3 := Tryz.underlying3
  have h9 := Tryz.underlying9
  have h64 := Tryz.underlying47
  have hT := Tryz.underlying73
  go_simp
theorem run_diffRun (p q : RunD) (w : World) (h : p ≠ q) : (binOp .neq 73 (.agg (encRun p).toArray) (.agg (encRun q).toArray)).run Tryz.prog w = .ok (.bool true) w := by
  rcases p with ⟨a0, a1, a2⟩
  rcases q with ⟨b0, b1, b2⟩
  unfold encRun
  have h3 := Tryz.underlying3
  have h9 := Tryz.underlying9
  have h64 := Tryz.underlying47
  have hT := Tryz.underlying73
  by_cases e0 : a0 = b0
  · subst e0
    by_cases e1 : a1 = b1
    · subst e1
      by_cases e2 : a2 = b2
      · subst e2
        exact absurd rfl h
      · clear h
        go_simp
    · clear h
      go_simp
  · clear h
    go_simp

theorem guardDent : Tryz.prog.eqGuardType Tryz.prog.depth 75 = false := by kernel_rfl
theorem run_sameDent (p : ByteArray × Int) (w : World) : (binOp .neq 75 (.agg (encDent p).toArray) (.agg (encDent p).toArray)).run Tryz.prog w = .ok (.bool false) w := by
  rcases p with ⟨a0, a1⟩
  unfold encDent
  have h3 := Tryz.underlying3
  have h9 := Tryz.underlying9
  have h64 := Tryz.underlying47
  have hT := Tryz.underlying75
  go_simp
theorem run_diffDent (p q : ByteArray × Int) (w : World) (h : p ≠ q) : (binOp .neq 75 (.agg (encDent p).toArray) (.agg (encDent q).toArray)).run Tryz.prog w = .ok (.bool true) w := by
  rcases p with ⟨a0, a1⟩
  rcases q with ⟨b0, b1⟩
  unfold encDent
  have h3 := Tryz.underlying3
  have h9 := Tryz.underlying9
  have h64 := Tryz.underlying47
  have hT := Tryz.underlying75
  by_cases e0 : a0 = b0
  · subst e0
    by_cases e1 : a1 = b1
    · subst e1
      exact absurd rfl h
    · clear h
      go_simp
  · have et : ¬ a0.toList = b0.toList := fun e => e0 (by rw [Go.Lib.toList_data, Go.Lib.toList_data] at e; exact Go.WideShapes.bytes_inj e)
    clear h
    go_simp

theorem guardEntry : Tryz.prog.eqGuardType Tryz.prog.depth 49 = false := by kernel_rfl
theorem run_sameEntry (p : EntD) (w : World) : (binOp .neq 49 (.agg (encEntry p).toArray) (.agg (encEntry p).toArray)).run Tryz.prog w = .ok (.bool false) w := by
  rcases p with ⟨a0, a1, a2, a3, a4, a5, a6, a7⟩
  unfold encEntry
  have h3 := Tryz.underlying3
  have h9 := Tryz.underlying9
  have h64 := Tryz.underlying47
  have hT := Tryz.underlying49
  go_simp
theorem run_diffEntry (p q : EntD) (w : World) (h : p ≠ q) : (binOp .neq 49 (.agg (encEntry p).toArray) (.agg (encEntry q).toArray)).run Tryz.prog w = .ok (.bool true) w := by
  rcases p with ⟨a0, a1, a2, a3, a4, a5, a6, a7⟩
  rcases q with ⟨b0, b1, b2, b3, b4, b5, b6, b7⟩
  unfold encEntry
  have h3 := Tryz.underlying3
  have h9 := Tryz.underlying9
  have h64 := Tryz.underlying47
  have hT := Tryz.underlying49
  by_cases e0 : a0 = b0
  · subst e0
    by_cases e1 : a1 = b1
    · subst e1
      by_cases e2 : a2 = b2
      · subst e2
        by_cases e3 : a3 = b3
        · subst e3
          by_cases e4 : a4 = b4
          · subst e4
            by_cases e5 : a5 = b5
            · subst e5
              by_cases e6 : a6 = b6
              · subst e6
                by_cases e7 : a7 = b7
                · subst e7
                  exact absurd rfl h
                · have et : ¬ a7.toList = b7.toList := fun e => e7 (by rw [Go.Lib.toList_data, Go.Lib.toList_data] at e; exact Go.WideShapes.bytes_inj e)
                  clear h
                  go_simp
              · clear h
                go_simp
            · clear h
              go_simp
          · clear h
            go_simp
        · clear h
          go_simp
      · clear h
        go_simp
    · clear h
      go_simp
  · clear h
    go_simp
end Go.Proofs.YtabebkffcmajkaaGreatDoor

/-! Walks: lists are compared. (Printed by mk_EQ.py.) -/
namespace Go.Proofs.YtabebkffcmajkaaGreatDoor
open Go.RowKit Go.Maps Go.Shelf
attribute [local go_sem] quietV loudUpon Oper.semAt_some


set_option maxRecDepth 100000 in
set_option maxHeartbeats 1000000 in
theorem slicesEqRun (w : World) (v v' : Value) (l l' : List (RunD)) (h : ListAt encRun 3 w v l) (h' : ListAt encRun 3 w v' l') :
    Calls Tryz.prog 62 #[v, v'] w fun e w' => e = .returned (.bool (decide (l = l'))) ∧ Mod None_ w w' := by
  obtain ⟨A, c, rfl, hc1, hc2, hA⟩ := h
  obtain ⟨A', c', rfl, hc1', hc2', hA'⟩ := h'
  unfold maxLen at hc2 hc2'
  have hln : ∀ w, (Builtin.len_ #[30] 3 #[.slice A l.length c]).run Tryz.prog w = .ok (.int .i64 l.length) w := fun w => by simp [Builtin.len_, run_underlying Tryz.underlying30]; rfl
  have hln' : ∀ w, (Builtin.len_ #[30] 3 #[.slice A' l'.length c']).run Tryz.prog w = .ok (.int .i64 l'.length) w := fun w => by simp [Builtin.len_, run_underlying Tryz.underlying30]; rfl
  by_cases hlen : l.length = l'.length
  · have hb : ((l.length : Int) != l'.length) = false := by rw [bne_eq_false_iff_eq]; omega
    have HL := hide hlen
    have HA := hide hA
    have HA' := hide hA'
    clear hlen hA hA'
    go_enter Tryz.func62, Tryz.ntmps62
    go_wp2
    go_loopg [5, 13] l.length (fun n _ i wr => ∃ k : Nat, k + n = l.length ∧ i = .int .i64 k ∧ l.take k = l'.take k ∧ Mod None_ w wr)
    case atStart => exact ⟨0, by omega, rfl, rfl, Mod.refl _ _⟩
    obtain ⟨k, hk, rfl, ht, hm⟩ := hrel
    have HT := hide ht
    clear ht
    by_cases hlt : k < l.length
    · have hlt' : k < l'.length := by rw [← HL.out]; exact hlt
      obtain ⟨g, o, rfl, hg, hc⟩ := HA.out (by omega)
      obtain ⟨g', o', rfl, hg', hc'⟩ := HA'.out (by omega)
      have hx := hc k hlt
      have hy := hc' k hlt'
      obtain ⟨p, hp⟩ : ∃ p, p = l[k] := ⟨_, rfl⟩
      obtain ⟨q, hq⟩ : ∃ q, q = l'[k] := ⟨_, rfl⟩
      rw [← hp] at hx
      rw [← hq] at hy
      have HP := hide hp
      have HQ := hide hq
      clear hc hc' hp hq
      have hkl : (k : Int) < l.length := by omega
      have hkl' : (k : Int) < l'.length := by omega
      go_wp2_with fail
      refine region_stw (by kernel_rfl) (by kernel_rfl) ?_
      rintro w3 hw3
      have hm3 : Mod None_ w w3 := by rw [hw3]; exact hm.drew
      replace hx : w3.rangeAt g (o + k * 3) (encRun p) := fun j u hj => (World.cell?_of_block (hm3.block g hg id)).trans (hx j u hj)
      replace hy : w3.rangeAt g' (o' + k * 3) (encRun q) := fun j u hj => (World.cell?_of_block (hm3.block g' hg' id)).trans (hy j u hj)
      clear hw3 hm
      have hx0 := run_loadAt_mid w3 g (o + k * 3) 73 (encRun p) _ hx Tryz.underlying73 rfl (by kernel_rfl)
      have hy0 := run_loadAt_mid w3 g' (o' + k * 3) 73 (encRun q) _ hy Tryz.underlying73 rfl (by kernel_rfl)
      by_cases he : p = q
      · subst he
        have hne : (binOp .neq 73 (.agg (encRun p).toArray) (.agg (encRun p).toArray)).run Tryz.prog w3 = .ok (.bool false) w3 := run_sameRun p w3
        have HE : Hid (l.take (k + 1) = l'.take (k + 1)) := by
          refine hide ?_
          rw [List.take_succ_eq_append_getElem hlt, List.take_succ_eq_append_getElem hlt', HT.out, ← HP.out, ← HQ.out]
        clear hx hy
        iterate 3 (refine stw_step (fun K hK => ?_); go_simp; refine hK _ ?_; clear hK K)
        refine stw_val rfl (ex_load rfl hx0) ?_
        go_frame
        iterate 3 (refine stw_step (fun K hK => ?_); go_simp; refine hK _ ?_; clear hK K)
        refine stw_val rfl (ex_load rfl hy0) ?_
        go_frame
        refine stw_val rfl (ex_neqAgg rfl guardRun rfl rfl hne) ?_
        go_frame
        refine stw_nil ?_
        go_wp2
        go_roundg (gk - 1)
        case measure => omega
        case rel => exact ⟨k + 1, by omega, by go_num, HE.out, hm3⟩
      · have hno : decide (l = l') = false := by
          rw [decide_eq_false_iff_not]
          rintro rfl
          exact he (HP.out.trans HQ.out.symm)
        have HN := hide hno
        have hne : (binOp .neq 73 (.agg (encRun p).toArray) (.agg (encRun q).toArray)).run Tryz.prog w3 = .ok (.bool true) w3 := run_diffRun p q w3 he
        clear hno hx hy he
        iterate 3 (refine stw_step (fun K hK => ?_); go_simp; refine hK _ ?_; clear hK K)
        refine stw_val rfl (ex_load rfl hx0) ?_
        go_frame
        iterate 3 (refine stw_step (fun K hK => ?_); go_simp; refine hK _ ?_; clear hK K)
        refine stw_val rfl (ex_load rfl hy0) ?_
        go_frame
        refine stw_val rfl (ex_neqAgg rfl guardRun rfl rfl hne) ?_
        go_frame
        refine stw_nil ?_
        go_wp2
        go_ret
        exact ⟨by rw [HN.out]; rfl, hm3⟩
    · have he : decide (l = l') = true := by
        rw [decide_eq_true_eq]
        have := HT.out
        rwa [List.take_of_length_le (by omega), List.take_of_length_le (by have := HL.out; omega)] at this
      have HE := hide he
      have hkl : ¬ (k : Int) < l.length := by omega
      clear he
      go_wp2
      go_ret
      exact ⟨by rw [HE.out]; rfl, hm⟩
  · have hb : ((l.length : Int) != l'.length) = true := by rw [bne_iff_ne]; omega
    have hne : decide (l = l') = false := by rw [decide_eq_false_iff_not]; rintro rfl; exact hlen rfl
    have HN := hide hne
    clear hne hlen hA hA'
    go_enter Tryz.func62, Tryz.ntmps62
    go_wp2
    go_ret
    exact ⟨by rw [HN.out]; rfl, Mod.refl _ _⟩


set_option maxRecDepth 100000 in
set_option maxHeartbeats 1000000 in
theorem slicesEqDent (w : World) (v v' : Value) (l l' : List (ByteArray × Int)) (h : ListAt encDent 2 w v l) (h' : ListAt encDent 2 w v' l') :
    Calls Tryz.prog 65 #[v, v'] w fun e w' => e = .returned (.bool (decide (l = l'))) ∧ Mod None_ w w' := by
  obtain ⟨A, c, rfl, hc1, hc2, hA⟩ := h
  obtain ⟨A', c', rfl, hc1', hc2', hA'⟩ := h'
  unfold maxLen at hc2 hc2'
  have hln : ∀ w, (Builtin.len_ #[31] 3 #[.slice A l.length c]).run Tryz.prog w = .ok (.int .i64 l.length) w := fun w => by simp [Builtin.len_, run_underlying Tryz.underlying31]; rfl
  have hln' : ∀ w, (Builtin.len_ #[31] 3 #[.slice A' l'.length c']).run Tryz.prog w = .ok (.int .i64 l'.length) w := fun w => by simp [Builtin.len_, run_underlying Tryz.underlying31]; rfl
  by_cases hlen : l.length = l'.length
  · have hb : ((l.length : Int) != l'.length) = false := by rw [bne_eq_false_iff_eq]; omega
    have HL := hide hlen
    have HA := hide hA
    have HA' := hide hA'
    clear hlen hA hA'
    go_enter Tryz.func65, Tryz.ntmps65
    go_wp2
    go_loopg [5, 13] l.length (fun n _ i wr => ∃ k : Nat, k + n = l.length ∧ i = .int .i64 k ∧ l.take k = l'.take k ∧ Mod None_ w wr)
    case atStart => exact ⟨0, by omega, rfl, rfl, Mod.refl _ _⟩
    obtain ⟨k, hk, rfl, ht, hm⟩ := hrel
    have HT := hide ht
    clear ht
    by_cases hlt : k < l.length
    · have hlt' : k < l'.length := by rw [← HL.out]; exact hlt
      obtain ⟨g, o, rfl, hg, hc⟩ := HA.out (by omega)
      obtain ⟨g', o', rfl, hg', hc'⟩ := HA'.out (by omega)
      have hx := hc k hlt
      have hy := hc' k hlt'
      obtain ⟨p, hp⟩ : ∃ p, p = l[k] := ⟨_, rfl⟩
      obtain ⟨q, hq⟩ : ∃ q, q = l'[k] := ⟨_, rfl⟩
      rw [← hp] at hx
      rw [← hq] at hy
      have HP := hide hp
      have HQ := hide hq
      clear hc hc' hp hq
      have hkl : (k : Int) < l.length := by omega
      have hkl' : (k : Int) < l'.length := by omega
      go_wp2_with fail
      refine region_stw (by kernel_rfl) (by kernel_rfl) ?_
      rintro w3 hw3
      have hm3 : Mod None_ w w3 := by rw [hw3]; exact hm.drew
      replace hx : w3.rangeAt g (o + k * 2) (encDent p) := fun j u hj => (World.cell?_of_block (hm3.block g hg id)).trans (hx j u hj)
      replace hy : w3.rangeAt g' (o' + k * 2) (encDent q) := fun j u hj => (World.cell?_of_block (hm3.block g' hg' id)).trans (hy j u hj)
      clear hw3 hm
      have hx0 := run_loadAt_mid w3 g (o + k * 2) 75 (encDent p) _ hx Tryz.underlying75 rfl (by kernel_rfl)
      have hy0 := run_loadAt_mid w3 g' (o' + k * 2) 75 (encDent q) _ hy Tryz.underlying75 rfl (by kernel_rfl)
      by_cases he : p = q
      · subst he
        have hne : (binOp .neq 75 (.agg (encDent p).toArray) (.agg (encDent p).toArray)).run Tryz.prog w3 = .ok (.bool false) w3 := run_sameDent p w3
        have HE : Hid (l.take (k + 1) = l'.take (k + 1)) := by
          refine hide ?_
          rw [List.take_succ_eq_append_getElem hlt, List.take_succ_eq_append_getElem hlt', HT.out, ← HP.out, ← HQ.out]
        clear hx hy
        iterate 3 (refine stw_step (fun K hK => ?_); go_simp; refine hK _ ?_; clear hK K)
        refine stw_val rfl (ex_load rfl hx0) ?_
        go_frame
        iterate 3 (refine stw_step (fun K hK => ?_); go_simp; refine hK _ ?_; clear hK K)
        refine stw_val rfl (ex_load rfl hy0) ?_
        go_frame
        refine stw_val rfl (ex_neqAgg rfl guardDent rfl rfl hne) ?_
        go_frame
        refine stw_nil ?_
        go_wp2
        go_roundg (gk - 1)
        case measure => omega
        case rel => exact ⟨k + 1, by omega, by go_num, HE.out, hm3⟩
      · have hno : decide (l = l') = false := by
          rw [decide_eq_false_iff_not]
          rintro rfl
          exact he (HP.out.trans HQ.out.symm)
        have HN := hide hno
        have hne : (binOp .neq 75 (.agg (encDent p).toArray) (.agg (encDent q).toArray)).run Tryz.prog w3 = .ok (.bool true) w3 := run_diffDent p q w3 he
        clear hno hx hy he
        iterate 3 (refine stw_step (fun K hK => ?_); go_simp; refine hK _ ?_; clear hK K)
        refine stw_val rfl (ex_load rfl hx0) ?_
        go_frame
        iterate 3 (refine stw_step (fun K hK => ?_); go_simp; refine hK _ ?_; clear hK K)
        refine stw_val rfl (ex_load rfl hy0) ?_
        go_frame
        refine stw_val rfl (ex_neqAgg rfl guardDent rfl rfl hne) ?_
        go_frame
        refine stw_nil ?_
        go_wp2
        go_ret
        exact ⟨by rw [HN.out]; rfl, hm3⟩
    · have he : decide (l = l') = true := by
        rw [decide_eq_true_eq]
        have := HT.out
        rwa [List.take_of_length_le (by omega), List.take_of_length_le (by have := HL.out; omega)] at this
      have HE := hide he
      have hkl : ¬ (k : Int) < l.length := by omega
      clear he
      go_wp2
      go_ret
      exact ⟨by rw [HE.out]; rfl, hm⟩
  · have hb : ((l.length : Int) != l'.length) = true := by rw [bne_iff_ne]; omega
    have hne : decide (l = l') = false := by rw [decide_eq_false_iff_not]; rintro rfl; exact hlen rfl
    have HN := hide hne
    clear hne hlen hA hA'
    go_enter Tryz.func65, Tryz.ntmps65
    go_wp2
    go_ret
    exact ⟨by rw [HN.out]; rfl, Mod.refl _ _⟩


set_option maxRecDepth 100000 in
set_option maxHeartbeats 1000000 in
theorem refSameRuns (w : World) (v v' : Value) (l l' : List (RunD)) (h : ListAt encRun 3 w v l) (h' : ListAt encRun 3 w v' l') :
    Calls Tryz.prog 45 #[v, v'] w fun e w' => e = .returned (.bool (decide (l = l'))) ∧ Mod None_ w w' := by
  obtain ⟨A, c, rfl, hc1, hc2, hA⟩ := h
  obtain ⟨A', c', rfl, hc1', hc2', hA'⟩ := h'
  unfold maxLen at hc2 hc2'
  have hln : ∀ w, (Builtin.len_ #[30] 3 #[.slice A l.length c]).run Tryz.prog w = .ok (.int .i64 l.length) w := fun w => by simp [Builtin.len_, run_underlying Tryz.underlying30]; rfl
  have hln' : ∀ w, (Builtin.len_ #[30] 3 #[.slice A' l'.length c']).run Tryz.prog w = .ok (.int .i64 l'.length) w := fun w => by simp [Builtin.len_, run_underlying Tryz.underlying30]; rfl
  by_cases hlen : l.length = l'.length
  · have hb : ((l.length : Int) != l'.length) = false := by rw [bne_eq_false_iff_eq]; omega
    have HL := hide hlen
    have HA := hide hA
    have HA' := hide hA'
    clear hlen hA hA'
    go_enter Tryz.func45, Tryz.ntmps45
    go_wp2
    go_loopg [5] l.length (fun n i wr => ∃ k : Nat, k + n = l.length ∧ i = .int .i64 k ∧ l.take k = l'.take k ∧ Mod None_ w wr)
    case atStart => exact ⟨0, by omega, rfl, rfl, Mod.refl _ _⟩
    obtain ⟨k, hk, rfl, ht, hm⟩ := hrel
    have HT := hide ht
    clear ht
    by_cases hlt : k < l.length
    · have hlt' : k < l'.length := by rw [← HL.out]; exact hlt
      obtain ⟨g, o, rfl, hg, hc⟩ := HA.out (by omega)
      obtain ⟨g', o', rfl, hg', hc'⟩ := HA'.out (by omega)
      have hx := hc k hlt
      have hy := hc' k hlt'
      obtain ⟨p, hp⟩ : ∃ p, p = l[k] := ⟨_, rfl⟩
      obtain ⟨q, hq⟩ : ∃ q, q = l'[k] := ⟨_, rfl⟩
      rw [← hp] at hx
      rw [← hq] at hy
      have HP := hide hp
      have HQ := hide hq
      clear hc hc' hp hq
      have hkl : (k : Int) < l.length := by omega
      have hkl' : (k : Int) < l'.length := by omega
      go_wp2_with fail
      refine region_stw (by kernel_rfl) (by kernel_rfl) ?_
      rintro w3 hw3
      have hm3 : Mod None_ w w3 := by rw [hw3]; exact hm.drew
      replace hx : w3.rangeAt g (o + k * 3) (encRun p) := fun j u hj => (World.cell?_of_block (hm3.block g hg id)).trans (hx j u hj)
      replace hy : w3.rangeAt g' (o' + k * 3) (encRun q) := fun j u hj => (World.cell?_of_block (hm3.block g' hg' id)).trans (hy j u hj)
      clear hw3 hm
      have hx0 := run_loadAt_mid w3 g (o + k * 3) 73 (encRun p) _ hx Tryz.underlying73 rfl (by kernel_rfl)
      have hy0 := run_loadAt_mid w3 g' (o' + k * 3) 73 (encRun q) _ hy Tryz.underlying73 rfl (by kernel_rfl)
      by_cases he : p = q
      · subst he
        have hne : (binOp .neq 73 (.agg (encRun p).toArray) (.agg (encRun p).toArray)).run Tryz.prog w3 = .ok (.bool false) w3 := run_sameRun p w3
        have HE : Hid (l.take (k + 1) = l'.take (k + 1)) := by
          refine hide ?_
          rw [List.take_succ_eq_append_getElem hlt, List.take_succ_eq_append_getElem hlt', HT.out, ← HP.out, ← HQ.out]
        clear hx hy
        iterate 3 (refine stw_step (fun K hK => ?_); go_simp; refine hK _ ?_; clear hK K)
        refine stw_val rfl (ex_load rfl hx0) ?_
        go_frame
        iterate 3 (refine stw_step (fun K hK => ?_); go_simp; refine hK _ ?_; clear hK K)
        refine stw_val rfl (ex_load rfl hy0) ?_
        go_frame
        refine stw_val rfl (ex_neqAgg rfl guardRun rfl rfl hne) ?_
        go_frame
        refine stw_nil ?_
        go_wp2
        go_roundg (gk - 1)
        case measure => omega
        case rel => exact ⟨k + 1, by omega, by go_num, HE.out, hm3⟩
      · have hno : decide (l = l') = false := by
          rw [decide_eq_false_iff_not]
          rintro rfl
          exact he (HP.out.trans HQ.out.symm)
        have HN := hide hno
        have hne : (binOp .neq 73 (.agg (encRun p).toArray) (.agg (encRun q).toArray)).run Tryz.prog w3 = .ok (.bool true) w3 := run_diffRun p q w3 he
        clear hno hx hy he
        iterate 3 (refine stw_step (fun K hK => ?_); go_simp; refine hK _ ?_; clear hK K)
        refine stw_val rfl (ex_load rfl hx0) ?_
        go_frame
        iterate 3 (refine stw_step (fun K hK => ?_); go_simp; refine hK _ ?_; clear hK K)
        refine stw_val rfl (ex_load rfl hy0) ?_
        go_frame
        refine stw_val rfl (ex_neqAgg rfl guardRun rfl rfl hne) ?_
        go_frame
        refine stw_nil ?_
        go_wp2
        go_ret
        exact ⟨by rw [HN.out]; rfl, hm3⟩
    · have he : decide (l = l') = true := by
        rw [decide_eq_true_eq]
        have := HT.out
        rwa [List.take_of_length_le (by omega), List.take_of_length_le (by have := HL.out; omega)] at this
      have HE := hide he
      have hkl : ¬ (k : Int) < l.length := by omega
      clear he
      go_wp2
      go_ret
      exact ⟨by rw [HE.out]; rfl, hm⟩
  · have hb : ((l.length : Int) != l'.length) = true := by rw [bne_iff_ne]; omega
    have hne : decide (l = l') = false := by rw [decide_eq_false_iff_not]; rintro rfl; exact hlen rfl
    have HN := hide hne
    clear hne hlen hA hA'
    go_enter Tryz.func45, Tryz.ntmps45
    go_wp2
    go_ret
    exact ⟨by rw [HN.out]; rfl, Mod.refl _ _⟩

end Go.Proofs.YtabebkffcmajkaaGreatDoor

/-! Walks: lists are compared. (Printed by mk_EQ.py.) -/
namespace Go.Proofs.YtabebkffcmajkaaGreatDoor
open Go.RowKit Go.Maps Go.Shelf
attribute [local go_sem] quietV loudUpon Oper.semAt_some


set_option maxRecDepth 100000 in
set_option maxHeartbeats 1000000 in
theorem lawSameRuns (w : World) (v v' : Value) (l l' : List (RunD)) (h : ListAt encRun 3 w v l) (h' : ListAt encRun 3 w v' l') :
    Calls Tryz.prog 31 #[v, v'] w fun e w' => e = .returned (.bool (decide (l = l'))) ∧ Mod None_ w w' := by
  obtain ⟨A, c, rfl, hc1, hc2, hA⟩ := h
  obtain ⟨A', c', rfl, hc1', hc2', hA'⟩ := h'
  unfold maxLen at hc2 hc2'
  have hln : ∀ w, (Builtin.len_ #[30] 3 #[.slice A l.length c]).run Tryz.prog w = .ok (.int .i64 l.length) w := fun w => by simp [Builtin.len_, run_underlying Tryz.underlying30]; rfl
  have hln' : ∀ w, (Builtin.len_ #[30] 3 #[.slice A' l'.length c']).run Tryz.prog w = .ok (.int .i64 l'.length) w := fun w => by simp [Builtin.len_, run_underlying Tryz.underlying30]; rfl
  by_cases hlen : l.length = l'.length
  · have hb : ((l.length : Int) != l'.length) = false := by rw [bne_eq_false_iff_eq]; omega
    have HL := hide hlen
    have HA := hide hA
    have HA' := hide hA'
    clear hlen hA hA'
    go_enter Tryz.func31, Tryz.ntmps31
    go_wp2
    go_loopg [5] l.length (fun n i wr => ∃ k : Nat, k + n = l.length ∧ i = .int .i64 k ∧ l.take k = l'.take k ∧ Mod None_ w wr)
    case atStart => exact ⟨0, by omega, rfl, rfl, Mod.refl _ _⟩
    obtain ⟨k, hk, rfl, ht, hm⟩ := hrel
    have HT := hide ht
    clear ht
    by_cases hlt : k < l.length
    · have hlt' : k < l'.length := by rw [← HL.out]; exact hlt
      obtain ⟨g, o, rfl, hg, hc⟩ := HA.out (by omega)
      obtain ⟨g', o', rfl, hg', hc'⟩ := HA'.out (by omega)
      have hx := hc k hlt
      have hy := hc' k hlt'
      obtain ⟨p, hp⟩ : ∃ p, p = l[k] := ⟨_, rfl⟩
      obtain ⟨q, hq⟩ : ∃ q, q = l'[k] := ⟨_, rfl⟩
      rw [← hp] at hx
      rw [← hq] at hy
      have HP := hide hp
      have HQ := hide hq
      clear hc hc' hp hq
      have hkl : (k : Int) < l.length := by omega
      have hkl' : (k : Int) < l'.length := by omega
      go_wp2_with fail
      refine region_stw (by kernel_rfl) (by kernel_rfl) ?_
      rintro w3 hw3
      have hm3 : Mod None_ w w3 := by rw [hw3]; exact hm.drew
      replace hx : w3.rangeAt g (o + k * 3) (encRun p) := fun j u hj => (World.cell?_of_block (hm3.block g hg id)).trans (hx j u hj)
      replace hy : w3.rangeAt g' (o' + k * 3) (encRun q) := fun j u hj => (World.cell?_of_block (hm3.block g' hg' id)).trans (hy j u hj)
      clear hw3 hm
      have hx0 := run_loadAt_mid w3 g (o + k * 3) 73 (encRun p) _ hx Tryz.underlying73 rfl (by kernel_rfl)
      have hy0 := run_loadAt_mid w3 g' (o' + k * 3) 73 (encRun q) _ hy Tryz.underlying73 rfl (by kernel_rfl)
      by_cases he : p = q
      · subst he
        have hne : (binOp .neq 73 (.agg (encRun p).toArray) (.agg (encRun p).toArray)).run Tryz.prog w3 = .ok (.bool false) w3 := run_sameRun p w3
        have HE : Hid (l.take (k + 1) = l'.take (k + 1)) := by
          refine hide ?_
          rw [List.take_succ_eq_append_getElem hlt, List.take_succ_eq_append_getElem hlt', HT.out, ← HP.out, ← HQ.out]
        clear hx hy
        iterate 3 (refine stw_step (fun K hK => ?_); go_simp; refine hK _ ?_; clear hK K)
        refine stw_val rfl (ex_load rfl hx0) ?_
        go_frame
        iterate 3 (refine stw_step (fun K hK => ?_); go_simp; refine hK _ ?_; clear hK K)
        refine stw_val rfl (ex_load rfl hy0) ?_
        go_frame
        refine stw_val rfl (ex_neqAgg rfl guardRun rfl rfl hne) ?_
        go_frame
        refine stw_nil ?_
        go_wp2
        go_roundg (gk - 1)
        case measure => omega
        case rel => exact ⟨k + 1, by omega, by go_num, HE.out, hm3⟩
      · have hno : decide (l = l') = false := by
          rw [decide_eq_false_iff_not]
          rintro rfl
          exact he (HP.out.trans HQ.out.symm)
        have HN := hide hno
        have hne : (binOp .neq 73 (.agg (encRun p).toArray) (.agg (encRun q).toArray)).run Tryz.prog w3 = .ok (.bool true) w3 := run_diffRun p q w3 he
        clear hno hx hy he
        iterate 3 (refine stw_step (fun K hK => ?_); go_simp; refine hK _ ?_; clear hK K)
        refine stw_val rfl (ex_load rfl hx0) ?_
        go_frame
        iterate 3 (refine stw_step (fun K hK => ?_); go_simp; refine hK _ ?_; clear hK K)
        refine stw_val rfl (ex_load rfl hy0) ?_
        go_frame
        refine stw_val rfl (ex_neqAgg rfl guardRun rfl rfl hne) ?_
        go_frame
        refine stw_nil ?_
        go_wp2
        go_ret
        exact ⟨by rw [HN.out]; rfl, hm3⟩
    · have he : decide (l = l') = true := by
        rw [decide_eq_true_eq]
        have := HT.out
        rwa [List.take_of_length_le (by omega), List.take_of_length_le (by have := HL.out; omega)] at this
      have HE := hide he
      have hkl : ¬ (k : Int) < l.length := by omega
      clear he
      go_wp2
      go_ret
      exact ⟨by rw [HE.out]; rfl, hm⟩
  · have hb : ((l.length : Int) != l'.length) = true := by rw [bne_iff_ne]; omega
    have hne : decide (l = l') = false := by rw [decide_eq_false_iff_not]; rintro rfl; exact hlen rfl
    have HN := hide hne
    clear hne hlen hA hA'
    go_enter Tryz.func31, Tryz.ntmps31
    go_wp2
    go_ret
    exact ⟨by rw [HN.out]; rfl, Mod.refl _ _⟩


set_option maxRecDepth 100000 in
set_option maxHeartbeats 1000000 in
theorem lawSameDents (w : World) (v v' : Value) (l l' : List (ByteArray × Int)) (h : ListAt encDent 2 w v l) (h' : ListAt encDent 2 w v' l') :
    Calls Tryz.prog 32 #[v, v'] w fun e w' => e = .returned (.bool (decide (l = l'))) ∧ Mod None_ w w' := by
  obtain ⟨A, c, rfl, hc1, hc2, hA⟩ := h
  obtain ⟨A', c', rfl, hc1', hc2', hA'⟩ := h'
  unfold maxLen at hc2 hc2'
  have hln : ∀ w, (Builtin.len_ #[31] 3 #[.slice A l.length c]).run Tryz.prog w = .ok (.int .i64 l.length) w := fun w => by simp [Builtin.len_, run_underlying Tryz.underlying31]; rfl
  have hln' : ∀ w, (Builtin.len_ #[31] 3 #[.slice A' l'.length c']).run Tryz.prog w = .ok (.int .i64 l'.length) w := fun w => by simp [Builtin.len_, run_underlying Tryz.underlying31]; rfl
  by_cases hlen : l.length = l'.length
  · have hb : ((l.length : Int) != l'.length) = false := by rw [bne_eq_false_iff_eq]; omega
    have HL := hide hlen
    have HA := hide hA
    have HA' := hide hA'
    clear hlen hA hA'
    go_enter Tryz.func32, Tryz.ntmps32
    go_wp2
    go_loopg [5] l.length (fun n i wr => ∃ k : Nat, k + n = l.length ∧ i = .int .i64 k ∧ l.take k = l'.take k ∧ Mod None_ w wr)
    case atStart => exact ⟨0, by omega, rfl, rfl, Mod.refl _ _⟩
    obtain ⟨k, hk, rfl, ht, hm⟩ := hrel
    have HT := hide ht
    clear ht
    by_cases hlt : k < l.length
    · have hlt' : k < l'.length := by rw [← HL.out]; exact hlt
      obtain ⟨g, o, rfl, hg, hc⟩ := HA.out (by omega)
      obtain ⟨g', o', rfl, hg', hc'⟩ := HA'.out (by omega)
      have hx := hc k hlt
      have hy := hc' k hlt'
      obtain ⟨p, hp⟩ : ∃ p, p = l[k] := ⟨_, rfl⟩
      obtain ⟨q, hq⟩ : ∃ q, q = l'[k] := ⟨_, rfl⟩
      rw [← hp] at hx
      rw [← hq] at hy
      have HP := hide hp
      have HQ := hide hq
      clear hc hc' hp hq
      have hkl : (k : Int) < l.length := by omega
      have hkl' : (k : Int) < l'.length := by omega
      go_wp2_with fail
      refine region_stw (by kernel_rfl) (by kernel_rfl) ?_
      rintro w3 hw3
      have hm3 : Mod None_ w w3 := by rw [hw3]; exact hm.drew
      replace hx : w3.rangeAt g (o + k * 2) (encDent p) := fun j u hj => (World.cell?_of_block (hm3.block g hg id)).trans (hx j u hj)
      replace hy : w3.rangeAt g' (o' + k * 2) (encDent q) := fun j u hj => (World.cell?_of_block (hm3.block g' hg' id)).trans (hy j u hj)
      clear hw3 hm
      have hx0 := run_loadAt_mid w3 g (o + k * 2) 75 (encDent p) _ hx Tryz.underlying75 rfl (by kernel_rfl)
      have hy0 := run_loadAt_mid w3 g' (o' + k * 2) 75 (encDent q) _ hy Tryz.underlying75 rfl (by kernel_rfl)
      by_cases he : p = q
      · subst he
        have hne : (binOp .neq 75 (.agg (encDent p).toArray) (.agg (encDent p).toArray)).run Tryz.prog w3 = .ok (.bool false) w3 := run_sameDent p w3
        have HE : Hid (l.take (k + 1) = l'.take (k + 1)) := by
          refine hide ?_
          rw [List.take_succ_eq_append_getElem hlt, List.take_succ_eq_append_getElem hlt', HT.out, ← HP.out, ← HQ.out]
        clear hx hy
        iterate 3 (refine stw_step (fun K hK => ?_); go_simp; refine hK _ ?_; clear hK K)
        refine stw_val rfl (ex_load rfl hx0) ?_
        go_frame
        iterate 3 (refine stw_step (fun K hK => ?_); go_simp; refine hK _ ?_; clear hK K)
        refine stw_val rfl (ex_load rfl hy0) ?_
        go_frame
        refine stw_val rfl (ex_neqAgg rfl guardDent rfl rfl hne) ?_
        go_frame
        refine stw_nil ?_
        go_wp2
        go_roundg (gk - 1)
        case measure => omega
        case rel => exact ⟨k + 1, by omega, by go_num, HE.out, hm3⟩
      · have hno : decide (l = l') = false := by
          rw [decide_eq_false_iff_not]
          rintro rfl
          exact he (HP.out.trans HQ.out.symm)
        have HN := hide hno
        have hne : (binOp .neq 75 (.agg (encDent p).toArray) (.agg (encDent q).toArray)).run Tryz.prog w3 = .ok (.bool true) w3 := run_diffDent p q w3 he
        clear hno hx hy he
        iterate 3 (refine stw_step (fun K hK => ?_); go_simp; refine hK _ ?_; clear hK K)
        refine stw_val rfl (ex_load rfl hx0) ?_
        go_frame
        iterate 3 (refine stw_step (fun K hK => ?_); go_simp; refine hK _ ?_; clear hK K)
        refine stw_val rfl (ex_load rfl hy0) ?_
        go_frame
        refine stw_val rfl (ex_neqAgg rfl guardDent rfl rfl hne) ?_
        go_frame
        refine stw_nil ?_
        go_wp2
        go_ret
        exact ⟨by rw [HN.out]; rfl, hm3⟩
    · have he : decide (l = l') = true := by
        rw [decide_eq_true_eq]
        have := HT.out
        rwa [List.take_of_length_le (by omega), List.take_of_length_le (by have := HL.out; omega)] at this
      have HE := hide he
      have hkl : ¬ (k : Int) < l.length := by omega
      clear he
      go_wp2
      go_ret
      exact ⟨by rw [HE.out]; rfl, hm⟩
  · have hb : ((l.length : Int) != l'.length) = true := by rw [bne_iff_ne]; omega
    have hne : decide (l = l') = false := by rw [decide_eq_false_iff_not]; rintro rfl; exact hlen rfl
    have HN := hide hne
    clear hne hlen hA hA'
    go_enter Tryz.func32, Tryz.ntmps32
    go_wp2
    go_ret
    exact ⟨by rw [HN.out]; rfl, Mod.refl _ _⟩


set_option maxRecDepth 100000 in
set_option maxHeartbeats 1000000 in
theorem lawSameEntries (w : World) (v v' : Value) (l l' : List (EntD)) (h : ListAt encEntry 8 w v l) (h' : ListAt encEntry 8 w v' l') :
    Calls Tryz.prog 17 #[v, v'] w fun e w' => e = .returned (.bool (decide (l = l'))) ∧ Mod None_ w w' := by
  obtain ⟨A, c, rfl, hc1, hc2, hA⟩ := h
  obtain ⟨A', c', rfl, hc1', hc2', hA'⟩ := h'
  unfold maxLen at hc2 hc2'
  have hln : ∀ w, (Builtin.len_ #[37] 3 #[.slice A l.length c]).run Tryz.prog w = .ok (.int .i64 l.length) w := fun w => by simp [Builtin.len_, run_underlying Tryz.underlying37]; rfl
  have hln' : ∀ w, (Builtin.len_ #[37] 3 #[.slice A' l'.length c']).run Tryz.prog w = .ok (.int .i64 l'.length) w := fun w => by simp [Builtin.len_, run_underlying Tryz.underlying37]; rfl
  by_cases hlen : l.length = l'.length
  · have hb : ((l.length : Int) != l'.length) = false := by rw [bne_eq_false_iff_eq]; omega
    have HL := hide hlen
    have HA := hide hA
    have HA' := hide hA'
    clear hlen hA hA'
    go_enter Tryz.func17, Tryz.ntmps17
    go_wp2
    go_loopg [5] l.length (fun n i wr => ∃ k : Nat, k + n = l.length ∧ i = .int .i64 k ∧ l.take k = l'.take k ∧ Mod None_ w wr)
    case atStart => exact ⟨0, by omega, rfl, rfl, Mod.refl _ _⟩
    obtain ⟨k, hk, rfl, ht, hm⟩ := hrel
    have HT := hide ht
    clear ht
    by_cases hlt : k < l.length
    · have hlt' : k < l'.length := by rw [← HL.out]; exact hlt
      obtain ⟨g, o, rfl, hg, hc⟩ := HA.out (by omega)
      obtain ⟨g', o', rfl, hg', hc'⟩ := HA'.out (by omega)
      have hx := hc k hlt
      have hy := hc' k hlt'
      obtain ⟨p, hp⟩ : ∃ p, p = l[k] := ⟨_, rfl⟩
      obtain ⟨q, hq⟩ : ∃ q, q = l'[k] := ⟨_, rfl⟩
      rw [← hp] at hx
      rw [← hq] at hy
      have HP := hide hp
      have HQ := hide hq
      clear hc hc' hp hq
      have hkl : (k : Int) < l.length := by omega
      have hkl' : (k : Int) < l'.length := by omega
      go_wp2_with fail
      refine region_stw (by kernel_rfl) (by kernel_rfl) ?_
      rintro w3 hw3
      have hm3 : Mod None_ w w3 := by rw [hw3]; exact hm.drew
      replace hx : w3.rangeAt g (o + k * 8) (encEntry p) := fun j u hj => (World.cell?_of_block (hm3.block g hg id)).trans (hx j u hj)
      replace hy : w3.rangeAt g' (o' + k * 8) (encEntry q) := fun j u hj => (World.cell?_of_block (hm3.block g' hg' id)).trans (hy j u hj)
      clear hw3 hm
      have hx0 := run_loadAt_mid w3 g (o + k * 8) 49 (encEntry p) _ hx Tryz.underlying49 rfl (by kernel_rfl)
      have hy0 := run_loadAt_mid w3 g' (o' + k * 8) 49 (encEntry q) _ hy Tryz.underlying49 rfl (by kernel_rfl)
      by_cases he : p = q
      · subst he
        have hne : (binOp .neq 49 (.agg (encEntry p).toArray) (.agg (encEntry p).toArray)).run Tryz.prog w3 = .ok (.bool false) w3 := run_sameEntry p w3
        have HE : Hid (l.take (k + 1) = l'.take (k + 1)) := by
          refine hide ?_
          rw [List.take_succ_eq_append_getElem hlt, List.take_succ_eq_append_getElem hlt', HT.out, ← HP.out, ← HQ.out]
        clear hx hy
        iterate 3 (refine stw_step (fun K hK => ?_); go_simp; refine hK _ ?_; clear hK K)
        refine stw_val rfl (ex_load rfl hx0) ?_
        go_frame
        iterate 3 (refine stw_step (fun K hK => ?_); go_simp; refine hK _ ?_; clear hK K)
        refine stw_val rfl (ex_load rfl hy0) ?_
        go_frame
        refine stw_val rfl (ex_neqAgg rfl guardEntry rfl rfl hne) ?_
        go_frame
        refine stw_nil ?_
        go_wp2
        go_roundg (gk - 1)
        case measure => omega
        case rel => exact ⟨k + 1, by omega, by go_num, HE.out, hm3⟩
      · have hno : decide (l = l') = false := by
          rw [decide_eq_false_iff_not]
          rintro rfl
          exact he (HP.out.trans HQ.out.symm)
        have HN := hide hno
        have hne : (binOp .neq 49 (.agg (encEntry p).toArray) (.agg (encEntry q).toArray)).run Tryz.prog w3 = .ok (.bool true) w3 := run_diffEntry p q w3 he
        clear hno hx hy he
        iterate 3 (refine stw_step (fun K hK => ?_); go_simp; refine hK _ ?_; clear hK K)
        refine stw_val rfl (ex_load rfl hx0) ?_
        go_frame
        iterate 3 (refine stw_step (fun K hK => ?_); go_simp; refine hK _ ?_; clear hK K)
        refine stw_val rfl (ex_load rfl hy0) ?_
        go_frame
        refine stw_val rfl (ex_neqAgg rfl guardEntry rfl rfl hne) ?_
        go_frame
        refine stw_nil ?_
        go_wp2
        go_ret
        exact ⟨by rw [HN.out]; rfl, hm3⟩
    · have he : decide (l = l') = true := by
        rw [decide_eq_true_eq]
        have := HT.out
        rwa [List.take_of_length_le (by omega), List.take_of_length_le (by have := HL.out; omega)] at this
      have HE := hide he
      have hkl : ¬ (k : Int) < l.length := by omega
      clear he
      go_wp2
      go_ret
      exact ⟨by rw [HE.out]; rfl, hm⟩
  · have hb : ((l.length : Int) != l'.length) = true := by rw [bne_iff_ne]; omega
    have hne : decide (l = l') = false := by rw [decide_eq_false_iff_not]; rintro rfl; exact hlen rfl
    have HN := hide hne
    clear hne hlen hA hA'
    go_enter Tryz.func17, Tryz.ntmps17
    go_wp2
    go_ret
    exact ⟨by rw [HN.out]; rfl, Mod.refl _ _⟩


set_option maxRecDepth 100000 in
set_option maxHeartbeats 1000000 in
theorem lawSameNumbers (w : World) (v v' : Value) (l l' : List (Int)) (h : ListAt encInt 1 w v l) (h' : ListAt encInt 1 w v' l') :
    Calls Tryz.prog 21 #[v, v'] w fun e w' => e = .returned (.bool (decide (l = l'))) ∧ Mod None_ w w' := by
  obtain ⟨A, c, rfl, hc1, hc2, hA⟩ := h
  obtain ⟨A', c', rfl, hc1', hc2', hA'⟩ := h'
  unfold maxLen at hc2 hc2'
  have hln : ∀ w, (Builtin.len_ #[32] 3 #[.slice A l.length c]).run Tryz.prog w = .ok (.int .i64 l.length) w := fun w => by simp [Builtin.len_, run_underlying Tryz.underlying32]; rfl
  have hln' : ∀ w, (Builtin.len_ #[32] 3 #[.slice A' l'.length c']).run Tryz.prog w = .ok (.int .i64 l'.length) w := fun w => by simp [Builtin.len_, run_underlying Tryz.underlying32]; rfl
  by_cases hlen : l.length = l'.length
  · have hb : ((l.length : Int) != l'.length) = false := by rw [bne_eq_false_iff_eq]; omega
    have HL := hide hlen
    have HA := hide hA
    have HA' := hide hA'
    clear hlen hA hA'
    go_enter Tryz.func21, Tryz.ntmps21
    go_wp2
    go_loopg [5] l.length (fun n i wr => ∃ k : Nat, k + n = l.length ∧ i = .int .i64 k ∧ l.take k = l'.take k ∧ Mod None_ w wr)
    case atStart => exact ⟨0, by omega, rfl, rfl, Mod.refl _ _⟩
    obtain ⟨k, hk, rfl, ht, hm⟩ := hrel
    have HT := hide ht
    clear ht
    by_cases hlt : k < l.length
    · have hlt' : k < l'.length := by rw [← HL.out]; exact hlt
      obtain ⟨g, o, rfl, hg, hc⟩ := HA.out (by omega)
      obtain ⟨g', o', rfl, hg', hc'⟩ := HA'.out (by omega)
      have hx := hc k hlt
      have hy := hc' k hlt'
      obtain ⟨p, hp⟩ : ∃ p, p = l[k] := ⟨_, rfl⟩
      obtain ⟨q, hq⟩ : ∃ q, q = l'[k] := ⟨_, rfl⟩
      rw [← hp] at hx
      rw [← hq] at hy
      have HP := hide hp
      have HQ := hide hq
      clear hc hc' hp hq
      have hkl : (k : Int) < l.length := by omega
      have hkl' : (k : Int) < l'.length := by omega
      go_wp2_with fail
      refine region_stw (by kernel_rfl) (by kernel_rfl) ?_
      rintro w3 hw3
      have hm3 : Mod None_ w w3 := by rw [hw3]; exact hm.drew
      replace hx : w3.rangeAt g (o + k * 1) (encInt p) := fun j u hj => (World.cell?_of_block (hm3.block g hg id)).trans (hx j u hj)
      replace hy : w3.rangeAt g' (o' + k * 1) (encInt q) := fun j u hj => (World.cell?_of_block (hm3.block g' hg' id)).trans (hy j u hj)
      clear hw3 hm
      have x0 : w3.cell? ⟨g, o + k, none⟩ = some (.int .i64 p) := by have := hx 0 _ rfl; simpa using this
      have y0 : w3.cell? ⟨g', o' + k, none⟩ = some (.int .i64 q) := by have := hy 0 _ rfl; simpa using this
      by_cases he : p = q
      · subst he
        have e0 : ((p : Int) != p) = false := by simp
        have e1 : ((p : Int) == p) = true := by simp
        have HE : Hid (l.take (k + 1) = l'.take (k + 1)) := by
          refine hide ?_
          rw [List.take_succ_eq_append_getElem hlt, List.take_succ_eq_append_getElem hlt', HT.out, ← HP.out, ← HQ.out]
        clear hx hy
        repeat (refine stw_step (fun K hK => ?_); go_simp; refine hK _ ?_; clear hK K)
        refine stw_nil ?_
        go_wp2
        go_roundg (gk - 1)
        case measure => omega
        case rel => exact ⟨k + 1, by omega, by go_num, HE.out, hm3⟩
      · have hno : decide (l = l') = false := by
          rw [decide_eq_false_iff_not]
          rintro rfl
          exact he (HP.out.trans HQ.out.symm)
        have HN := hide hno
        have e0 : ((p : Int) != q) = true := by rw [bne_iff_ne]; exact he
        have e1 : ((p : Int) == q) = false := by rw [beq_eq_false_iff_ne]; exact he
        have e2 : ¬ p = q := he
        clear hno hx hy he
        repeat (refine stw_step (fun K hK => ?_); go_simp; refine hK _ ?_; clear hK K)
        refine stw_nil ?_
        go_wp2
        go_ret
        exact ⟨by rw [HN.out]; rfl, hm3⟩
    · have he : decide (l = l') = true := by
        rw [decide_eq_true_eq]
        have := HT.out
        rwa [List.take_of_length_le (by omega), List.take_of_length_le (by have := HL.out; omega)] at this
      have HE := hide he
      have hkl : ¬ (k : Int) < l.length := by omega
      clear he
      go_wp2
      go_ret
      exact ⟨by rw [HE.out]; rfl, hm⟩
  · have hb : ((l.length : Int) != l'.length) = true := by rw [bne_iff_ne]; omega
    have hne : decide (l = l') = false := by rw [decide_eq_false_iff_not]; rintro rfl; exact hlen rfl
    have HN := hide hne
    clear hne hlen hA hA'
    go_enter Tryz.func21, Tryz.ntmps21
    go_wp2
    go_ret
    exact ⟨by rw [HN.out]; rfl, Mod.refl _ _⟩

end Go.Proofs.YtabebkffcmajkaaGreatDoor

/-! A region that draws its order, and stores into cells that its own operations read: R d is what holds until the store d is done; a quiet operation that the store d waits for may lean on it. No program in it. -/
namespace Go.Proofs.YtabebkffcmajkaaGreatDoor
open Go.RowKit Go.Maps

section
variable {P : Program} {ops : Array Oper} {md : Region.Mode} (D : List Nat) (I : World → Prop) (R : Nat → World → Prop)
/-- d waits for k -/
def waits (md : Region.Mode) (ops : Array Oper) (k : Nat) : Nat → Nat → Bool
  | 0, d => d == k
  | f + 1, d => d == k || (match ops[d]? with | some o => o.after.any (fun e => Region.binds md e && waits md ops k f e.on) | none => false)
def Closed (md : Region.Mode) (ops : Array Oper) (listed : Array Bool) : Prop := ∀ i o, ops[i]? = some o → listed.getD i false = true → ∀ e ∈ o.after, Region.binds md e = true → listed.getD e.on false = true
def JW (listed : Array Bool) (w : World) : Prop := I w ∧ ∀ d ∈ D, listed.getD d false = false → R d w
def JD (done : List Nat) (w : World) : Prop := I w ∧ ∀ d ∈ D, d ∉ done → R d w
def QW (md : Region.Mode) (ops : Array Oper) (k : Nat) (w : World) : Prop := I w ∧ ∀ d ∈ D, waits md ops k ops.size d = true → R d w

theorem waits_unlisted {listed : Array Bool} {k : Nat} (hc : Closed md ops listed) (hk : listed.getD k true = false) : ∀ (f d : Nat), waits md ops k f d = true → listed.getD d false = false := by
  have hkf : listed.getD k false = false := by
    rcases Nat.lt_or_ge k listed.size with h' | h'
    · simp [h'] at hk ⊢; exact hk
    · simp [Array.getElem?_eq_none h'] at hk
  intro f
  induction f with
  | zero => intro d hd; simp only [waits, beq_iff_eq] at hd; rw [hd]; exact hkf
  | succ f ih =>
    intro d hd
    simp only [waits, Bool.or_eq_true, beq_iff_eq] at hd
    rcases hd with rfl | hd
    · exact hkf
    · cases ho : ops[d]? with
      | none => rw [ho] at hd; cases hd
      | some o =>
        rw [ho] at hd
        simp only [Array.any_eq_true', Bool.and_eq_true] at hd
        obtain ⟨e, he, hb, hw⟩ := hd
        cases hl : listed.getD d false with
        | false => rfl
        | true =>
          have h1 := hc d o ho hl e he hb
          rw [ih _ hw] at h1
          cases h1
theorem Closed.set {listed : Array Bool} {j : Nat} (hc : Closed md ops listed) (hj : j ∈ Region.ready md ops listed) : Closed md ops (listed.setIfInBounds j true) := by
  intro i o ho hl e he hb
  by_cases hij : j = i
  · subst hij
    obtain ⟨_, o', ho', hall⟩ := mem_ready.1 hj
    rw [ho] at ho'; cases ho'
    exact getD_set_true (hall e he hb)
  · rw [getD_set_ne false hij] at hl
    exact getD_set_true (hc i o ho hl e he hb)
variable {D I R}
theorem JW.quiet {listed : Array Bool} {k : Nat} {w : World} (hk : k ∉ D) : JW D I R (listed.setIfInBounds k true) w ↔ JW D I R listed w := by
  unfold JW
  constructor
  · rintro ⟨h1, h2⟩
    exact ⟨h1, fun d hd hu => h2 d hd (by have hne : k ≠ d := (by rintro rfl; exact hk hd)
                                          rw [getD_set_ne false hne]; exact hu)⟩
  · rintro ⟨h1, h2⟩
    exact ⟨h1, fun d hd hu => h2 d hd (by have hne : k ≠ d := (by rintro rfl; exact hk hd)
                                          rw [getD_set_ne false hne] at hu; exact hu)⟩
theorem JW.q {listed : Array Bool} {k : Nat} {w : World} (hc : Closed md ops listed) (hk : listed.getD k true = false) (h : JW D I R listed w) : QW D I R md ops k w :=
  ⟨h.1, fun d hd hw => h.2 d hd (waits_unlisted hc hk _ _ hw)⟩

variable (D I R)
def wpAnyJ (P : Program) (md : Region.Mode) (ops : Array Oper) (Q : Act → World → Prop) : Nat → Array Bool → Act → World → Prop
  | 0, listed, a, w => Region.ready md ops listed = [] ∧ Q a w
  | fuel + 1, listed, a, w =>
    (Region.ready md ops listed = [] → Q a w) ∧
    ∀ i ∈ Region.ready md ops listed, lOp P ops (JW D I R (listed.setIfInBounds i true)) i (wpAnyJ P md ops Q fuel (listed.setIfInBounds i true)) a w
variable {D I R}
theorem wpAny_of_J {Q : Act → World → Prop} {Q' : Exit → Act → World → Prop} (hQ : ∀ a w, Q a w → Q' .normal a w) : ∀ (fuel : Nat) (listed : Array Bool) (a : Act) (w : World),
    wpAnyJ D I R P md ops Q fuel listed a w → wpAny P md ops Q' fuel listed a w
  | 0, _, _, _, h => ⟨h.1, hQ _ _ h.2⟩
  | fuel + 1, _, _, _, h => ⟨fun h0 => hQ _ _ (h.1 h0), fun i hi => wpOp_of_lOp (fun a' w' => wpAny_of_J hQ fuel _ a' w') (h.2 i hi)⟩
theorem YieldsAt.lOpJ {I' : World → Prop} {i : Nat} {o : Oper} {v : Value} {a : Act} {w : World} (hi : ops[i]? = some o) (hw0 : I' w) (hy : YieldsAt P ops w o v a) {K : Act → World → Prop} (h : K (a.put o.dst v) w) : lOp P ops I' i K a w := by
  unfold Go.Proofs.YtabebkffcmajkaaGreatDoor.lOp
  simp only [hi]
  rcases hy with ⟨hw, hv | ⟨hv, rfl⟩ | ⟨f, args, hv, hc⟩⟩ | ⟨hw, rfl⟩
  · simp only [hw, if_true, loud, hv, loudUpon]; exact ⟨hw0, h⟩
  · simp only [hw, if_true, loud, hv, loudUpon]; exact ⟨hw0, h⟩
  · simp only [hw, if_true, loud, hv, loudUpon]
    exact hc.mono fun e w'' ⟨he, hw''⟩ => by subst hw''; exact ⟨v, he, hw0, h⟩
  · simp only [hw, Bool.false_eq_true, if_false]; exact ⟨hw0, h⟩
theorem lOp_put2 {I1 I2 : World → Prop} {j : Nat} {oi oj : Oper} {v : Value} (hj : ops[j]? = some oj) (hap : oi.apart ops oj = true)
    (hsi : ∀ cs b, oi.op ≠ .select cs b) (hsj : ∀ cs b, oj.op ≠ .select cs b) {K : Act → World → Prop} {a : Act} {w : World}
    (hy : Always P ops I1 oi v a) (h : lOp P ops I2 j K (a.put oi.dst v) w) :
    lOp P ops I2 j (fun a' w' => Always P ops I1 oi v a' ∧ K (a'.put oi.dst v) w') a w := by
  obtain ⟨h1, h2, h3⟩ := Oper.apart_spec hap
  have keep : ∀ (a : Act), Always P ops I1 oi v a → ∀ u, Always P ops I1 oi v (a.put oj.dst u) := fun a hy u w hw =>
    (hy w hw).of_same (execOp_put oi hsi a oj.dst u h3) (wanted_put oi a oj.dst u h3)
  unfold lOp at *
  simp only [hj] at *
  rw [wanted_put oj a oi.dst v h1] at h
  split
  · rename_i hw
    simp only [hw, if_true] at h
    unfold loud at *
    rw [execOp_put oj hsj a oi.dst v h1] at h
    generalize (execOp a.eval oj).run P w = r at *
    cases r with
    | ok n w' =>
      cases n <;> simp only [loudUpon] at h ⊢
      case value u => exact ⟨h.1, keep a hy u, by rw [← Act.put_comm a v u h2]; exact h.2⟩
      case skip => exact ⟨h.1, keep a hy _, by rw [← Act.put_comm a v undef h2]; exact h.2⟩
      case enter f args => exact h.mono fun e w'' ⟨u, he, hi, hn⟩ => ⟨u, he, hi, keep a hy u, by rw [← Act.put_comm a v u h2]; exact hn⟩
    | halt x w' => simp only [loudUpon] at h
  · rename_i hw
    simp only [hw] at h
    exact ⟨h.1, keep a hy _, by rw [← Act.put_comm a v undef h2]; exact h.2⟩
theorem wpAnyJ_first {Q : Act → World → Prop} {i : Nat} {oi : Oper} {v : Value} (hi : ops[i]? = some oi) (hiD : i ∉ D) (hsel : ∀ (j : Nat) (o : Oper) cs b, ops[j]? = some o → o.op ≠ .select cs b) :
    ∀ (fuel : Nat) (listed : Array Bool) (a : Act) (w : World), JW D I R listed w → Closed md ops listed →
      (∀ j oj, ops[j]? = some oj → j ≠ i → listed.getD j true = false → (∀ e ∈ oj.after, Region.binds md e = true → e.on ≠ i) → oi.apart ops oj = true) →
      i ∈ Region.ready md ops listed → Always P ops (QW D I R md ops i) oi v a →
      wpAnyJ D I R P md ops Q fuel (listed.setIfInBounds i true) (a.put oi.dst v) w → wpAnyJ D I R P md ops Q (fuel + 1) listed a w := by
  intro fuel
  induction fuel with
  | zero =>
    intro listed a w hw hcl _ hr hy H
    refine ⟨fun h => (by rw [h] at hr; cases hr), fun j hj => ?_⟩
    by_cases hji : j = i
    · subst hji; exact YieldsAt.lOpJ hi ((JW.quiet hiD).2 hw) (hy w (hw.q hcl (mem_ready.1 hr).1)) H
    · have := ready_mono hj hji
      rw [H.1] at this
      cases this
  | succ fuel ih =>
    intro listed a w hw hcl hfree hr hy H
    refine ⟨fun h => (by rw [h] at hr; cases hr), fun j hj => ?_⟩
    by_cases hji : j = i
    · subst hji; exact YieldsAt.lOpJ hi ((JW.quiet hiD).2 hw) (hy w (hw.q hcl (mem_ready.1 hr).1)) H
    · have h1 := H.2 j (ready_mono hj hji)
      obtain ⟨hjun, oj, hoj, hall⟩ := mem_ready.1 hj
      have hnot : ∀ e ∈ oj.after, Region.binds md e = true → e.on ≠ i := fun e he hb heq => by
        have h1 := hall e he hb
        have h0 := (mem_ready.1 hr).1
        rw [heq] at h1
        rcases Nat.lt_or_ge i listed.size with h' | h'
        · simp [h'] at h0 h1; rw [h0] at h1; cases h1
        · simp [Array.getElem?_eq_none h'] at h1
      have h2 := lOp_put2 hoj (hfree j oj hoj hji hjun hnot) (fun cs b => hsel i oi cs b hi) (fun cs b => hsel j oj cs b hoj) hy h1
      have hfree' : ∀ k ok, ops[k]? = some ok → k ≠ i → (listed.setIfInBounds j true).getD k true = false →
          (∀ e ∈ ok.after, Region.binds md e = true → e.on ≠ i) → oi.apart ops ok = true := fun k ok hk hki hun hno => by
        refine hfree k ok hk hki ?_ hno
        by_cases hjk : j = k
        · subst hjk; exact hjun
        · rw [getD_set_ne true hjk] at hun; exact hun
      have hback : ∀ w', JW D I R ((listed.setIfInBounds i true).setIfInBounds j true) w' → JW D I R (listed.setIfInBounds j true) w' := fun w' h => by
        rw [← Array.setIfInBounds_comm _ _ hji] at h
        exact (JW.quiet hiD).1 h
      refine lOp_mono (fun a' w' hw' h3 => ih (listed.setIfInBounds j true) a' w' hw' (hcl.set hj) hfree' (ready_mono hr (Ne.symm hji)) h3.1 ?_) (lOp_weak hback h2)
      rw [Array.setIfInBounds_comm _ _ hji]
      exact h3.2

variable (D I R)
def wpMixJ (P : Program) (md : Region.Mode) (ops : Array Oper) (Q : Act → World → Prop) : List (Bool × Nat) → List Nat → Act → World → Prop
  | [], _, a, w => Q a w
  | (true, k) :: l, done, a, w => k ∉ D ∧ ∃ o v, ops[k]? = some o ∧ Always P ops (QW D I R md ops k) o v a ∧ wpMixJ P md ops Q l done (a.put o.dst v) w
  | (false, k) :: l, done, a, w => lOp P ops (JD D I R (k :: done)) k (wpMixJ P md ops Q l (k :: done)) a w
variable {D I R}
theorem JD.jw {listed : Array Bool} {done : List Nat} {w : World} (hl : ∀ d ∈ done, listed.getD d false = true) (h : JD D I R done w) : JW D I R listed w :=
  ⟨h.1, fun d hd hu => h.2 d hd (fun hm => by rw [hl d hm] at hu; cases hu)⟩
theorem wpAnyJ_mix {Q : Act → World → Prop} (hs : Region.noSelect ops = true) : ∀ (l : List (Bool × Nat)) (listed : Array Bool) (done : List Nat) (a : Act) (w : World), JW D I R listed w → Closed md ops listed → (∀ d ∈ done, listed.getD d false = true) → mixB md ops l listed = true →
    wpMixJ D I R P md ops Q l done a w → wpAnyJ D I R P md ops Q l.length listed a w
  | [], _, _, _, _, _, _, _, hB, h => ⟨by simpa [mixB] using hB, h⟩
  | (true, k) :: l, listed, done, a, w, hw, hc, hl, hB, ⟨hk, o, v, ho, hy, h⟩ => by
    simp only [mixB, Bool.and_eq_true] at hB
    have hr : k ∈ Region.ready md ops listed := by simpa using hB.1.1
    exact wpAnyJ_first ho hk (Region.noSelect_spec hs) l.length listed a w hw hc (Region.free_spec ho hB.1.2) hr hy (wpAnyJ_mix hs l _ done _ _ ((JW.quiet hk).2 hw) (hc.set hr) (fun d hd => getD_set_true (hl d hd)) hB.2 h)
  | (false, k) :: l, listed, done, a, w, hw, hc, hl, hB, h => by
    simp only [mixB, Bool.and_eq_true, decide_eq_true_eq] at hB
    refine ⟨fun h1 => (by rw [hB.1] at h1; cases h1), fun i hi => ?_⟩
    have hr := hi
    rw [hB.1] at hi
    have hik : i = k := by simpa using hi
    subst hik
    have hl2 : ∀ d ∈ i :: done, (listed.setIfInBounds i true).getD d false = true := by
      intro d hd
      rcases List.mem_cons.1 hd with rfl | hd
      · have h0 := (mem_ready.1 hr).1
        rcases Nat.lt_or_ge d listed.size with h' | h'
        · simp [h']
        · simp [Array.getElem?_eq_none h'] at h0
      · exact getD_set_true (hl d hd)
    exact lOp_mono (fun a' w' hw' h' => wpAnyJ_mix hs l _ (i :: done) a' w' hw' (hc.set hr) hl2 hB.2 h') (lOp_weak (fun w' h => JD.jw hl2 h) h)

structure JxW (P : Program) (ops : Array Oper) (D : List Nat) (I : World → Prop) (R : Nat → World → Prop) (Q : Act → World → Prop) (l : List (Bool × Nat)) (done : List Nat) (a : Act) (w : World) : Prop where
  out : wpMixJ D I R P .any ops Q l done a w
theorem region_jxw {id : Nat} {Q : Exit → Act → World → Prop} {a : Act} {w : World} {l : List Oper} (σ : List (Bool × Nat)) (D : List Nat) (I : World → Prop) (R : Nat → World → Prop) (hm : P.follows .mixedOrders = true) (hB : Region.mixOk .any l.toArray σ = true)
    (h : ∀ w', w' = w.drew → I w' ∧ (∀ d ∈ D, R d w') ∧ JxW P l.toArray D I R (fun a' w' => Q .normal a' w') σ [] a w') : (Code.region id l.toArray true).wp P Q a w := by
  simp only [Region.mixOk, Bool.and_eq_true, decide_eq_true_eq] at hB
  obtain ⟨hI, hR, hx⟩ := h _ rfl
  refine wp_region_any hm (wpAny_of_J (D := D) (I := I) (R := R) (Q := fun a' w' => Q .normal a' w') (fun _ _ h => h) _ _ _ _ ?_)
  have := wpAnyJ_mix (md := .any) hB.1.1 σ _ [] a _ ⟨hI, fun d hd _ => hR d hd⟩ (fun i o _ hl => by
    exfalso
    rw [Array.getD_eq_getD_getElem?, Array.getElem?_replicate] at hl
    split at hl <;> simp at hl) (fun d hd => by cases hd) hB.2 hx.out
  rw [hB.1.2] at this
  exact this
variable {D : List Nat} {I : World → Prop} {R : Nat → World → Prop}
theorem jxw_quiet {Q : Act → World → Prop} {k : Nat} {o : Oper} {os : List Oper} {l : List (Bool × Nat)} {done : List Nat} {a : Act} {w : World} {v : Value} (ho : os[k]? = some o) (hk : D.contains k = false) (ds : List Nat) (hds : ds.all (fun d => D.contains d && waits .any os.toArray k os.toArray.size d) = true)
    (h : ∀ w', I w' → (∀ d ∈ ds, R d w') → ∀ K : Value → Prop, K v → if Region.wanted o (yielded os.toArray a.tmps) then quietV P a w' o K ((execOp a.eval o).run P w') else K undef)
    (hn : JxW P os.toArray D I R Q l done (a.put o.dst v) w) : JxW P os.toArray D I R Q ((true, k) :: l) done a w := by
  refine ⟨by simpa using hk, o, v, by simpa using ho, fun w' hw' => ?_, hn.out⟩
  have h1 := h w' hw'.1 (fun d hd => by
    have := List.all_eq_true.1 hds d hd
    simp only [Bool.and_eq_true, List.contains_iff_mem] at this
    exact hw'.2 d this.1 this.2) (· = v) rfl
  unfold YieldsAt
  by_cases hwn : Region.wanted o (yielded os.toArray a.tmps) = true
  · rw [if_pos hwn] at h1
    refine .inl ⟨hwn, ?_⟩
    generalize (execOp a.eval o).run P w' = r at h1 ⊢
    cases r with
    | ok n w2 =>
      cases n <;> simp only [quietV] at h1
      case value u => obtain ⟨rfl, rfl⟩ := h1; exact .inl rfl
      case skip => obtain ⟨rfl, h2⟩ := h1; exact .inr (.inl ⟨rfl, h2.symm⟩)
      case enter f args => obtain ⟨rfl, u, hc, rfl⟩ := h1; exact .inr (.inr ⟨f, args, rfl, hc⟩)
    | halt x w2 => simp only [quietV] at h1
  · rw [if_neg hwn] at h1
    exact .inr ⟨by simpa using hwn, h1.symm⟩
theorem jxw_loud {Q : Act → World → Prop} {k : Nat} {o : Oper} {os : List Oper} {l : List (Bool × Nat)} {done : List Nat} {a : Act} {w : World} (ho : os[k]? = some o)
    (h : ∀ K : Act → World → Prop, (∀ a w, JxW P os.toArray D I R Q l (k :: done) a w → K a w) → if Region.wanted o (yielded os.toArray a.tmps) then loudUpon P o a (JD D I R (k :: done)) K ((execOp a.eval o).run P w) else JD D I R (k :: done) w ∧ K (a.put o.dst undef) w) : JxW P os.toArray D I R Q ((false, k) :: l) done a w := by
  have h1 := h _ (fun a w hm => hm)
  have ho' : os.toArray[k]? = some o := by simpa using ho
  refine ⟨?_⟩
  unfold wpMixJ lOp loud
  rw [ho']
  show (if Region.wanted o (yielded os.toArray a.tmps) then loudUpon P o a (JD D I R (k :: done)) (wpMixJ D I R P .any os.toArray Q l (k :: done)) ((execOp a.eval o).run P w) else JD D I R (k :: done) w ∧ wpMixJ D I R P .any os.toArray Q l (k :: done) (a.put o.dst undef) w)
  split
  · rename_i hw
    rw [if_pos hw] at h1
    exact loud_mono (fun _ _ _ h => h.out) h1
  · rename_i hw
    rw [if_neg hw] at h1
    exact ⟨h1.1, h1.2.out⟩
theorem jxw_nil {Q : Act → World → Prop} {done : List Nat} {a : Act} {w : World} (h : Q a w) : JxW P ops D I R Q [] done a w := ⟨h⟩
end
end Go.Proofs.YtabebkffcmajkaaGreatDoor

/-! Nodes. -/
namespace Go.Proofs.YtabebkffcmajkaaGreatDoor
open Go.RowKit Go.Maps Go.Shelf

structure NodeD where
  ino : Int
  kind : Int
  links : Int
  size : Int
  map : List RunD
  names : List (ByteArray × Int)
  head : Int
  tail : Int
  log : List Int
  entries : Int
/-- a node's cells -/
def nodeC (n : NodeD) (vm vn vl : Value) : Array Value :=
  #[.int .i64 n.ino, .int .i64 n.kind, .int .i64 n.links, .int .i64 n.size, vm, vn, .int .i64 n.head, .int .i64 n.tail, vl, .int .i64 n.entries]
/-- what its lists are -/
structure NodeAt (w : World) (n : NodeD) (vm vn vl : Value) : Prop where
  map : RunsAt w vm n.map
  names : ListAt encDent 2 w vn n.names
  log : ListAt encInt 1 w vl n.log
  kind : I64 n.kind
  size : I64 n.size
  nlen : n.names.length ≤ 1000000000000
theorem NodeAt.kept {w w' : World} {n : NodeD} {vm vn vl : Value} (h : NodeAt w n vm vn vl) (hm : Mod None_ w w') : NodeAt w' n vm vn vl := ⟨h.map.kept hm, h.names.kept hm, h.log.kept hm, h.kind, h.size, h.nlen⟩
theorem RunsAt.list {w : World} {v : Value} {l : List RunD} (h : RunsAt w v l) : ListAt encRun 3 w v l := by
  obtain ⟨A, c, h1, h2, h3, _, _, h4⟩ := h
  refine ⟨A, c, h1, h2, h3, fun h0 => ?_⟩
  obtain ⟨g, o, e, hg, hc⟩ := h4 h0
  refine ⟨g, o, e, hg, fun i hi j u hj => ?_⟩
  obtain ⟨a, b, d⟩ := hc i hi
  match j, hj with
  | 0, hj => obtain rfl : Value.int .i64 l[i].off = u := by simpa [encRun] using hj
             exact a
  | 1, hj => obtain rfl : Value.int .i64 l[i].page = u := by simpa [encRun] using hj
             exact b
  | 2, hj => obtain rfl : Value.int .i64 l[i].count = u := by simpa [encRun] using hj
             exact d
theorem list_of_ownRuns {w : World} {base : Nat} {v : Value} {l : List RunD} (h : w.ownsRow base 73 3 v l.length (runCells l)) : ListAt encRun 3 w v l := by
  rcases h.2 with ⟨rfl, h0⟩ | ⟨g, cap, cur, rfl, hb, hg, hn, hc, hs, ht⟩
  · rw [← h0]; exact ⟨none, 0, by rw [h0], by omega, by unfold maxLen; omega, fun h => by omega⟩
  · refine ⟨_, cap, rfl, hn, hc, fun h0 => ⟨g, 0, rfl, (Array.getElem?_eq_some_iff.1 hg).1, fun i hi j u hj => ?_⟩⟩
    obtain ⟨a1, a2, a3⟩ := runCells_at l i hi
    have hcell := h.cells (g := g) rfl
    have x0 := hcell _ _ a1
    have x1 := hcell _ _ a2
    have x2 := hcell _ _ a3
    simp only [Addr.add_lit] at x0 x1 x2
    match j, hj with
    | 0, hj => obtain rfl : Value.int .i64 l[i].off = u := by simpa [encRun] using hj
               exact x0
    | 1, hj => obtain rfl : Value.int .i64 l[i].page = u := by simpa [encRun] using hj
               exact x1
    | 2, hj => obtain rfl : Value.int .i64 l[i].count = u := by simpa [encRun] using hj
               exact x2

def endPageOf (size : Int) : Int := wrap64 (wrap64 (size + 512) - 1) / 512
def pageOk (r : RunD) : Bool := !(decide (r.page < 5) || decide (1024 - r.count < r.page))
/-- is it a good file, as the code asks it? -/
def fileGood (n : NodeD) : Bool :=
  decide (0 ≤ n.size ∧ n.size ≤ 262144) && decide (n.names.length = 0) && n.map.all okRun && decide (runsOf (itemsOf (tableOf n.map) 0 512 0) = n.map) && n.map.all pageOk && decide (itemsOf (tableOf n.map) 0 512 ((n.size + 511) / 512) = [])
/-- what fileOf leaves -/
def FilePost (w : World) (n : NodeD) : Ending → World → Prop := fun e w' =>
  if fileGood n = true then ∃ s t r mid leaf many, e = .returned (.pointer (some ⟨s, 0, none⟩)) ∧ Blk w' s 83 #[.int .i64 1, .int .i64 n.size, .pointer (some ⟨t, 0, none⟩), .pointer none] ∧ RadixAt w' t r mid leaf (tableOf n.map) many ∧
      w.heap.size ≤ s ∧ (∀ g, TreeB t r mid leaf g → w.heap.size ≤ g ∧ g ≠ s) ∧ Mod None_ w w'
  else e = .returned (.pointer none) ∧ Mod None_ w w'

theorem endPage_any (n : Int) (w : World) (h0 : 0 ≤ n) (h1 : n ≤ 262144) : Calls Tryz.prog 63 #[.int .i64 n] w fun e w' => e = .returned (.int .i64 ((n + 511) / 512)) ∧ w = w' := by
  have e : n + 512 - 1 = n + 511 := by omega
  have E := hide e
  clear e
  go_enter Tryz.func63, Tryz.ntmps63
  go_wp2
  go_ret
  rw [E.out]
  simp
end Go.Proofs.YtabebkffcmajkaaGreatDoor

/-! Walk: fileOf. -/
namespace Go.Proofs.YtabebkffcmajkaaGreatDoor
open Go.RowKit Go.Maps Go.Shelf
attribute [local go_sem] quietV loudUpon Oper.semAt_some

theorem file_bad {w w' : World} {n : NodeD} (h : fileGood n = false) (hm : Mod None_ w w') : FilePost w n (.returned (.pointer none)) w' := by
  unfold FilePost; rw [if_neg (by rw [h]; simp)]; exact ⟨rfl, hm⟩
theorem file_bad_size {n : NodeD} (h : ¬ (0 ≤ n.size ∧ n.size ≤ 262144)) : fileGood n = false := by unfold fileGood; simp [h]
theorem file_bad_names {n : NodeD} (h : n.names.length ≠ 0) : fileGood n = false := by unfold fileGood; simp [h]
theorem file_bad_load {n : NodeD} (h : ¬ n.map.all okRun = true) : fileGood n = false := by unfold fileGood; simp only [Bool.not_eq_true] at h; rw [h]; simp
theorem file_bad_runs {n : NodeD} (h : ¬ runsOf (itemsOf (tableOf n.map) 0 512 0) = n.map) : fileGood n = false := by unfold fileGood; rw [decide_eq_false h]; simp
theorem file_bad_page {n : NodeD} (h : ¬ n.map.all pageOk = true) : fileGood n = false := by unfold fileGood; simp only [Bool.not_eq_true] at h; rw [h]; simp
theorem file_bad_end {n : NodeD} (h : ¬ itemsOf (tableOf n.map) 0 512 ((n.size + 511) / 512) = []) : fileGood n = false := by unfold fileGood; rw [decide_eq_false h]; simp
theorem file_ok {n : NodeD} (h1 : 0 ≤ n.size ∧ n.size ≤ 262144) (h2 : n.names.length = 0) (h3 : n.map.all okRun = true) (h4 : runsOf (itemsOf (tableOf n.map) 0 512 0) = n.map) (h5 : n.map.all pageOk = true)
    (h6 : itemsOf (tableOf n.map) 0 512 ((n.size + 511) / 512) = []) : fileGood n = true := by unfold fileGood; rw [decide_eq_true h1, decide_eq_true h2, h3, decide_eq_true h4, h5, decide_eq_true h6]; rfl

set_option maxRecDepth 100000 in
set_option maxHeartbeats 8000000 in
theorem file_any (w : World) (n : NodeD) (vm vn vl : Value) (h : NodeAt w n vm vn vl) : Calls Tryz.prog 38 #[.agg (nodeC n vm vn vl)] w (FilePost w n) := by
  obtain ⟨An, cn, rfl, hcn1, hcn2, _⟩ := id h.names
  obtain ⟨Am, cm, rfl, hcm1, hcm2, hml, _, _⟩ := id h.map
  obtain ⟨hs1, hs2⟩ := h.size
  have HN := hide h
  have hnl := h.nlen
  clear h
  have hln : ∀ w, (Builtin.len_ #[31] 3 #[.slice An n.names.length cn]).run Tryz.prog w = .ok (.int .i64 n.names.length) w := fun w => by simp [Builtin.len_, run_underlying Tryz.underlying31]; rfl
  have hlm : ∀ w, (Builtin.len_ #[30] 3 #[.slice Am n.map.length cm]).run Tryz.prog w = .ok (.int .i64 n.map.length) w := fun w => by simp [Builtin.len_, run_underlying Tryz.underlying30]; rfl
  unfold nodeC
  refine calls_of_wp_marks 3 Tryz.func38 rfl ?_
  simp only [Tryz.ntmps38, List.size_toArray, List.length_cons, List.length_nil, Nat.reduceAdd, Nat.reduceSub, Array.replicate_succ, Array.replicate_zero, List.push_toArray, List.append_toArray, List.nil_append, List.cons_append]
  by_cases hsz : 0 ≤ n.size ∧ n.size ≤ 262144
  · by_cases hnm : n.names.length = 0
    · obtain ⟨hsa, hsb⟩ := hsz
      have d1 : ¬ n.size < 0 := by omega
      have d2 : decide (262144 < n.size) = false := decide_eq_false (by omega)
      have d3 : decide (0 < n.names.length) = false := decide_eq_false (by omega)
      have HNM := hide hnm
      clear hnm
      obtain ⟨m, hm⟩ : ∃ m, m = w.heap.size := ⟨_, rfl⟩
      obtain ⟨w1, hw1⟩ : ∃ w1, w1 = (w.alloc (.cells (nodeC n (.slice Am n.map.length cm) (.slice An n.names.length cn) vl) 34)).alloc (.cells #[.pointer none] 65) := ⟨_, rfl⟩
      have hM : Mod None_ w w1 := by rw [hw1]; exact ((Mod.refl _ w).alloc _).alloc _
      have b1 : Blk w1 m 34 (nodeC n (.slice Am n.map.length cm) (.slice An n.names.length cn) vl) := by rw [hw1, hm]; exact (Blk.new w 34 _).alloc _
      have b2 : Blk w1 (m + 1) 65 #[.pointer none] := by
        have := Blk.new (w.alloc (.cells (nodeC n (.slice Am n.map.length cm) (.slice An n.names.length cn) vl) 34)) 65 #[.pointer none]
        rw [← hw1, alloc_size, ← hm] at this
        exact this
      have hgem : w.heap.size ≤ m := by omega
      have hgem2 : m ≤ w.heap.size := by omega
      unfold nodeC at hw1
      have HW1 := hide hw1
      have HMM := hide hm
      clear hw1 hm
      go_wp2_with fail
      rw [← HW1.out, ← HMM.out]
      clear HW1 HMM
      have hN1 := HN.out.kept hM
      refine (load_any w1 _ _ hN1.map).mono ?_
      rintro e w2 hp
      unfold LoadPost at hp
      by_cases hall : n.map.all okRun = true
      · rw [if_pos hall] at hp
        obtain ⟨t, r, mid, leaf, many, rfl, hT, hTB, hm2⟩ := hp
        have hlt1 : m + 1 < w1.heap.size := b2.lt
        replace b1 := b1.mod hm2 (by first | exact id | omega | (unfold Ix; omega) | (unfold LateS Ix; omega))
        replace b2 := b2.mod hm2 (by first | exact id | omega | (unfold Ix; omega) | (unfold LateS Ix; omega))
        replace hM := hM.trans hm2
        have hN2 := hN1.kept hm2
        have HALL := hide hall
        clear hN1 hm2 hall
        go_upto_region 4 with fail
        go_cut [36] from 27 to 36 (fun s wx => s = .bool (!decide (runsOf (itemsOf (tableOf n.map) 0 512 0) = n.map)) ∧ RadixAt wx t r mid leaf (tableOf n.map) many ∧ NodeAt wx n (.slice Am n.map.length cm) (.slice An n.names.length cn) vl ∧ Mod None_ w wx ∧ Blk wx m 34 (nodeC n (.slice Am n.map.length cm) (.slice An n.names.length cn) vl) ∧ Blk wx (m + 1) 65 #[.pointer none])
        case first =>
          have c4 : w2.cell? ⟨m, 4, none⟩ = some (.slice Am n.map.length cm) := b1.cell 4
          refine region_mxw [(true, 0), (true, 1), (true, 2), (true, 3), (true, 5), (true, 6), (false, 4), (false, 7), (true, 8), (true, 9)] (fun w' => w'.cell? ⟨m, 4, none⟩ = some (.slice Am n.map.length cm)) (by kernel_rfl) (by kernel_rfl) ?_
          rintro w3 hw3
          have hm3 : Mod None_ w2 w3 := by rw [hw3]; exact (Mod.refl _ w2).drew
          replace b1 := b1.mod hm3 (by first | exact id | omega | (unfold Ix; omega) | (unfold LateS Ix; omega))
          replace b2 := b2.mod hm3 (by first | exact id | omega | (unfold Ix; omega) | (unfold LateS Ix; omega))
          replace hM := hM.trans hm3
          replace hT := hT.kept hm3
          replace hN2 := hN2.kept hm3
          replace c4 : w3.cell? ⟨m, 4, none⟩ = some (.slice Am n.map.length cm) := b1.cell 4
          have HR := hide (runs_any w3 t r mid leaf _ many hT)
          clear hw3 hm3
          refine ⟨c4, ?_⟩
          iterate 6 (refine mxw_quiet rfl (fun w' i1 K hK => by go_simp; exact hK) ?_; go_frame)
          refine mxw_loud rfl (fun K hK => ?_)
          go_simp
          refine Calls.mono HR.out ?_
          rintro e w4 ⟨v4, rfl, ho4, hm4⟩
          replace b1 := b1.mod hm4 (by first | exact id | omega | (unfold Ix; omega) | (unfold LateS Ix; omega))
          replace b2 := b2.mod hm4 (by first | exact id | omega | (unfold Ix; omega) | (unfold LateS Ix; omega))
          replace hM := hM.trans hm4
          replace hT := hT.kept hm4
          replace hN2 := hN2.kept hm4
          have c5 : w4.cell? ⟨m, 4, none⟩ = some (.slice Am n.map.length cm) := b1.cell 4
          have HE := hide (slicesEqRun w4 _ _ _ _ (list_of_ownRuns ho4) hN2.map.list)
          clear hm4 ho4 HR c4
          refine ⟨_, rfl, c5, hK _ _ ?_⟩
          clear hK K
          try go_frame
          refine mxw_loud rfl (fun K hK => ?_)
          go_simp
          refine Calls.mono HE.out ?_
          rintro e w5 ⟨rfl, hm5⟩
          replace b1 := b1.mod hm5 (by first | exact id | omega | (unfold Ix; omega) | (unfold LateS Ix; omega))
          replace b2 := b2.mod hm5 (by first | exact id | omega | (unfold Ix; omega) | (unfold LateS Ix; omega))
          replace hM := hM.trans hm5
          replace hT := hT.kept hm5
          replace hN2 := hN2.kept hm5
          have c6 : w5.cell? ⟨m, 4, none⟩ = some (.slice Am n.map.length cm) := b1.cell 4
          clear hm5 HE c5
          refine ⟨_, rfl, c6, hK _ _ ?_⟩
          clear hK K
          try go_frame
          iterate 2 (refine mxw_quiet rfl (fun w' i1 K hK => by go_simp; exact hK) ?_; go_frame)
          refine mxw_nil ?_
          go_wp2_with fail
          go_meet
          case rel => exact ⟨rfl, hT, hN2, hM, b1, b2⟩
        case rest =>
          obtain ⟨rfl, hT, hN2, hM, b1, b2⟩ := hcut

          have c2 : wc.cell? ⟨m + 1, 0, none⟩ = some (.pointer none) := b2.cell 0
          have f2 : wc.frozen? ⟨m + 1, 0, none⟩ = false := b2.frozen 0
          by_cases hru : runsOf (itemsOf (tableOf n.map) 0 512 0) = n.map
          · rw [decide_eq_true hru]
            rw [show (!true) = false from rfl]
            have c4 : wc.cell? ⟨m, 4, none⟩ = some (.slice Am n.map.length cm) := b1.cell 4
            have HRU := hide hru
            clear hru
            go_wp2_with fail
            go_loopw [40] (fun s wr => ∃ k : Nat, k ≤ n.map.length ∧ s = .int .i64 k ∧ (n.map.take k).all pageOk = true ∧ Mod None_ wc wr) (fun s _ => n.map.length - (intOf s).toNat)
            case atStart => exact ⟨0, Nat.zero_le _, rfl, rfl, Mod.refl _ _⟩
            obtain ⟨k, hk, rfl, hpg, hm⟩ := hrel
            have HPG := hide hpg
            clear hpg c2 f2 c4
            by_cases hlt : k < n.map.length
            · have hki : (k : Int) < n.map.length := by omega
              obtain ⟨_, _, hcv, _, _, _, hok, hcell⟩ := hN2.map
              simp only [Value.slice.injEq, true_and] at hcv
              obtain ⟨rfl, rfl⟩ := hcv
              obtain ⟨g, o, rfl, hg, hcell⟩ := hcell (by omega)
              obtain ⟨x0, x1, x2⟩ := hcell k hlt
              obtain ⟨_, ⟨hp1, hp2⟩, hn1, hn2⟩ := hok n.map[k] (List.getElem_mem hlt)
              have hoky := List.all_eq_true.1 HALL.out n.map[k] (List.getElem_mem hlt)
              have htk : n.map.take (k + 1) = n.map.take k ++ [n.map[k]] := List.take_succ_eq_append_getElem hlt
              have hall : n.map.all pageOk = true → pageOk n.map[k] = true := fun h => List.all_eq_true.1 h _ (List.getElem_mem hlt)
              obtain ⟨x, hx⟩ : ∃ x, x = n.map[k] := ⟨_, rfl⟩
              rw [← hx] at x0 x1 x2 hp1 hp2 hn1 hn2 hoky htk hall
              simp only [okRun, Bool.and_eq_true, decide_eq_true_eq] at hoky
              obtain ⟨⟨⟨q1, q2⟩, q3, q4⟩, q5⟩ := hoky
              have HTK := hide htk
              have HPA := hide hall
              replace x0 := (World.cell?_of_block (hm.block g hg id)).trans x0
              replace x1 := (World.cell?_of_block (hm.block g hg id)).trans x1
              replace x2 := (World.cell?_of_block (hm.block g hg id)).trans x2
              obtain ⟨wa, hwa⟩ : ∃ wa, wa = wr.alloc (.cells #[.int .i64 x.off, .int .i64 x.page, .int .i64 x.count] 73) := ⟨_, rfl⟩
              have hma : Mod None_ wc wa := by rw [hwa]; exact hm.alloc _
              have b3 := (b2.mod hma id)
              have c3 : (wr.alloc (.cells #[.int .i64 x.off, .int .i64 x.page, .int .i64 x.count] 73)).cell? ⟨m + 1, 0, none⟩ = some (.pointer none) := by rw [← hwa]; exact b3.cell 0
              have f3 : (wr.alloc (.cells #[.int .i64 x.off, .int .i64 x.page, .int .i64 x.count] 73)).frozen? ⟨m + 1, 0, none⟩ = false := by rw [← hwa]; exact b3.frozen 0
              have HWA := hide hwa
              clear hwa hcell hx htk hall hok
              by_cases hpk : pageOk x = true
              · have hpk2 := hpk
                simp only [pageOk, Bool.not_eq_true', Bool.or_eq_false_iff, decide_eq_false_iff_not] at hpk2
                obtain ⟨p1, p2⟩ := hpk2
                have d5 : ¬ x.page < 5 := p1
                have d6 : decide (1024 - x.count < x.page) = false := decide_eq_false p2
                have HK := hide hpk
                clear hpk p1 p2
                go_wp2_with fail
                rw [← HWA.out]
                go_roundw
                case rel => exact ⟨k + 1, by omega, by simp, by rw [HTK.out, List.all_append, HPG.out]; simp [HK.out], hma⟩
                case measure => simp [intOf]; omega
              · have HB := hide (file_bad_page (fun h => hpk (HPA.out h)))
                have HM3 := hide (show Mod None_ w (wa.setCell ⟨m + 1, 0, none⟩ (.pointer none)) from (hM.trans hma).setCell (p := ⟨m + 1, 0, none⟩) (.inl (by show w.heap.size ≤ m + 1; omega)) _)
                have b4 : Blk (wa.setCell ⟨m + 1, 0, none⟩ (.pointer none)) (m + 1) 65 #[.pointer none] := by simpa using b3.set_ 0 (.pointer none)
                have HB4 := hide b4
                clear b4 b3 hma
                by_cases p1 : x.page < 5
                · clear hpk
                  go_wp2
                  rw [← HWA.out]
                  have hc := HB4.out.cell 0
                  refine ⟨.pointer none, ?_, file_bad HB.out HM3.out⟩
                  simp [results, Tryz.results38, go_sem, hc]
                · have d6 : decide (1024 - x.count < x.page) = true := by
                    refine decide_eq_true ?_
                    simp only [pageOk, Bool.not_eq_true', Bool.not_eq_false, Bool.or_eq_true, decide_eq_true_eq] at hpk
                    rcases hpk with h | h
                    · exact absurd h p1
                    · exact h
                  clear hpk
                  go_wp2
                  rw [← HWA.out]
                  have hc := HB4.out.cell 0
                  refine ⟨.pointer none, ?_, file_bad HB.out HM3.out⟩
                  simp [results, Tryz.results38, go_sem, hc]
            obtain rfl : k = n.map.length := by omega
            have hkn : ¬ (n.map.length : Int) < n.map.length := by omega
            have hpa := HPG.out
            rw [List.take_length] at hpa
            have HPA := hide hpa
            replace b1 := b1.mod hm (by first | exact id | omega | (unfold Ix; omega) | (unfold LateS Ix; omega))
            replace b2 := b2.mod hm (by first | exact id | omega | (unfold Ix; omega) | (unfold LateS Ix; omega))
            replace hM := hM.trans hm
            replace hT := hT.kept hm
            have c3 : wr.cell? ⟨m, 3, none⟩ = some (.int .i64 n.size) := b1.cell 3
            clear hm hpa HPG hlt
            go_wp2_with fail
            refine (endPage_any n.size wr hsa hsb).mono ?_
            rintro e w5 ⟨rfl, rfl⟩
            go_wp2_with fail
            refine (from_call wr t _).mono ?_
            rintro e w6 ⟨rfl, hw6⟩
            obtain ⟨mt, hmt⟩ : ∃ k, k = wr.heap.size := ⟨_, rfl⟩
            rw [← hmt]
            have hM6 : Mod None_ wr w6 := by rw [hw6]; exact ((Mod.refl _ wr).alloc _).alloc _
            have b3 : Blk w6 mt 80 #[.pointer (some ⟨t, 0, none⟩)] := by rw [hw6, hmt]; exact (Blk.new wr 80 _).alloc _
            have b4 : Blk w6 (mt + 1) 3 #[.int .i64 ((n.size + 511) / 512)] := by
              have := Blk.new (wr.alloc (.cells #[.pointer (some ⟨t, 0, none⟩)] 80)) 3 #[.int .i64 ((n.size + 511) / 512)]
              rw [← hw6, alloc_size, ← hmt] at this
              exact this
            replace b1 := b1.mod hM6 (by first | exact id | omega | (unfold Ix; omega) | (unfold LateS Ix; omega))
            replace b2 := b2.mod hM6 (by first | exact id | omega | (unfold Ix; omega) | (unfold LateS Ix; omega))
            replace hM := hM.trans hM6
            replace hT := hT.kept hM6
            clear hw6 hM6 hmt c3
            have hst := from_stops 2 w6 (KpR w6.heap.size) (fun W _ => KpR.refl _ W) (fun h k => h.trans k) (fun W W1 B g t cs hb hm hk hg hB => hk.same g _ _ _ (by have := hb.size; omega) hB) t r mid leaf (tableOf n.map) many ((n.size + 511) / 512) (mt + 1) mt hT (b4.cell 0) (b3.cell 0)
            have hmw : m < w6.heap.size := b1.lt
            have hmw1 : m + 1 < w6.heap.size := b2.lt
            obtain ⟨L, hL⟩ : ∃ L, L = itemsOf (tableOf n.map) 0 512 ((n.size + 511) / 512) := ⟨_, rfl⟩
            have HL := hide hL
            rw [← hL] at hst
            clear hL
            go_wp2_with fail
            refine wp_range_two 3 (by omega) (gf := 54) (lb := #[.pointer (some ⟨mt + 1, 0, none⟩), .pointer (some ⟨mt, 0, none⟩)]) rfl (enters_of Tryz.func54 (by kernel_rfl) rfl) hst (fun h k => h.trans k) (fun U l o o' hl h ho _ => KpR.putObj U l o o' h ho) (Below.refl _ _) (fun _ => rfl)
              (fun pre U => pre = [] ∧ Mod None_ w6 U) (fun c pre U => c = .ret ∧ pre ≠ [] ∧ Mod None_ w U ∧ Blk U (m + 1) 65 #[.pointer none]) 2 (fun U => L = [] ∧ Mod None_ w6 U) (fun U => L ≠ [] ∧ Mod None_ w U ∧ Blk U (m + 1) 65 #[.pointer none])
              (fun pre A B row h hg hr => ⟨h.1, mod_of_grown_own h.2 hg hr (Nat.le_refl _)⟩) (fun c pre A B row h hg hr => ⟨h.1, h.2.1, mod_of_grown_own h.2.2.1 hg hr (by have := hM.size; omega), blk_of_grown_own h.2.2.2 hg hr hmw1⟩)
              ⟨rfl, Mod.refl _ _⟩ ?done ?stop ?body ?rest ?rest2
            case done =>
              rintro xs U hxs h
              obtain rfl : L = xs := hxs.symm
              exact h
            case stop =>
              rintro c pre U hp h
              obtain ⟨rfl, h2, h3⟩ := h
              refine .inr ⟨rfl, fun e => h2 ?_, h3⟩
              rw [e] at hp
              exact List.prefix_nil.1 hp
            case body =>
              apply Exists.intro
              refine ⟨?_, ?_⟩
              · intro l x U K hK
                gi_wp2
                exact hK
              · rintro l pre x U ⟨hp, hm⟩ hlt
                replace b2 := b2.mod hm id
                have c2 : U.cell? ⟨m + 1, 0, none⟩ = some (.pointer none) := b2.cell 0
                have f2 : U.frozen? ⟨m + 1, 0, none⟩ = false := b2.frozen 0
                clear hst
                gi_wp2
                have hm4 : Mod (· = m + 1) U (U.setCell ⟨m + 1, 0, none⟩ (.pointer none)) := (Mod.refl (· = m + 1) U).setCell (p := ⟨m + 1, 0, none⟩) (.inr rfl) _
                refine ⟨KeepsFrom.of_mod hm4 (fun k h1 h2 e => by omega), rfl, by simp, (hM.trans hm).setCell (p := ⟨m + 1, 0, none⟩) (.inl (by show w.heap.size ≤ m + 1; omega)) _, ?_⟩
                simpa using b2.set_ 0 (.pointer none)
            case rest =>
              rintro D U hD ⟨hLn, hm⟩ hdf
              have hTl : ∀ g, TreeB t r mid leaf g → g < w6.heap.size := fun g hg => hT.lt hg
              have hUs := hm.size
              have hTw : ∀ g, TreeB t r mid leaf g → w.heap.size ≤ g := fun g hg => by have := hTB g hg; omega
              replace b1 := b1.mod hm (by first | exact id | omega | (unfold Ix; omega) | (unfold LateS Ix; omega))
              replace b2 := b2.mod hm (by first | exact id | omega | (unfold Ix; omega) | (unfold LateS Ix; omega))
              replace hM := hM.trans hm
              replace hT := hT.kept hm
              have hOK := hide (file_ok ⟨hsa, hsb⟩ HNM.out HALL.out HRU.out HPA.out (HL.out.symm.trans hLn))
              have c3 : U.cell? ⟨m, 3, none⟩ = some (.int .i64 n.size) := b1.cell 3
              have hltD := (Array.getElem?_eq_some_iff.1 hdf).1
              clear hm hst hLn HNM HALL HRU HPA HL
              obtain ⟨ms, hms⟩ : ∃ k, k = U.heap.size := ⟨_, rfl⟩
              obtain ⟨w7, hw7⟩ : ∃ w7, w7 = U.alloc (.cells #[.int .i64 1, .int .i64 n.size, .pointer (some ⟨t, 0, none⟩), .pointer none] 83) := ⟨_, rfl⟩
              have hmw7 : Mod None_ U w7 := by rw [hw7]; exact (Mod.refl _ U).alloc _
              have bs : Blk w7 ms 83 #[.int .i64 1, .int .i64 n.size, .pointer (some ⟨t, 0, none⟩), .pointer none] := by rw [hw7, hms]; exact Blk.new U 83 _
              have hlm : m + 1 < ms := by rw [hms]; exact b2.lt
              have hDm : D < ms := by omega
              have hdf7 : w7.heap[D]? = some (.deferred (some [])) := (hmw7.block D hltD id).trans hdf
              replace b2 := b2.mod hmw7 (by first | exact id | omega | (unfold Ix; omega) | (unfold LateS Ix; omega))
              replace hM := hM.trans hmw7
              replace hT := hT.kept hmw7
              have c2 : w7.cell? ⟨m + 1, 0, none⟩ = some (.pointer none) := b2.cell 0
              have f2 : w7.frozen? ⟨m + 1, 0, none⟩ = false := b2.frozen 0
              have HW7 := hide hw7
              have HMS := hide hms
              rw [hw7] at c2 f2
              clear hw7 hms
              go_wp2
              rw [← HMS.out, ← HW7.out]
              clear c2 f2 c3
              obtain ⟨w8, hw8⟩ : ∃ w8, w8 = w7.setCell ⟨m + 1, 0, none⟩ (.pointer (some ⟨ms, 0, none⟩)) := ⟨_, rfl⟩
              rw [← hw8]
              have hm8 : Mod (· = m + 1) w7 w8 := by rw [hw8]; exact (Mod.refl (· = m + 1) w7).setCell (p := ⟨m + 1, 0, none⟩) (.inr rfl) _
              have b5 : Blk w8 (m + 1) 65 #[.pointer (some ⟨ms, 0, none⟩)] := by rw [hw8]; simpa using b2.set_ 0 (.pointer (some ⟨ms, 0, none⟩))
              replace bs := bs.mod hm8 (by omega)
              have hgeT : ∀ g, TreeB t r mid leaf g → g ≠ m + 1 := fun g hg e => by have := hTB g hg; omega
              replace hT := hT.mod hm8 (fun g hg e => hgeT g hg e)
              have hdf8 : w8.heap[D]? = some (.deferred (some [])) := (hm8.block D (by have := hmw7.size; omega) (by omega)).trans hdf7
              have hm9 : Mod (· = D) w8 (w8.putObj D (.deferred none)) := (Mod.of_grown (grownBy_putObj' _ D _)).mono fun k _ e => by cases e; rfl
              replace bs := bs.mod hm9 (by omega)
              replace hT := hT.mod hm9 (fun g hg e => by have := hTl g hg; omega)
              replace b5 := b5.mod hm9 (by omega)
              have hwD : w.heap.size ≤ D := by omega
              have hm79 := hmw7.size
              have hM9 : Mod None_ w (w8.putObj D (.deferred none)) := (hM.trans' hm8 (fun k hk e => by omega)).trans' hm9 (fun k hk e => by omega)
              have hpost : FilePost w n (.returned (.pointer (some ⟨ms, 0, none⟩))) (w8.putObj D (.deferred none)) := by
                unfold FilePost
                rw [if_pos hOK.out]
                exact ⟨ms, t, r, mid, leaf, many, rfl, bs, hT, by omega, fun g hg => ⟨hTw g hg, fun e => by have := hTl g hg; omega⟩, hM9⟩
              have hc := b5.cell 0
              have HC := hide hc
              have HP := hide hpost
              have HD := hide hdf8
              refine ⟨by simp, .inl ⟨_, _, rfl, run_takeDeferred HD.out, ?_⟩⟩
              have hc := HC.out
              refine ⟨.pointer (some ⟨ms, 0, none⟩), ?_, HP.out⟩
              simp [results, Tryz.results38, go_sem, hc]
            case rest2 =>
              rintro D U hD ⟨hLn, hm, hb⟩ hdf
              have hB := file_bad_end (fun e => hLn (HL.out.trans e))
              have hm3 : Mod (· = D) U (U.putObj D (.deferred none)) := (Mod.of_grown (grownBy_putObj' _ D _)).mono fun k _ e => by cases e; rfl
              have hF := file_bad hB (hm.trans' hm3 (fun k hk e => by have := hM.size; omega))
              have hb3 := hb.mod hm3 (by omega)
              have HB := hide hb3
              have HF := hide hF
              have HD := hide hdf
              clear hF hB hm3 hb3 hb hm hdf hLn hst
              go_wp2
              have hc := HB.out.cell 0
              refine ⟨by simp, .inl ⟨_, _, rfl, run_takeDeferred HD.out, ?_⟩⟩
              refine ⟨.pointer none, ?_, HF.out⟩
              simp [results, Tryz.results38, go_sem, hc]
          · have HB := hide (file_bad_runs hru)
            rw [decide_eq_false hru]
            rw [show (!false) = true from rfl]
            clear hru hT hN2 b1
            have c2 : wc.cell? ⟨m + 1, 0, none⟩ = some (.pointer none) := b2.cell 0
            have f2 : wc.frozen? ⟨m + 1, 0, none⟩ = false := b2.frozen 0
            obtain ⟨w3, hw3⟩ : ∃ w3, w3 = wc.setCell ⟨m + 1, 0, none⟩ (.pointer none) := ⟨_, rfl⟩
            have hM3 : Mod None_ w w3 := by rw [hw3]; exact hM.setCell (p := ⟨m + 1, 0, none⟩) (.inl (by show w.heap.size ≤ m + 1; omega)) _
            have b3 : Blk w3 (m + 1) 65 #[.pointer none] := by rw [hw3]; simpa using b2.set_ 0 (.pointer none)
            have HW3 := hide hw3
            have HF := hide (file_bad HB.out hM3)
            have HB3 := hide b3
            clear hw3 hM3 b3 b2
            go_wp2
            rw [← HW3.out]
            have hc := HB3.out.cell 0
            refine ⟨.pointer none, ?_, HF.out⟩
            simp [results, Tryz.results38, go_sem, hc]
      · rw [if_neg hall] at hp
        obtain ⟨rfl, hm2⟩ := hp
        replace b2 := b2.mod hm2 (by first | exact id | omega | (unfold Ix; omega) | (unfold LateS Ix; omega))
        replace hM := hM.trans hm2
        have HB := hide (file_bad_load hall)
        clear hm2 hall hN1 b1
        go_wp2_with fail
        refine region_stw (by kernel_rfl) (by kernel_rfl) ?_
        rintro w4 hw4
        have hm4 : Mod None_ w2 w4 := by rw [hw4]; exact (Mod.refl _ w2).drew
        replace b2 := b2.mod hm4 (by first | exact id | omega | (unfold Ix; omega) | (unfold LateS Ix; omega))
        replace hM := hM.trans hm4
        clear hw4 hm4
        repeat (refine stw_step (fun K hK => ?_); go_simp; refine hK _ ?_; clear hK K)
        refine stw_nil ?_
        obtain ⟨w2, rfl⟩ : ∃ w2, w2 = w4 := ⟨_, rfl⟩
        have c2 : w2.cell? ⟨m + 1, 0, none⟩ = some (.pointer none) := b2.cell 0
        have f2 : w2.frozen? ⟨m + 1, 0, none⟩ = false := b2.frozen 0
        obtain ⟨w3, hw3⟩ : ∃ w3, w3 = w2.setCell ⟨m + 1, 0, none⟩ (.pointer none) := ⟨_, rfl⟩
        have hM3 : Mod None_ w w3 := by rw [hw3]; exact hM.setCell (p := ⟨m + 1, 0, none⟩) (.inl (by show w.heap.size ≤ m + 1; omega)) _
        have b3 : Blk w3 (m + 1) 65 #[.pointer none] := by rw [hw3]; simpa using b2.set_ 0 (.pointer none)
        have HW3 := hide hw3
        have HF := hide (file_bad HB.out hM3)
        have HB3 := hide b3
        clear hw3 hM3 b3 b2
        go_wp2
        rw [← HW3.out]
        have hc := HB3.out.cell 0
        refine ⟨.pointer none, ?_, HF.out⟩
        simp [results, Tryz.results38, go_sem, hc]
    · have d1 : decide (0 < n.names.length) = true := decide_eq_true (by omega)
      obtain ⟨hsa, hsb⟩ := hsz
      have hb := file_bad_names hnm
      have d2 : decide (262144 < n.size) = false := decide_eq_false (by omega)
      have HB := hide hb
      clear hb hnm
      have HM1 := hide (file_bad HB.out (((Mod.refl None_ w).alloc (.cells (nodeC n (.slice Am n.map.length cm) (.slice An n.names.length cn) vl) 34)).alloc (.cells #[.pointer none] 65)))
      go_wp2
      refine ⟨.pointer none, ?_, HM1.out⟩
      simp [results, Tryz.results38, go_sem]
  · have HB := hide (file_bad_size hsz)
    have HM1 := hide (file_bad HB.out (((Mod.refl None_ w).alloc (.cells (nodeC n (.slice Am n.map.length cm) (.slice An n.names.length cn) vl) 34)).alloc (.cells #[.pointer none] 65)))
    by_cases h0 : n.size < 0
    · clear hsz
      go_wp2
      refine ⟨.pointer none, ?_, HM1.out⟩
      simp [results, Tryz.results38, go_sem]
    · have d2 : decide (262144 < n.size) = true := decide_eq_true (by omega)
      clear hsz
      go_wp2
      refine ⟨.pointer none, ?_, HM1.out⟩
      simp [results, Tryz.results38, go_sem]
end Go.Proofs.YtabebkffcmajkaaGreatDoor

/-! Walks: empty, dirOf, senseOf. -/
namespace Go.Proofs.YtabebkffcmajkaaGreatDoor
open Go.RowKit Go.Maps Go.Shelf
attribute [local go_sem] quietV loudUpon Oper.semAt_some

theorem empty_dir (w : World) : Calls Tryz.prog 33 #[.int .i64 2] w fun e w' => e = .returned (.pointer (some ⟨w.heap.size + 4, 0, none⟩)) ∧
    Blk w' (w.heap.size + 4) 83 #[.int .i64 2, .int .i64 0, .pointer none, .pointer (some ⟨w.heap.size + 3, 0, none⟩)] ∧ IndexAt w' w.heap.size [] ∧ Mod None_ w w' := by
  go_enter Tryz.func33, Tryz.ntmps33
  go_wp2_with fail
  refine (new_any w).mono ?_
  rintro e w2 ⟨rfl, hI, hm, hs⟩
  go_wp2
  go_ret
  refine ⟨rfl, ?_, hI.kept ((Mod.refl _ w2).alloc _), hm.alloc _⟩
  have := Blk.new w2 83 #[.int .i64 2, .int .i64 0, .pointer none, .pointer (some ⟨w.heap.size + 3, 0, none⟩)]
  rw [hs] at this
  exact this

/-! ### what a directory's list means -/
def dirStep (acc : Option (List Row)) (x : ByteArray × Int) : Option (List Row) := acc.bind fun rows => if x.2 = 1 ∨ putErr rows 1 x.1 x.2 ≠ 0 then none else some (⟨1, x.1, x.2⟩ :: rows)
def dirRows (l : List (ByteArray × Int)) : Option (List Row) := l.foldl dirStep (some [])
theorem dirStep_none (l : List (ByteArray × Int)) : l.foldl dirStep none = none := by
  induction l with
  | nil => rfl
  | cons x l ih => exact ih
theorem dirRows_snoc (l : List (ByteArray × Int)) (x : ByteArray × Int) : dirRows (l ++ [x]) = dirStep (dirRows l) x := by unfold dirRows; rw [List.foldl_append]; rfl
theorem dirRows_bad {l : List (ByteArray × Int)} {k : Nat} {rows : List Row} (h : k < l.length) (hk : dirRows (l.take k) = some rows) (hb : l[k].2 = 1 ∨ putErr rows 1 l[k].1 l[k].2 ≠ 0) : dirRows l = none := by
  have e : l = l.take k ++ ([l[k]] ++ l.drop (k + 1)) := by simp
  have e2 : dirRows (l.take k ++ [l[k]]) = none := by rw [dirRows_snoc, hk]; simp only [dirStep, Option.bind_some]; rw [if_pos hb]
  have e3 : dirRows l = (l.drop (k + 1)).foldl dirStep (dirRows (l.take k ++ [l[k]])) := by
    conv => lhs; rw [e]
    unfold dirRows
    rw [← List.append_assoc, List.foldl_append]
  rw [e3, e2]; exact dirStep_none _
theorem dirRows_good {l : List (ByteArray × Int)} {k : Nat} {rows : List Row} (h : k < l.length) (hk : dirRows (l.take k) = some rows) (h1 : l[k].2 ≠ 1) (h2 : putErr rows 1 l[k].1 l[k].2 = 0) : dirRows (l.take (k + 1)) = some (⟨1, l[k].1, l[k].2⟩ :: rows) := by
  rw [List.take_succ_eq_append_getElem h, dirRows_snoc, hk]; simp only [dirStep, Option.bind_some]; rw [if_neg (fun h => h.elim h1 (fun g => g h2))]
def pairsOf (f : ByteArray → Int) (ns : List ByteArray) : List (ByteArray × Int) := ns.map fun s => (s, f s)
theorem pairsOf_length (f : ByteArray → Int) (ns : List ByteArray) : (pairsOf f ns).length = ns.length := by simp [pairsOf]
theorem list_of_ownDents {w : World} {base : Nat} {v : Value} {f : ByteArray → Int} {ns : List ByteArray} (h : w.ownsRow base 75 2 v ns.length (dentCells f ns)) : ListAt encDent 2 w v (pairsOf f ns) := by
  have hl := pairsOf_length f ns
  rcases h.2 with ⟨rfl, h0⟩ | ⟨g, cap, cur, rfl, hb, hg, hn, hc, hs, ht⟩
  · rw [← h0]; exact ⟨none, 0, by rw [hl, h0], by omega, by unfold maxLen; omega, fun h => by omega⟩
  · refine ⟨_, cap, by rw [hl], by omega, hc, fun h0 => ⟨g, 0, rfl, (Array.getElem?_eq_some_iff.1 hg).1, fun i hi j u hj => ?_⟩⟩
    have hi2 : i < ns.length := by omega
    have e : (pairsOf f ns)[i] = (ns[i], f ns[i]) := by simp [pairsOf]
    rw [e] at hj
    have hcell := h.cells (g := g) rfl
    match j, hj with
    | 0, hj =>
      obtain rfl : Value.string ns[i] = u := by simpa [encDent] using hj
      have a := dentCells_get f ns (i * 2) (by omega)
      have x := hcell (i * 2) (.string ns[i]) (by rw [a]; have e1 : i * 2 / 2 = i := by omega
                                                  have e2 : i * 2 % 2 = 0 := by omega
                                                  simp [e1, e2, encD])
      simpa [Addr.add_lit] using x
    | 1, hj =>
      obtain rfl : Value.int .i64 (f ns[i]) = u := by simpa [encDent] using hj
      have a := dentCells_get f ns (i * 2 + 1) (by omega)
      have x := hcell (i * 2 + 1) (.int .i64 (f ns[i])) (by rw [a]; have e1 : (i * 2 + 1) / 2 = i := by omega
                                                            have e2 : (i * 2 + 1) % 2 = 1 := by omega
                                                            simp [e1, e2, encD])
      simpa [Addr.add_lit] using x
def namesOf (rows : List Row) : List (ByteArray × Int) := pairsOf (findIno rows 1) (listNames rows 1)
def dirGood (n : NodeD) : Bool := decide (n.size = 0) && decide (n.map.length = 0) && (match dirRows n.names with | none => false | some rows => decide (namesOf rows = n.names))
def DirPost (w : World) (n : NodeD) : Ending → World → Prop := fun e w' =>
  if dirGood n = true then ∃ s b rows, e = .returned (.pointer (some ⟨s, 0, none⟩)) ∧ Blk w' s 83 #[.int .i64 2, .int .i64 0, .pointer none, .pointer (some ⟨b + 3, 0, none⟩)] ∧ IndexAt w' b rows ∧ dirRows n.names = some rows ∧
      w.heap.size ≤ b ∧ b + 3 < s ∧ Mod None_ w w'
  else e = .returned (.pointer none) ∧ Mod None_ w w'
theorem dir_bad {w w' : World} {n : NodeD} (h : dirGood n = false) (hm : Mod None_ w w') : DirPost w n (.returned (.pointer none)) w' := by
  unfold DirPost; rw [if_neg (by rw [h]; simp)]; exact ⟨rfl, hm⟩
theorem dir_bad_size {n : NodeD} (h : n.size ≠ 0) : dirGood n = false := by unfold dirGood; simp [h]
theorem dir_bad_map {n : NodeD} (h : n.map.length ≠ 0) : dirGood n = false := by unfold dirGood; simp [h]
theorem dir_bad_rows {n : NodeD} (h : dirRows n.names = none) : dirGood n = false := by unfold dirGood; rw [h]; simp
theorem dir_bad_names {n : NodeD} {rows : List Row} (h : dirRows n.names = some rows) (h2 : ¬ namesOf rows = n.names) : dirGood n = false := by unfold dirGood; rw [h]; simp [h2]
theorem dir_ok {n : NodeD} {rows : List Row} (h1 : n.size = 0) (h2 : n.map.length = 0) (h : dirRows n.names = some rows) (h3 : namesOf rows = n.names) : dirGood n = true := by unfold dirGood; rw [h]; simp [h1, h2, h3]

set_option maxRecDepth 100000 in
set_option maxHeartbeats 8000000 in
theorem dir_any (w : World) (n : NodeD) (vm vn vl : Value) (h : NodeAt w n vm vn vl) : Calls Tryz.prog 39 #[.agg (nodeC n vm vn vl)] w (DirPost w n) := by
  obtain ⟨An, cn, rfl, hcn1, hcn2, _⟩ := id h.names
  obtain ⟨Am, cm, rfl, hcm1, hcm2, hml, _, _⟩ := id h.map
  obtain ⟨hs1, hs2⟩ := h.size
  have HN := hide h
  have hnl := h.nlen
  clear h
  have hln : ∀ w, (Builtin.len_ #[31] 3 #[.slice An n.names.length cn]).run Tryz.prog w = .ok (.int .i64 n.names.length) w := fun w => by simp [Builtin.len_, run_underlying Tryz.underlying31]; rfl
  have hlm : ∀ w, (Builtin.len_ #[30] 3 #[.slice Am n.map.length cm]).run Tryz.prog w = .ok (.int .i64 n.map.length) w := fun w => by simp [Builtin.len_, run_underlying Tryz.underlying30]; rfl
  unfold nodeC
  refine calls_of_wp_marks 3 Tryz.func39 rfl ?_
  simp only [Tryz.ntmps39, List.size_toArray, List.length_cons, List.length_nil, Nat.reduceAdd, Nat.reduceSub, Array.replicate_succ, Array.replicate_zero, List.push_toArray, List.append_toArray, List.nil_append, List.cons_append]
  by_cases hsz : n.size = 0
  · by_cases hmp : n.map.length = 0
    · have d1 : (n.size != 0) = false := by simp [hsz]
      have d3 : decide (0 < n.map.length) = false := decide_eq_false (by omega)
      have HSZ := hide hsz
      have HMP := hide hmp
      clear hsz hmp
      obtain ⟨m, hm⟩ : ∃ m, m = w.heap.size := ⟨_, rfl⟩
      obtain ⟨w1, hw1⟩ : ∃ w1, w1 = w.alloc (.cells (nodeC n (.slice Am n.map.length cm) (.slice An n.names.length cn) vl) 34) := ⟨_, rfl⟩
      have hM : Mod None_ w w1 := by rw [hw1]; exact (Mod.refl _ w).alloc _
      have b1 : Blk w1 m 34 (nodeC n (.slice Am n.map.length cm) (.slice An n.names.length cn) vl) := by rw [hw1, hm]; exact Blk.new w 34 _
      have hs1' : w1.heap.size = m + 1 := by rw [hw1, hm]; simp
      have hgem : w.heap.size ≤ m := by omega
      have hgem2 : m ≤ w.heap.size := by omega
      unfold nodeC at hw1
      have HW1 := hide hw1
      have HMM := hide hm
      clear hw1 hm
      go_wp2_with fail
      rw [← HW1.out, ← HMM.out]
      clear HW1 HMM
      refine (empty_dir w1).mono ?_
      rintro e w2 ⟨rfl, bs, hI, hm2⟩
      rw [hs1'] at bs hI
      rw [hs1']
      replace b1 := b1.mod hm2 (by first | exact id | omega | (unfold Ix; omega) | (unfold LateS Ix; omega))
      replace hM := hM.trans hm2
      have c5 : w2.cell? ⟨m, 5, none⟩ = some (.slice An n.names.length cn) := b1.cell 5
      clear hm2
      go_wp2_with fail
      go_loopw [19] (fun s wr => ∃ (k : Nat) (rows : List Row), k ≤ n.names.length ∧ s = .int .i64 k ∧ dirRows (n.names.take k) = some rows ∧ rows.length = k ∧ Mod None_ w wr ∧ Blk wr m 34 (nodeC n (.slice Am n.map.length cm) (.slice An n.names.length cn) vl) ∧ Blk wr (m + 1 + 4) 83 #[.int .i64 2, .int .i64 0, .pointer none, .pointer (some ⟨m + 1 + 3, 0, none⟩)] ∧ IndexAt wr (m + 1) rows) (fun s _ => n.names.length - (intOf s).toNat)
      case atStart => exact ⟨0, [], Nat.zero_le _, rfl, rfl, rfl, hM, b1, bs, hI⟩
      clear c5 b1 bs hI hM
      obtain ⟨k, rows, hk, rfl, hrw, hrl, hM, b1, bs, hI⟩ := hrel
      by_cases hlt : k < n.names.length
      · have hki : (k : Int) < n.names.length := by omega
        obtain ⟨_, _, hcv, _, _, hcell⟩ := (HN.out.kept hM).names
        simp only [Value.slice.injEq, true_and] at hcv
        obtain ⟨rfl, rfl⟩ := hcv
        obtain ⟨g, o, rfl, hg, hcell⟩ := hcell (by omega)
        have x0 : wr.cell? ⟨g, o + k * 2, none⟩ = some (.string n.names[k].1) := hcell k hlt 0 (.string n.names[k].1) rfl
        have x1 : wr.cell? ⟨g, o + k * 2 + 1, none⟩ = some (.int .i64 n.names[k].2) := hcell k hlt 1 (.int .i64 n.names[k].2) rfl
        have hbad : (n.names[k].2 = 1 ∨ putErr rows 1 n.names[k].1 n.names[k].2 ≠ 0) → dirRows n.names = none := dirRows_bad hlt hrw
        have hgood : n.names[k].2 ≠ 1 → putErr rows 1 n.names[k].1 n.names[k].2 = 0 → dirRows (n.names.take (k + 1)) = some (⟨1, n.names[k].1, n.names[k].2⟩ :: rows) := dirRows_good hlt hrw
        obtain ⟨x, hx⟩ : ∃ x, x = n.names[k] := ⟨_, rfl⟩
        rw [← hx] at x0 x1 hbad hgood
        obtain ⟨ma, hma⟩ : ∃ k, k = wr.heap.size := ⟨_, rfl⟩
        obtain ⟨wa, hwa⟩ : ∃ wa, wa = wr.alloc (.cells #[.string x.1, .int .i64 x.2] 75) := ⟨_, rfl⟩
        have hmwa : Mod None_ wr wa := by rw [hwa]; exact (Mod.refl _ wr).alloc _
        have b5 : Blk wa ma 75 #[.string x.1, .int .i64 x.2] := by rw [hwa, hma]; exact Blk.new wr 75 _
        have hlma : m + 1 + 4 < ma := by rw [hma]; exact bs.lt
        replace b1 := b1.mod hmwa (by first | exact id | omega | (unfold Ix; omega) | (unfold LateS Ix; omega))
        replace bs := bs.mod hmwa (by first | exact id | omega | (unfold Ix; omega) | (unfold LateS Ix; omega))
        replace hM := hM.trans hmwa
        replace hI := hI.kept hmwa
        have HWA := hide hwa
        have HMA := hide hma
        have HGD := hide hgood
        clear hwa hcell hx hrw hmwa hma hgood
        go_wp2_with fail
        rw [← HMA.out, ← HWA.out]
        clear HMA HWA x0 x1
        by_cases hx1 : x.2 = 1
        · have HB := hide (dir_bad_rows (hbad (.inl hx1)))
          rw [hx1] at b5
          clear hbad hx1
          refine region_stw (by kernel_rfl) (by kernel_rfl) ?_
          rintro w4 hw4
          have hm4 : Mod None_ wa w4 := by rw [hw4]; exact (Mod.refl _ wa).drew
          replace b5 := b5.mod hm4 (by first | exact id | omega | (unfold Ix; omega) | (unfold LateS Ix; omega))
          replace hM := hM.trans hm4
          have c0 : w4.cell? ⟨ma, 0, none⟩ = some (.string x.1) := b5.cell 0
          have c1 : w4.cell? ⟨ma, 1, none⟩ = some (.int .i64 1) := b5.cell 1
          clear hw4 hm4
          repeat (refine stw_step (fun K hK => ?_); go_simp; refine hK _ ?_; clear hK K)
          refine stw_nil ?_
          have HF := hide (dir_bad HB.out hM)
          go_wp2
          refine ⟨.pointer none, ?_, HF.out⟩
          simp [results, Tryz.results39, go_sem]
        · have d5 : (x.2 == 1) = false := by simpa using hx1
          have hNX : x.2 ≠ 1 := hx1
          have HX := hide hNX
          clear hx1 hNX
          have c0 : wa.cell? ⟨ma, 0, none⟩ = some (.string x.1) := b5.cell 0
          have c1 : wa.cell? ⟨ma, 1, none⟩ = some (.int .i64 x.2) := b5.cell 1
          have c3 : wa.cell? ⟨m + 1 + 4, 3, none⟩ = some (.pointer (some ⟨m + 1 + 3, 0, none⟩)) := bs.cell 3
          refine region_mxw [(true, 0), (true, 1), (true, 2), (true, 3), (true, 4), (true, 5), (true, 6), (true, 7), (true, 8), (true, 9), (true, 10), (true, 11), (false, 12), (true, 13), (true, 14)] (fun w' => w'.cell? ⟨ma, 0, none⟩ = some (.string x.1) ∧ w'.cell? ⟨ma, 1, none⟩ = some (.int .i64 x.2) ∧ w'.cell? ⟨m + 1 + 4, 3, none⟩ = some (.pointer (some ⟨m + 1 + 3, 0, none⟩))) (by kernel_rfl) (by kernel_rfl) ?_
          rintro w3 hw3
          have hm3 : Mod None_ wa w3 := by rw [hw3]; exact (Mod.refl _ wa).drew
          replace b1 := b1.mod hm3 (by first | exact id | omega | (unfold Ix; omega) | (unfold LateS Ix; omega))
          replace bs := bs.mod hm3 (by first | exact id | omega | (unfold Ix; omega) | (unfold LateS Ix; omega))
          replace b5 := b5.mod hm3 (by first | exact id | omega | (unfold Ix; omega) | (unfold LateS Ix; omega))
          replace hM := hM.trans hm3
          replace hI := hI.kept hm3
          clear hw3 hm3 c0 c1 c3
          have HP := hide (put_any w3 (m + 1) rows 1 x.1 x.2 (by omega) hI)
          refine ⟨⟨b5.cell 0, b5.cell 1, bs.cell 3⟩, ?_⟩
          iterate 12 (refine mxw_quiet rfl (fun w' i1 K hK => by obtain ⟨i1, i2, i3⟩ := i1; go_simp; exact hK) ?_; go_frame)
          refine mxw_loud rfl (fun K hK => ?_)
          go_simp
          refine Calls.mono HP.out ?_
          rintro e w4 ⟨rfl, hm4, hI4⟩
          replace b1 := b1.mod hm4 (by first | exact id | omega | (unfold Ix; omega) | (unfold LateS Ix; omega))
          replace bs := bs.mod hm4 (by first | exact id | omega | (unfold Ix; omega) | (unfold LateS Ix; omega))
          replace b5 := b5.mod hm4 (by first | exact id | omega | (unfold Ix; omega) | (unfold LateS Ix; omega))
          replace hM := hM.trans' hm4 (fun k hk e => by first | exact e.elim | (unfold Ix at e; omega) | omega)
          clear hI HP
          refine ⟨_, rfl, ⟨b5.cell 0, b5.cell 1, bs.cell 3⟩, hK _ _ ?_⟩
          clear hK K hm4
          try go_frame
          by_cases hz : putErr rows 1 x.1 x.2 = 0
          · have d6 : (putErr rows 1 x.1 x.2 != 0) = false := by simp [hz]
            have hI5 : IndexAt w4 (m + 1) (⟨1, x.1, x.2⟩ :: rows) := by unfold putRows at hI4; rw [if_pos hz] at hI4; exact hI4
            have HZ := hide hz
            clear hz hI4
            iterate 2 (refine mxw_quiet rfl (fun w' i1 K hK => by go_simp; exact hK) ?_; go_frame)
            refine mxw_nil ?_
            go_wp2_with fail
            go_roundw
            case rel => exact ⟨k + 1, _, by omega, by simp, HGD.out HX.out HZ.out, by simp [hrl], hM, b1, bs, hI5⟩
            case measure => simp [intOf]; omega
          · have d6 : (putErr rows 1 x.1 x.2 != 0) = true := by simp [hz]
            have HF := hide (dir_bad (dir_bad_rows (hbad (.inr hz))) hM)
            clear hz hI4
            iterate 2 (refine mxw_quiet rfl (fun w' i1 K hK => by go_simp; exact hK) ?_; go_frame)
            refine mxw_nil ?_
            go_wp2
            refine ⟨.pointer none, ?_, HF.out⟩
            simp [results, Tryz.results39, go_sem]
      obtain rfl : k = n.names.length := by omega
      have hkn : ¬ (n.names.length : Int) < n.names.length := by omega
      rw [List.take_length] at hrw
      have HRW := hide hrw
      clear hrw hlt
      go_wp2_with fail
      have c3 : wr.cell? ⟨m + 1 + 4, 3, none⟩ = some (.pointer (some ⟨m + 1 + 3, 0, none⟩)) := bs.cell 3
      have c5 : wr.cell? ⟨m, 5, none⟩ = some (.slice An n.names.length cn) := b1.cell 5
      refine region_mxw [(true, 0), (true, 1), (true, 2), (true, 3), (true, 5), (true, 6), (false, 4), (false, 7), (true, 8)] (fun w' => w'.cell? ⟨m, 5, none⟩ = some (.slice An n.names.length cn) ∧ w'.cell? ⟨m + 1 + 4, 3, none⟩ = some (.pointer (some ⟨m + 1 + 3, 0, none⟩))) (by kernel_rfl) (by kernel_rfl) ?_
      rintro w3 hw3
      have hm3 : Mod None_ wr w3 := by rw [hw3]; exact (Mod.refl _ wr).drew
      replace b1 := b1.mod hm3 (by first | exact id | omega | (unfold Ix; omega) | (unfold LateS Ix; omega))
      replace bs := bs.mod hm3 (by first | exact id | omega | (unfold Ix; omega) | (unfold LateS Ix; omega))
      replace hM := hM.trans hm3
      replace hI := hI.kept hm3
      clear hw3 hm3 c3 c5
      have HP := hide (list_any w3 (m + 1) rows 1 (by have := HN.out.nlen; omega) (by rfl) hI)
      refine ⟨⟨b1.cell 5, bs.cell 3⟩, ?_⟩
      iterate 6 (refine mxw_quiet rfl (fun w' i1 K hK => by obtain ⟨i1, i2⟩ := i1; go_simp; exact hK) ?_; go_frame)
      refine mxw_loud rfl (fun K hK => ?_)
      go_simp
      refine Calls.mono HP.out ?_
      rintro e w4 ⟨v4, rfl, ho4, hm4⟩
      replace b1 := b1.mod hm4 (by first | exact id | omega | (unfold Ix; omega) | (unfold LateS Ix; omega))
      replace bs := bs.mod hm4 (by first | exact id | omega | (unfold Ix; omega) | (unfold LateS Ix; omega))
      replace hM := hM.trans hm4
      replace hI := hI.kept hm4
      have HE := hide (slicesEqDent w4 _ _ _ _ (list_of_ownDents ho4) (HN.out.kept hM).names)
      clear hm4 ho4 HP
      refine ⟨_, rfl, ⟨b1.cell 5, bs.cell 3⟩, hK _ _ ?_⟩
      clear hK K
      try go_frame
      refine mxw_loud rfl (fun K hK => ?_)
      go_simp
      refine Calls.mono HE.out ?_
      rintro e w5 ⟨rfl, hm5⟩
      replace b1 := b1.mod hm5 (by first | exact id | omega | (unfold Ix; omega) | (unfold LateS Ix; omega))
      replace bs := bs.mod hm5 (by first | exact id | omega | (unfold Ix; omega) | (unfold LateS Ix; omega))
      replace hM := hM.trans hm5
      replace hI := hI.kept hm5
      clear hm5 HE
      refine ⟨_, rfl, ⟨b1.cell 5, bs.cell 3⟩, hK _ _ ?_⟩
      clear hK K
      try go_frame
      have hnm : pairsOf (findIno rows 1) (listNames rows 1) = namesOf rows := rfl
      rw [hnm]
      clear hnm
      by_cases hq : namesOf rows = n.names
      · rw [decide_eq_true hq]
        have hok := dir_ok HSZ.out HMP.out HRW.out hq
        have hpost : DirPost w n (.returned (.pointer (some ⟨m + 1 + 4, 0, none⟩))) w5 := by
          unfold DirPost
          rw [if_pos hok]
          exact ⟨_, _, rows, rfl, bs, hI, HRW.out, by omega, by omega, hM⟩
        have HF := hide hpost
        clear hq hok hpost
        iterate 1 (refine mxw_quiet rfl (fun w' i1 K hK => by go_simp; exact hK) ?_; go_frame)
        refine mxw_nil ?_
        go_wp2
        refine ⟨.pointer (some ⟨m + 1 + 4, 0, none⟩), ?_, HF.out⟩
        simp [results, Tryz.results39, go_sem]
      · rw [decide_eq_false hq]
        have HF := hide (dir_bad (dir_bad_names HRW.out hq) hM)
        clear hq
        iterate 1 (refine mxw_quiet rfl (fun w' i1 K hK => by go_simp; exact hK) ?_; go_frame)
        refine mxw_nil ?_
        go_wp2
        refine ⟨.pointer none, ?_, HF.out⟩
        simp [results, Tryz.results39, go_sem]
    · have hM0 : Mod None_ w (w.alloc (.cells (nodeC n (.slice Am n.map.length cm) (.slice An n.names.length cn) vl) 34)) := (Mod.refl None_ w).alloc _
      have d1 : (n.size != 0) = false := by simp [hsz]
      have d3 : decide (0 < n.map.length) = true := decide_eq_true (by omega)
      have hb := dir_bad (dir_bad_map hmp) hM0
      unfold nodeC at hb
      have HB := hide hb
      clear hmp hM0 hb hsz
      go_wp2
      refine ⟨.pointer none, ?_, HB.out⟩
      simp [results, Tryz.results39, go_sem]
  · have hM0 : Mod None_ w (w.alloc (.cells (nodeC n (.slice Am n.map.length cm) (.slice An n.names.length cn) vl) 34)) := (Mod.refl None_ w).alloc _
    have d1 : (n.size != 0) = true := by simp [hsz]
    have hb := dir_bad (dir_bad_size hsz) hM0
    unfold nodeC at hb
    have HB := hide hb
    clear hsz hM0 hb
    go_wp2
    refine ⟨.pointer none, ?_, HB.out⟩
    simp [results, Tryz.results39, go_sem]
end Go.Proofs.YtabebkffcmajkaaGreatDoor

/-! Walk: senseOf. -/
namespace Go.Proofs.YtabebkffcmajkaaGreatDoor
open Go.RowKit Go.Maps Go.Shelf

theorem FilePost.up {w w1 w' : World} {n : NodeD} {e : Ending} (hm : Mod None_ w w1) (h : FilePost w1 n e w') : FilePost w n e w' := by
  have hs := hm.size
  unfold FilePost at h ⊢
  by_cases hg : fileGood n = true
  · rw [if_pos hg] at h ⊢
    obtain ⟨s, t, r, mid, leaf, many, rfl, hb, hT, h1, h2, h3⟩ := h
    exact ⟨s, t, r, mid, leaf, many, rfl, hb, hT, by omega, fun g hg => ⟨by have := (h2 g hg).1; omega, (h2 g hg).2⟩, hm.trans h3⟩
  · rw [if_neg hg] at h ⊢
    exact ⟨h.1, hm.trans h.2⟩
theorem DirPost.up {w w1 w' : World} {n : NodeD} {e : Ending} (hm : Mod None_ w w1) (h : DirPost w1 n e w') : DirPost w n e w' := by
  have hs := hm.size
  unfold DirPost at h ⊢
  by_cases hg : dirGood n = true
  · rw [if_pos hg] at h ⊢
    obtain ⟨s, b, rows, rfl, hb, hI, hr, h1, h2, h3⟩ := h
    exact ⟨s, b, rows, rfl, hb, hI, hr, by omega, h2, hm.trans h3⟩
  · rw [if_neg hg] at h ⊢
    exact ⟨h.1, hm.trans h.2⟩
/-- what senseOf leaves -/
def SensePost (w : World) (n : NodeD) : Ending → World → Prop := fun e w' =>
  if n.kind = 1 then FilePost w n e w' else if n.kind = 2 then DirPost w n e w' else e = .returned (.pointer none) ∧ Mod None_ w w'

theorem file_returns {w w' : World} {n : NodeD} {e : Ending} (h : FilePost w n e w') : ∃ v, e = .returned v := by
  unfold FilePost at h
  split at h
  · obtain ⟨s, t, r, mid, leaf, many, rfl, _⟩ := h; exact ⟨_, rfl⟩
  · exact ⟨_, h.1⟩
theorem dir_returns {w w' : World} {n : NodeD} {e : Ending} (h : DirPost w n e w') : ∃ v, e = .returned v := by
  unfold DirPost at h
  split at h
  · obtain ⟨s, b, rows, rfl, _⟩ := h; exact ⟨_, rfl⟩
  · exact ⟨_, h.1⟩

set_option maxRecDepth 100000 in
set_option maxHeartbeats 2000000 in
theorem sense_any (w : World) (n : NodeD) (vm vn vl : Value) (h : NodeAt w n vm vn vl) : Calls Tryz.prog 25 #[.agg (nodeC n vm vn vl)] w (SensePost w n) := by
  have hM : Mod None_ w (w.alloc (.cells (nodeC n vm vn vl) 34)) := (Mod.refl None_ w).alloc _
  have HF := hide (file_any _ n vm vn vl (h.kept hM))
  have HD := hide (dir_any _ n vm vn vl (h.kept hM))
  have HM := hide hM
  clear hM h
  by_cases h1 : n.kind = 1
  · have d1 : (n.kind == 1) = true := by simp [h1]
    have HP : Hid (∀ e w', FilePost w n e w' → SensePost w n e w') := hide fun e w' hp => by unfold SensePost; rw [if_pos h1]; exact hp
    clear h1
    unfold nodeC at HF HM ⊢
    go_enter Tryz.func25, Tryz.ntmps25
    go_wp2_with fail
    refine Calls.mono HF.out ?_
    rintro e w2 hp
    obtain ⟨v, rfl⟩ := file_returns hp
    have HQ := hide (HP.out _ _ (FilePost.up HM.out hp))
    clear hp
    go_wp2
    go_ret
    exact HQ.out
  · by_cases h2 : n.kind = 2
    · have d1 : (n.kind == 1) = false := by simp [h2]
      have d2 : (n.kind == 2) = true := by simp [h2]
      have HP : Hid (∀ e w', DirPost w n e w' → SensePost w n e w') := hide fun e w' hp => by unfold SensePost; rw [if_neg h1, if_pos h2]; exact hp
      clear h1 h2
      unfold nodeC at HD HM ⊢
      go_enter Tryz.func25, Tryz.ntmps25
      go_wp2_with fail
      refine Calls.mono HD.out ?_
      rintro e w2 hp
      obtain ⟨v, rfl⟩ := dir_returns hp
      have HQ := hide (HP.out _ _ (DirPost.up HM.out hp))
      clear hp
      go_wp2
      go_ret
      exact HQ.out
    · have d1 : (n.kind == 1) = false := by simpa using h1
      have d2 : (n.kind == 2) = false := by simpa using h2
      have HP := hide (show SensePost w n (.returned (.pointer none)) (w.alloc (.cells (nodeC n vm vn vl) 34)) from by unfold SensePost; rw [if_neg h1, if_neg h2]; exact ⟨rfl, HM.out⟩)
      clear h1 h2
      unfold nodeC at HP ⊢
      go_enter Tryz.func25, Tryz.ntmps25
      go_wp2
      go_ret
      exact HP.out

/-- a good node, and what it is then -/
def nodeGood (n : NodeD) : Bool := if n.kind = 1 then fileGood n else if n.kind = 2 then dirGood n else false
theorem sense_pages {w w' : World} {n : NodeD} {e : Ending} (h : SensePost w n e w') : Mod None_ w w' ∧
    (if nodeGood n = true then ∃ s k tp ip, e = .returned (.pointer (some ⟨s, 0, none⟩)) ∧ Blk w' s 83 #[.int .i64 k, .int .i64 n.size, tp, ip] ∧ w.heap.size ≤ s ∧
      (n.kind = 1 ∧ (∃ t r mid leaf many, tp = .pointer (some ⟨t, 0, none⟩) ∧ RadixAt w' t r mid leaf (tableOf n.map) many) ∨ n.kind = 2 ∧ tp = .pointer none) else e = .returned (.pointer none)) := by
  unfold SensePost at h
  unfold nodeGood
  by_cases h1 : n.kind = 1
  · rw [if_pos h1] at h ⊢
    unfold FilePost at h
    split at h
    · rename_i hg
      obtain ⟨s, t, r, mid, leaf, many, rfl, hb, hT, hs, _, hm⟩ := h
      rw [if_pos hg]
      exact ⟨hm, s, _, _, _, rfl, hb, hs, .inl ⟨h1, t, r, mid, leaf, many, rfl, hT⟩⟩
    · rename_i hg
      rw [if_neg hg]
      exact ⟨h.2, h.1⟩
  · rw [if_neg h1] at h ⊢
    by_cases h2 : n.kind = 2
    · rw [if_pos h2] at h ⊢
      unfold DirPost at h
      split at h
      · rename_i hg
        obtain ⟨s, b, rows, rfl, hb, hI, _, hs, hs2, hm⟩ := h
        rw [if_pos hg]
        have hz : n.size = 0 := by
          unfold dirGood at hg
          simp only [Bool.and_eq_true, decide_eq_true_eq] at hg
          exact hg.1.1
        rw [hz]
        exact ⟨hm, s, _, _, _, rfl, hb, by omega, .inr ⟨h2, rfl⟩⟩
      · rename_i hg
        rw [if_neg hg]
        exact ⟨h.2, h.1⟩
    · rw [if_neg h2] at h ⊢
      exact ⟨h.2, by simpa using h.1⟩
end Go.Proofs.YtabebkffcmajkaaGreatDoor

/-! Rows of any kind of element: appended to, read as lists. -/
namespace Go.Proofs.YtabebkffcmajkaaGreatDoor
open Go.RowKit Go.Maps Go.Shelf

def rowOf {α : Type} (enc : α → List Value) (l : List α) : List Value := l.flatMap enc
theorem rowOf_snoc {α : Type} (enc : α → List Value) (l : List α) (x : α) : rowOf enc (l ++ [x]) = rowOf enc l ++ enc x := by simp [rowOf]
theorem rowOf_length {α : Type} {enc : α → List Value} {sz : Nat} (he : ∀ x, (enc x).length = sz) (l : List α) : (rowOf enc l).length = l.length * sz := by
  induction l with
  | nil => simp [rowOf]
  | cons x l ih =>
    have e : rowOf enc (x :: l) = enc x ++ rowOf enc l := by simp [rowOf]
    rw [e, List.length_append, ih, he, List.length_cons, Nat.add_mul]
    omega
theorem rowOf_get {α : Type} {enc : α → List Value} {sz : Nat} (he : ∀ x, (enc x).length = sz) : ∀ (l : List α) (i : Nat) (h : i < l.length) (j : Nat), j < sz → (rowOf enc l)[i * sz + j]? = (enc l[i])[j]?
  | x :: l, 0, _, j, hj => by
    have e : rowOf enc (x :: l) = enc x ++ rowOf enc l := by simp [rowOf]
    rw [e, List.getElem?_append_left (by rw [he]; omega)]; simp
  | x :: l, i + 1, h, j, hj => by
    have e : rowOf enc (x :: l) = enc x ++ rowOf enc l := by simp [rowOf]
    have ih := rowOf_get he l i (by simpa using h) j hj
    rw [e, List.getElem?_append_right (by rw [he, Nat.add_mul]; omega), he]
    have e2 : (i + 1) * sz + j - sz = i * sz + j := by rw [Nat.add_mul]; omega
    rw [e2, ih]; simp
theorem list_of_ownRow {α : Type} {enc : α → List Value} {sz : Nat} (he : ∀ x, (enc x).length = sz) {w : World} {base : Nat} {e : TypeId} {v : Value} {l : List α} (h : w.ownsRow base e sz v l.length (rowOf enc l)) : ListAt enc sz w v l := by
  rcases h.2 with ⟨rfl, h0⟩ | ⟨g, cap, cur, rfl, hb, hg, hn, hc, hs, ht⟩
  · rw [← h0]; exact ⟨none, 0, by rw [h0], by omega, by unfold maxLen; omega, fun h => by omega⟩
  · refine ⟨_, cap, rfl, hn, hc, fun h0 => ⟨g, 0, rfl, (Array.getElem?_eq_some_iff.1 hg).1, fun i hi j u hj => ?_⟩⟩
    have hj2 : j < sz := by have := (List.getElem?_eq_some_iff.1 hj).1; rw [he] at this; exact this
    have x := h.cells (g := g) rfl (i * sz + j) u ((rowOf_get he l i hi j hj2).trans hj)
    simpa [Addr.add_lit] using x

theorem wpListIn_append_row {α : Type} (enc : α → List Value) (t e : TypeId) (z : Value) (sz bytes : Nat) (hu : Tryz.prog.underlying t = some (.slice e)) (hin : (Tryz.prog.info? e).map (fun i => (i.zero, i.size, i.bytes)) = some (some z, sz, bytes))
    (hzs : z.cells.size = sz) (hsz0 : 0 < sz) (he : ∀ x, (enc x).length = sz) (hone : ∀ x, ∀ u ∈ enc x, u.oneCell' = true)
    {F : Fence} {n : Nat} {ops : Array Oper} {rest : List Oper} {o : Oper} {a : Act} {w : World} {Q : Exit → Act → World → Prop} (hg : o.guard = none) (s x : Operand)
    (ho : o.op = .call { callee := .builtin .append, args := #[s, x], argTypes := #[t, t] }) (W : World) (base : Nat) (v : Value) (acc : List α) (p : α)
    (hw : w = W.alloc (.cells (enc p).toArray e)) (hs : a.eval s = v) (gx : Nat) (hgx : gx = W.heap.size) (hx : a.eval x = .slice (some ⟨gx, 0, none⟩) 1 1)
    (hown : W.ownsRow base e sz v acc.length (rowOf enc acc)) (hb : base ≤ W.heap.size) (hl : acc.length + 1 ≤ maxLen) (hl2 : (acc.length + 1) * bytes ≤ 140737488355328)
    (h : ∀ v' w', w'.ownsRow base e sz v' (acc ++ [p]).length (rowOf enc (acc ++ [p])) → Mod (fun k => some k = v.ownBlock) W w' → (v'.ownBlock = v.ownBlock ∨ v'.ownBlock = some (W.heap.size + 1)) → wpListIn F n Tryz.prog ops Q rest (a.put o.dst v') w') :
    wpListIn F n Tryz.prog ops Q (o :: rest) a w := by
  subst hgx
  obtain ⟨i0, hi, hz, hsz, hby⟩ := info_parts hin
  have hM : Mod None_ W w := by rw [hw]; exact (Mod.refl _ W).alloc _
  have hown1 := own_mod hown hM (fun _ _ f => f)
  have hB : Blk w W.heap.size e (enc p).toArray := by rw [hw]; exact Blk.new _ _ _
  obtain ⟨v', w', hrun, hown', hgr, _, hat⟩ := run_append_own_at (P := Tryz.prog) w base t o.type e i0 _ sz bytes hu hi hz hsz hby hzs hsz0 v acc.length _ hown1 ⟨W.heap.size, 0, none⟩ 1 1 (enc p) (by rw [he]; omega)
    (by
      intro j u hj
      rw [Addr.add_lit, Nat.zero_add, hB.cell]
      simpa using hj)
    (hone p) hl hl2 (by rw [hw, alloc_size]; omega)
  have hsw : w.heap.size = W.heap.size + 1 := by rw [hw, alloc_size]
  have ell : (acc ++ [p]).length = acc.length + 1 := by simp
  rw [← rowOf_snoc, ← ell] at hown'
  have hk := h v' w' hown' (hM.none.trans' (Mod.of_grown hgr) (fun k _ e => e)) (by rw [hsw] at hat; exact hat)
  refine wpListIn_plain hg fun K hK' => ?_
  unfold Oper.wpIn
  refine ⟨?_, ?_⟩
  · simp [Oper.about, ho, resolve, Target.leads, Sem.run_pure]
  · rw [Oper.semAt_plain F _ _ (by rw [ho]; intro c hc'; cases hc')]
    simp [execOp, ho, resolve, invoke, builtin, hs, hx, hrun, Result.andThen]
    exact hK' _ _ hk
theorem wpList_append_row {α : Type} (enc : α → List Value) (t e : TypeId) (z : Value) (sz bytes : Nat) (hu : Tryz.prog.underlying t = some (.slice e)) (hin : (Tryz.prog.info? e).map (fun i => (i.zero, i.size, i.bytes)) = some (some z, sz, bytes))
    (hzs : z.cells.size = sz) (hsz0 : 0 < sz) (he : ∀ x, (enc x).length = sz) (hone : ∀ x, ∀ u ∈ enc x, u.oneCell' = true)
    {ops : Array Oper} {rest : List Oper} {o : Oper} {a : Act} {w : World} {Q : Exit → Act → World → Prop} (hg : o.guard = none) (s x : Operand)
    (ho : o.op = .call { callee := .builtin .append, args := #[s, x], argTypes := #[t, t] }) (W : World) (base : Nat) (v : Value) (acc : List α) (p : α)
    (hw : w = W.alloc (.cells (enc p).toArray e)) (hs : a.eval s = v) (gx : Nat) (hgx : gx = W.heap.size) (hx : a.eval x = .slice (some ⟨gx, 0, none⟩) 1 1)
    (hown : W.ownsRow base e sz v acc.length (rowOf enc acc)) (hb : base ≤ W.heap.size) (hl : acc.length + 1 ≤ maxLen) (hl2 : (acc.length + 1) * bytes ≤ 140737488355328)
    (h : ∀ v' w', w'.ownsRow base e sz v' (acc ++ [p]).length (rowOf enc (acc ++ [p])) → Mod (fun k => some k = v.ownBlock) W w' → (v'.ownBlock = v.ownBlock ∨ v'.ownBlock = some (W.heap.size + 1)) → wpList Tryz.prog ops Q rest (a.put o.dst v') w') :
    wpList Tryz.prog ops Q (o :: rest) a w := by
  subst hgx
  obtain ⟨i0, hi, hz, hsz, hby⟩ := info_parts hin
  have hM : Mod None_ W w := by rw [hw]; exact (Mod.refl _ W).alloc _
  have hown1 := own_mod hown hM (fun _ _ f => f)
  have hB : Blk w W.heap.size e (enc p).toArray := by rw [hw]; exact Blk.new _ _ _
  obtain ⟨v', w', hrun, hown', hgr, _, hat⟩ := run_append_own_at (P := Tryz.prog) w base t o.type e i0 _ sz bytes hu hi hz hsz hby hzs hsz0 v acc.length _ hown1 ⟨W.heap.size, 0, none⟩ 1 1 (enc p) (by rw [he]; omega)
    (by
      intro j u hj
      rw [Addr.add_lit, Nat.zero_add, hB.cell]
      simpa using hj)
    (hone p) hl hl2 (by rw [hw, alloc_size]; omega)
  have hsw : w.heap.size = W.heap.size + 1 := by rw [hw, alloc_size]
  have ell : (acc ++ [p]).length = acc.length + 1 := by simp
  rw [← rowOf_snoc, ← ell] at hown'
  have hk := h v' w' hown' (hM.none.trans' (Mod.of_grown hgr) (fun k _ e => e)) (by rw [hsw] at hat; exact hat)
  refine wpList_plain hg fun K hK' => ?_
  unfold Oper.wp execOp
  simp only [ho, resolve, invoke, builtin, Sem.run_bind, Sem.run_pure, Result.andThen_ok, List.map_toArray, List.map_cons, List.map_nil, hs, hx, hrun]
  exact hK' _ _ hk
theorem mxw_append_row {α : Type} (enc : α → List Value) (t e : TypeId) (z : Value) (sz bytes : Nat) (hu : Tryz.prog.underlying t = some (.slice e)) (hin : (Tryz.prog.info? e).map (fun i => (i.zero, i.size, i.bytes)) = some (some z, sz, bytes))
    (hzs : z.cells.size = sz) (hsz0 : 0 < sz) (he : ∀ x, (enc x).length = sz) (hone : ∀ x, ∀ u ∈ enc x, u.oneCell' = true)
    {I : World → Prop} {Q : Act → World → Prop} {k : Nat} {o : Oper} {os : List Oper} {l : List (Bool × Nat)} {a : Act} {w : World} (hok : os[k]? = some o) (hg : o.guard = none) (s x : Operand)
    (ho : o.op = .call { callee := .builtin .append, args := #[s, x], argTypes := #[t, t] }) (W : World) (base : Nat) (v : Value) (acc : List α) (p : α)
    (hw : w = W.alloc (.cells (enc p).toArray e)) (hs : a.eval s = v) (gx : Nat) (hgx : gx = W.heap.size) (hx : a.eval x = .slice (some ⟨gx, 0, none⟩) 1 1)
    (hown : W.ownsRow base e sz v acc.length (rowOf enc acc)) (hb : base ≤ W.heap.size) (hl : acc.length + 1 ≤ maxLen) (hl2 : (acc.length + 1) * bytes ≤ 140737488355328)
    (h : ∀ v' w', w'.ownsRow base e sz v' (acc ++ [p]).length (rowOf enc (acc ++ [p])) → Mod (fun k => some k = v.ownBlock) W w' → (v'.ownBlock = v.ownBlock ∨ v'.ownBlock = some (W.heap.size + 1)) → I w' ∧ MxW Tryz.prog os.toArray I Q l (a.put o.dst v') w') :
    MxW Tryz.prog os.toArray I Q ((false, k) :: l) a w := by
  subst hgx
  obtain ⟨i0, hi, hz, hsz, hby⟩ := info_parts hin
  have hM : Mod None_ W w := by rw [hw]; exact (Mod.refl _ W).alloc _
  have hown1 := own_mod hown hM (fun _ _ f => f)
  have hB : Blk w W.heap.size e (enc p).toArray := by rw [hw]; exact Blk.new _ _ _
  obtain ⟨v', w', hrun, hown', hgr, _, hat⟩ := run_append_own_at (P := Tryz.prog) w base t o.type e i0 _ sz bytes hu hi hz hsz hby hzs hsz0 v acc.length _ hown1 ⟨W.heap.size, 0, none⟩ 1 1 (enc p) (by rw [he]; omega)
    (by
      intro j u hj
      rw [Addr.add_lit, Nat.zero_add, hB.cell]
      simpa using hj)
    (hone p) hl hl2 (by rw [hw, alloc_size]; omega)
  have hsw : w.heap.size = W.heap.size + 1 := by rw [hw, alloc_size]
  have ell : (acc ++ [p]).length = acc.length + 1 := by simp
  rw [← rowOf_snoc, ← ell] at hown'
  have hk := h v' w' hown' (hM.none.trans' (Mod.of_grown hgr) (fun k _ e => e)) (by rw [hsw] at hat; exact hat)
  refine mxw_val hok hg ?_ hk.1 hk.2
  unfold execOp
  simp only [ho, resolve, invoke, builtin, Sem.run_bind, Sem.run_pure, Result.andThen_ok, List.map_toArray, List.map_cons, List.map_nil, hs, hx, hrun]
/-- a list that lies in a variable of its own -/
def RowI {α : Type} (enc : α → List Value) (tS tE sz : Nat) (w0 : World) (bl : Nat) (l : List α) (W : World) : Prop :=
  ∃ v, Blk W bl tS #[v] ∧ W.ownsRow w0.heap.size tE sz v l.length (rowOf enc l) ∧ Mod (· = bl) w0 W
theorem RowI.grown {α : Type} {enc : α → List Value} {tS tE sz : Nat} {w0 : World} {bl : Nat} {l : List α} {A B : World} {row : Option Nat} (h : RowI enc tS tE sz w0 bl l A) (hbl : bl < w0.heap.size)
    (hg : A.grownBy B row) (hr : ∀ r, row = some r → w0.heap.size ≤ r ∧ ∃ o : Obj, A.heap[r]? = some o ∧ o.isCells = false) : RowI enc tS tE sz w0 bl l B := by
  obtain ⟨v, hv, hown, hM⟩ := h
  refine ⟨v, blk_of_grown_own hv hg hr (by omega), own_mod hown (Mod.of_grown hg) (fun g hg' e => ?_), mod_of_grown_own hM hg hr (Nat.le_refl _)⟩
  obtain ⟨_, o, ho, hoc⟩ := hr g e.symm
  obtain ⟨_, cur, hh⟩ := own_blk hown hg'
  rw [hh] at ho; cases ho; simp [Obj.isCells] at hoc
end Go.Proofs.YtabebkffcmajkaaGreatDoor

/-! Walk: Pages. -/
namespace Go.Proofs.YtabebkffcmajkaaGreatDoor
open Go.RowKit Go.Maps Go.Shelf
attribute [local go_sem] quietV loudUpon Oper.semAt_some

def pagesOf (n : NodeD) : List Int := if nodeGood n = true ∧ n.kind = 1 then (itemsOf (tableOf n.map) 0 512 0).map Prod.snd else []
theorem infoInt : (Tryz.prog.info? 3).map (fun i => (i.zero, i.size, i.bytes)) = some (some (.int .i64 0), 1, 8) := by kernel_rfl
theorem oneInt : ∀ (x : Int), ∀ u ∈ encInt x, u.oneCell' = true := by
  intro x u hu
  simp only [encInt, List.mem_singleton] at hu
  subst hu; rfl
def PagesPost (w : World) (n : NodeD) : Ending → World → Prop := fun e w' => ∃ v, e = .returned v ∧ ListAt encInt 1 w' v (pagesOf n) ∧ Mod None_ w w'
theorem pages_none {w w' : World} {n : NodeD} (h : ¬ (nodeGood n = true ∧ n.kind = 1)) (hm : Mod None_ w w') : PagesPost w n (.returned (.slice none 0 0)) w' := by
  unfold PagesPost pagesOf; rw [if_neg h]
  exact ⟨_, rfl, ⟨none, 0, rfl, Nat.le_refl _, by unfold maxLen; omega, fun h => by simp at h⟩, hm⟩

set_option maxRecDepth 100000 in
set_option maxHeartbeats 8000000 in
theorem pages_any (w : World) (n : NodeD) (vm vn vl : Value) (h : NodeAt w n vm vn vl) : Calls Tryz.prog 20 #[.agg (nodeC n vm vn vl)] w (PagesPost w n) := by
  have hM : Mod None_ w (w.alloc (.cells (nodeC n vm vn vl) 34)) := (Mod.refl None_ w).alloc _
  have HS := hide (sense_any _ n vm vn vl (h.kept hM))
  have HM := hide hM
  clear hM h
  refine calls_of_wp_marks 3 Tryz.func20 rfl ?_
  simp only [Tryz.ntmps20, List.size_toArray, List.length_cons, List.length_nil, Nat.reduceAdd, Nat.reduceSub, Array.replicate_succ, Array.replicate_zero, List.push_toArray, List.append_toArray, List.nil_append, List.cons_append]
  unfold nodeC at HM HS ⊢
  go_wp2_with fail
  refine Calls.mono HS.out ?_
  rintro e w2 hp
  obtain ⟨hm2, hp⟩ := sense_pages hp
  have hM := HM.out.trans hm2
  clear hm2 HM HS
  by_cases hg : nodeGood n = true
  · rw [if_pos hg] at hp
    obtain ⟨s, k, tp, ip, rfl, bs, hs, hk⟩ := hp
    rcases hk with ⟨hk1, t, r, mid, leaf, many, rfl, hT⟩ | ⟨hk2, rfl⟩
    · have hpo : pagesOf n = (itemsOf (tableOf n.map) 0 512 0).map Prod.snd := by unfold pagesOf; rw [if_pos ⟨hg, hk1⟩]
      have HPO := hide hpo
      clear hpo hk1 hg hs
      have c2 : w2.cell? ⟨s, 2, none⟩ = some (.pointer (some ⟨t, 0, none⟩)) := bs.cell 2
      obtain ⟨m, hm⟩ : ∃ m, m = w2.heap.size := ⟨_, rfl⟩
      obtain ⟨w4, hw4⟩ : ∃ w4, w4 = w2.alloc (.cells #[.slice none 0 0] 32) := ⟨_, rfl⟩
      have hm4 : Mod None_ w2 w4 := by rw [hw4]; exact (Mod.refl _ w2).alloc _
      have hs4 : w4.heap.size = m + 1 := by rw [hw4, hm]; simp
      have b0 : Blk w4 m 32 #[.slice none 0 0] := by rw [hw4, hm]; exact Blk.new w2 32 _
      have hgem : m = w2.heap.size := hm
      have HW4 := hide hw4
      have HM2 := hide hgem
      have c22 := c2
      rw [← (World.cell?_of_block (hm4.block s bs.lt id))] at c22
      rw [hw4] at c22
      clear hm hw4 hgem
      go_wp2_with fail
      rw [← HW4.out, ← HM2.out]
      refine (from_call w4 t 0).mono ?_
      rintro e w3 ⟨rfl, hw3⟩
      simp only [hs4]
      have hM3 : Mod None_ w4 w3 := by rw [hw3]; exact ((Mod.refl _ w4).alloc _).alloc _
      have b1 : Blk w3 (m + 1) 80 #[.pointer (some ⟨t, 0, none⟩)] := by
        have := (Blk.new w4 80 #[.pointer (some ⟨t, 0, none⟩)]).alloc (.cells #[.int .i64 0] 3)
        rw [← hw3, hs4] at this
        exact this
      have b2 : Blk w3 (m + 1 + 1) 3 #[.int .i64 0] := by
        have := Blk.new (w4.alloc (.cells #[.pointer (some ⟨t, 0, none⟩)] 80)) 3 #[.int .i64 0]
        rw [← hw3, alloc_size, hs4] at this
        exact this
      replace b0 := b0.mod hM3 id
      have hR3 := (hT.kept hm4).kept hM3
      have hM5 := (hM.trans hm4).trans hM3
      have hml : m < w3.heap.size := b0.lt
      have hgem : w.heap.size ≤ m := by rw [HM2.out]; exact hM.size
      clear hw3 hM hm4 hM3 bs c2 c22 hT HW4 HM2 hs4
      go_wp2_with fail
      have hno : ownerAt w3 m = none := by unfold ownerAt; rw [b0.cell 0]; rfl
      have hst := from_stops 2 w3 (KpO w3.heap.size m) (fun W _ => KpO.refl _ _ W) (fun h k => h.trans k) (keep_own hml hno) t r mid leaf (tableOf n.map) many 0 (m + 1 + 1) (m + 1) hR3 (b2.cell 0) (b1.cell 0)
      have hNl := itemsOf_length (tableOf n.map) 0 512 0
      obtain ⟨P, hP⟩ : ∃ P, P = itemsOf (tableOf n.map) 0 512 0 := ⟨_, rfl⟩
      have HP := hide hP
      rw [← hP] at hst hNl
      clear hP
      refine wp_range_mid 3 (by omega) (gf := 54) (lb := #[.pointer (some ⟨m + 1 + 1, 0, none⟩), .pointer (some ⟨m + 1, 0, none⟩)]) rfl (enters_of Tryz.func54 (by kernel_rfl) rfl) hst (fun h k => h.trans k) (fun U l o o' hl h ho _ => KpO.putObj U l o o' (by omega) h ho) (Below.refl _ _) (fun _ => rfl)
        (fun pre U => RowI encInt 32 3 1 w3 m (pre.map Prod.snd) U) (fun _ _ _ => False) 0 (RowI encInt 32 3 1 w3 m (P.map Prod.snd))
        (fun pre A B row h hg hr => h.grown hml hg hr) (fun c pre A B row h _ _ => h)
        ⟨_, b0, ⟨rfl, .inl ⟨rfl, rfl⟩⟩, Mod.refl _ _⟩ ?done ?stop ?body ?rest
      case done =>
        rintro xs U hxs h
        obtain rfl : P = xs := hxs.symm
        exact h
      case stop =>
        rintro c pre U hp h
        exact h.elim
      case body =>
        apply Exists.intro
        refine ⟨?_, ?_⟩
        · intro l x U K hK
          gi_wp2
          exact hK
        · rintro l pre x U ⟨v, hv, hown, hM⟩ hlt
          obtain ⟨A, c, rfl⟩ := own_slice hown
          have cl : U.cell? ⟨m, 0, none⟩ = some (.slice A (pre.map Prod.snd).length c) := hv.cell 0
          have hsn : (pre ++ [x]).map Prod.snd = pre.map Prod.snd ++ [x.2] := by simp
          have hln : (pre.map Prod.snd).length < P.length := by simpa using hlt
          obtain ⟨R, hR⟩ : ∃ R, R = pre.map Prod.snd := ⟨_, rfl⟩
          rw [← hR] at hv hown cl hsn hln
          have HSN := hide hsn
          have hbU : w3.heap.size ≤ U.heap.size := hM.size
          clear hR hsn hst hlt
          gi_wp2_with ((with_reducible refine at_slotIn 28 ?_); refine wpListIn_append_row encInt 32 3 (.int .i64 0) 1 8 Tryz.underlying32 infoInt rfl (by decide) (fun _ => rfl) oneInt rfl (.tmp 25) (.tmp 27) rfl U w3.heap.size (.slice A R.length c) R x.2 rfl rfl U.heap.size rfl rfl hown hbU (by unfold maxLen; omega) (by omega) ?_; intro v8 w8 hown8 hm8 hat8; obtain ⟨N8, hN8⟩ : ∃ N, N = (R ++ [x.2]).length := ⟨_, rfl⟩; rw [← hN8] at hown8; have HN8 := hide hN8; clear hN8; obtain ⟨A2, c2, rfl⟩ := own_slice hown8; go_frame
                       obtain ⟨k1, k2, k3, k4, k5⟩ := grown_keeps 32 3 1 (by omega) hbU hv hown hown8 hm8 hat8
                       have hv8 := hv.mod hm8 (fun e => by have := (own_blk hown e.symm).1; omega)
                       have cl8 : w8.cell? ⟨m, 0, none⟩ = some (.slice A R.length c) := hv8.cell 0
                       have cf8 : w8.frozen? ⟨m, 0, none⟩ = false := hv8.frozen 0
                       have L1 := hide k1
                       have L2 := hide k2
                       have L3 := hide k3
                       have L4 := hide k4
                       have L5 := hide k5
                       clear k1 k2 k3 k4 k5 hown8 hm8 hat8 hv8)
          refine ⟨L1.out, L2.out, _, L3.out, ?_, hM.trans' L5.out (fun k hk e => by omega)⟩
          rw [HSN.out]
          have hL4 := L4.out
          rw [HN8.out] at hL4 ⊢
          exact hL4
      case rest =>
        rintro D U hD ⟨v, hv, hown, hM⟩ hdf
        obtain ⟨A, c, rfl⟩ := own_slice hown
        have cl : U.cell? ⟨m, 0, none⟩ = some (.slice A (P.map Prod.snd).length c) := hv.cell 0
        have hm3 : Mod (· = D) U (U.putObj D (.deferred none)) := (Mod.of_grown (grownBy_putObj' _ D _)).mono fun k _ e => by cases e; rfl
        have hfin : Mod None_ w (U.putObj D (.deferred none)) := ((hM5.trans' hM (fun k hk e => by omega))).trans' hm3 (fun k hk e => by have := hM5.size; omega)
        have hown2 := own_mod hown hm3 (fun g hg e => by
          subst e
          obtain ⟨_, cur, hh⟩ := own_blk hown hg
          rw [hdf] at hh; cases hh)
        have hli := list_of_ownRow (enc := encInt) (fun _ => rfl) hown2
        have hpost : PagesPost w n (.returned (.slice A (P.map Prod.snd).length c)) (U.putObj D (.deferred none)) := by
          unfold PagesPost
          rw [HPO.out, ← HP.out]
          exact ⟨_, rfl, hli, hfin⟩
        have HF := hide hpost
        have HD := hide hdf
        clear hfin hown hown2 hm3 hM hv hst hdf b0 b1 b2 hli hpost
        dsimp only
        go_wp2
        refine ⟨by simp, .inl ⟨_, _, rfl, run_takeDeferred HD.out, ?_⟩⟩
        refine ⟨.slice A (P.map Prod.snd).length c, ?_, HF.out⟩
        simp [results, Tryz.results20, go_sem]
    · have HF := hide (pages_none (n := n) (w := w) (fun h => by omega) hM)
      have c2 : w2.cell? ⟨s, 2, none⟩ = some (.pointer none) := bs.cell 2
      clear hg hM hk2
      go_wp2
      refine ⟨_, ?_, HF.out⟩
      simp [results, Tryz.results20, go_sem]
  · rw [if_neg hg] at hp
    obtain rfl := hp
    have HF := hide (pages_none (n := n) (w := w) (fun h => hg h.1) hM)
    clear hg hM
    go_wp2
    refine ⟨_, ?_, HF.out⟩
    simp [results, Tryz.results20, go_sem]
end Go.Proofs.YtabebkffcmajkaaGreatDoor
