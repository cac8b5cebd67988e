import Derived.Test.YtabebkffcmajkaaR10
import Derived.Lib.Strings
import Derived.WideShapes
/-! Lists in slices, of any kind of element. -/
namespace Go.Proofs.Ytabebkffcmajkaa
open Go.RowKit Go.Maps Go.Shelf

/-- a slice that reads as a list -/
def ListAt {α : Type} (enc : α → List Value) (sz : Nat) (w : World) (v : Value) (l : List α) : Prop :=
  ∃ A c, v = .slice A l.length c ∧ l.length ≤ c ∧ c ≤ maxLen ∧ (0 < l.length → ∃ g o, A = some ⟨g, o, none⟩ ∧ g < w.heap.size ∧ ∀ i (h : i < l.length), w.rangeAt g (o + i * sz) (enc l[i]))
theorem ListAt.kept {α : Type} {enc : α → List Value} {sz : Nat} {w w' : World} {v : Value} {l : List α} (h : ListAt enc sz w v l) (hm : Mod None_ w w') : ListAt enc sz w' v l := by
  obtain ⟨A, c, h1, h2, h3, h4⟩ := h
  refine ⟨A, c, h1, h2, h3, fun h0 => ?_⟩
  obtain ⟨g, o, e, hg, hc⟩ := h4 h0
  exact ⟨g, o, e, Nat.lt_of_lt_of_le hg hm.size, fun i hi j u hj => (World.cell?_of_block (hm.block g hg id)).trans (hc i hi j u hj)⟩
def encRun (r : RunD) : List Value := [.int .i64 r.off, .int .i64 r.page, .int .i64 r.count]
def encDent (p : ByteArray × Int) : List Value := [.string p.1, .int .i64 p.2]
def encInt (n : Int) : List Value := [.int .i64 n]
structure EntD where
  kind : Int
  seq : Int
  off : Int
  count : Int
  page : Int
  size : Int
  ino : Int
  name : ByteArray
deriving DecidableEq
def encEntry (e : EntD) : List Value := [.int .i64 e.kind, .int .u64 e.seq, .int .i64 e.off, .int .i64 e.count, .int .i64 e.page, .int .i64 e.size, .int .i64 e.ino, .string e.name]

theorem ex_neqAgg {o : Oper} {a : Act} {w : World} {b : Bool} {t t2 : TypeId} {x y : Operand} {xs ys : Array Value} (h : o.op = .binOp .neq t x y t2) (hm : Try.prog.eqGuardType Try.prog.depth t = false) (hx : a.eval x = .agg xs) (hy : a.eval y = .agg ys)
    (hr : (binOp .neq t (.agg xs) (.agg ys)).run Try.prog w = .ok (.bool b) w) : (execOp a.eval o).run Try.prog w = .ok (.value (.bool b)) w := by
  unfold execOp; simp only [h, hx, hy]; simp [hr, run_eqGuard_agg w .neq t x y xs ys hm]
theorem guardRun : Try.prog.eqGuardType Try.prog.depth 51 = false := by kernel_rfl
theorem run_sameRun (p : RunD) (w : World) : (binOp .neq 51 (.agg (encRun p).toArray) (.agg (encRun p).toArray)).run Try.prog w = .ok (.bool false) w := by
  rcases p with ⟨a0, a1, a2⟩
  unfold encRun
  have h3 := Try.underlying3
  have h9 := Try.underlying9
  have h64 := Try.underlying44
  have hT := Try.underlying51
  go_simp
theorem run_diffRun (p q : RunD) (w : World) (h : p ≠ q) : (binOp .neq 51 (.agg (encRun p).toArray) (.agg (encRun q).toArray)).run Try.prog w = .ok (.bool true) w := by
  rcases p with ⟨a0, a1, a2⟩
  rcases q with ⟨b0, b1, b2⟩
  unfold encRun
  have h3 := Try.underlying3
  have h9 := Try.underlying9
  have h64 := Try.underlying44
  have hT := Try.underlying51
  by_cases e0 : a0 = b0
  · subst e0
    by_cases e1 : a1 = b1
    · subst e1
      by_cases e2 : a2 = b2
      · subst e2
        exact absurd rfl h
      · clear h
        go_simp
    · clear h
      go_simp
  · clear h
    go_simp

theorem guardDent : Try.prog.eqGuardType Try.prog.depth 49 = false := by kernel_rfl
theorem run_sameDent (p : ByteArray × Int) (w : World) : (binOp .neq 49 (.agg (encDent p).toArray) (.agg (encDent p).toArray)).run Try.prog w = .ok (.bool false) w := by
  rcases p with ⟨a0, a1⟩
  unfold encDent
  have h3 := Try.underlying3
  have h9 := Try.underlying9
  have h64 := Try.underlying44
  have hT := Try.underlying49
  go_simp
theorem run_diffDent (p q : ByteArray × Int) (w : World) (h : p ≠ q) : (binOp .neq 49 (.agg (encDent p).toArray) (.agg (encDent q).toArray)).run Try.prog w = .ok (.bool true) w := by
  rcases p with ⟨a0, a1⟩
  rcases q with ⟨b0, b1⟩
  unfold encDent
  have h3 := Try.underlying3
  have h9 := Try.underlying9
  have h64 := Try.underlying44
  have hT := Try.underlying49
  by_cases e0 : a0 = b0
  · subst e0
    by_cases e1 : a1 = b1
    · subst e1
      exact absurd rfl h
    · clear h
      go_simp
  · have et : ¬ a0.toList = b0.toList := fun e => e0 (by rw [Go.Lib.toList_data, Go.Lib.toList_data] at e; exact Go.WideShapes.bytes_inj e)
    clear h
    go_simp

theorem guardEntry : Try.prog.eqGuardType Try.prog.depth 46 = false := by kernel_rfl
theorem run_sameEntry (p : EntD) (w : World) : (binOp .neq 46 (.agg (encEntry p).toArray) (.agg (encEntry p).toArray)).run Try.prog w = .ok (.bool false) w := by
  rcases p with ⟨a0, a1, a2, a3, a4, a5, a6, a7⟩
  unfold encEntry
  have h3 := Try.underlying3
  have h9 := Try.underlying9
  have h64 := Try.underlying44
  have hT := Try.underlying46
  go_simp
theorem run_diffEntry (p q : EntD) (w : World) (h : p ≠ q) : (binOp .neq 46 (.agg (encEntry p).toArray) (.agg (encEntry q).toArray)).run Try.prog w = .ok (.bool true) w := by
  rcases p with ⟨a0, a1, a2, a3, a4, a5, a6, a7⟩
  rcases q with ⟨b0, b1, b2, b3, b4, b5, b6, b7⟩
  unfold encEntry
  have h3 := Try.underlying3
  have h9 := Try.underlying9
  have h64 := Try.underlying44
  have hT := Try.underlying46
  by_cases e0 : a0 = b0
  · subst e0
    by_cases e1 : a1 = b1
    · subst e1
      by_cases e2 : a2 = b2
      · subst e2
        by_cases e3 : a3 = b3
        · subst e3
          by_cases e4 : a4 = b4
          · subst e4
            by_cases e5 : a5 = b5
            · subst e5
              by_cases e6 : a6 = b6
              · subst e6
                by_cases e7 : a7 = b7
                · subst e7
                  exact absurd rfl h
                · have et : ¬ a7.toList = b7.toList := fun e => e7 (by rw [Go.Lib.toList_data, Go.Lib.toList_data] at e; exact Go.WideShapes.bytes_inj e)
                  clear h
                  go_simp
              · clear h
                go_simp
            · clear h
              go_simp
          · clear h
            go_simp
        · clear h
          go_simp
      · clear h
        go_simp
    · clear h
      go_simp
  · clear h
    go_simp
end Go.Proofs.Ytabebkffcmajkaa

/-! Walks: lists are compared. (Printed by mk_EQ.py.) -/
namespace Go.Proofs.Ytabebkffcmajkaa
open Go.RowKit Go.Maps Go.Shelf
attribute [local go_sem] quietV loudUpon Oper.semAt_some


set_option maxRecDepth 100000 in
set_option maxHeartbeats 1000000 in
theorem slicesEqRun (w : World) (v v' : Value) (l l' : List (RunD)) (h : ListAt encRun 3 w v l) (h' : ListAt encRun 3 w v' l') :
    Calls Try.prog 42 #[v, v'] w fun e w' => e = .returned (.bool (decide (l = l'))) ∧ Mod None_ w w' := by
  obtain ⟨A, c, rfl, hc1, hc2, hA⟩ := h
  obtain ⟨A', c', rfl, hc1', hc2', hA'⟩ := h'
  unfold maxLen at hc2 hc2'
  have hln : ∀ w, (Builtin.len_ #[22] 3 #[.slice A l.length c]).run Try.prog w = .ok (.int .i64 l.length) w := fun w => by simp [Builtin.len_, run_underlying Try.underlying22]; rfl
  have hln' : ∀ w, (Builtin.len_ #[22] 3 #[.slice A' l'.length c']).run Try.prog w = .ok (.int .i64 l'.length) w := fun w => by simp [Builtin.len_, run_underlying Try.underlying22]; rfl
  by_cases hlen : l.length = l'.length
  · have hb : ((l.length : Int) != l'.length) = false := by rw [bne_eq_false_iff_eq]; omega
    have HL := hide hlen
    have HA := hide hA
    have HA' := hide hA'
    clear hlen hA hA'
    go_enter Try.func42, Try.ntmps42
    go_wp2
    go_loopg [5, 13] l.length (fun n _ i wr => ∃ k : Nat, k + n = l.length ∧ i = .int .i64 k ∧ l.take k = l'.take k ∧ Mod None_ w wr)
    case atStart => exact ⟨0, by omega, rfl, rfl, Mod.refl _ _⟩
    obtain ⟨k, hk, rfl, ht, hm⟩ := hrel
    have HT := hide ht
    clear ht
    by_cases hlt : k < l.length
    · have hlt' : k < l'.length := by rw [← HL.out]; exact hlt
      obtain ⟨g, o, rfl, hg, hc⟩ := HA.out (by omega)
      obtain ⟨g', o', rfl, hg', hc'⟩ := HA'.out (by omega)
      have hx := hc k hlt
      have hy := hc' k hlt'
      obtain ⟨p, hp⟩ : ∃ p, p = l[k] := ⟨_, rfl⟩
      obtain ⟨q, hq⟩ : ∃ q, q = l'[k] := ⟨_, rfl⟩
      rw [← hp] at hx
      rw [← hq] at hy
      have HP := hide hp
      have HQ := hide hq
      clear hc hc' hp hq
      have hkl : (k : Int) < l.length := by omega
      have hkl' : (k : Int) < l'.length := by omega
      go_wp2_with fail
      refine region_stw (by kernel_rfl) (by kernel_rfl) ?_
      rintro w3 hw3
      have hm3 : Mod None_ w w3 := by rw [hw3]; exact hm.drew
      replace hx : w3.rangeAt g (o + k * 3) (encRun p) := fun j u hj => (World.cell?_of_block (hm3.block g hg id)).trans (hx j u hj)
      replace hy : w3.rangeAt g' (o' + k * 3) (encRun q) := fun j u hj => (World.cell?_of_block (hm3.block g' hg' id)).trans (hy j u hj)
      clear hw3 hm
      have hx0 := run_loadAt_mid w3 g (o + k * 3) 51 (encRun p) _ hx Try.underlying51 rfl (by kernel_rfl)
      have hy0 := run_loadAt_mid w3 g' (o' + k * 3) 51 (encRun q) _ hy Try.underlying51 rfl (by kernel_rfl)
      by_cases he : p = q
      · subst he
        have hne : (binOp .neq 51 (.agg (encRun p).toArray) (.agg (encRun p).toArray)).run Try.prog w3 = .ok (.bool false) w3 := run_sameRun p w3
        have HE : Hid (l.take (k + 1) = l'.take (k + 1)) := by
          refine hide ?_
          rw [List.take_succ_eq_append_getElem hlt, List.take_succ_eq_append_getElem hlt', HT.out, ← HP.out, ← HQ.out]
        clear hx hy
        iterate 3 (refine stw_step (fun K hK => ?_); go_simp; refine hK _ ?_; clear hK K)
        refine stw_val rfl (ex_load rfl hx0) ?_
        go_frame
        iterate 3 (refine stw_step (fun K hK => ?_); go_simp; refine hK _ ?_; clear hK K)
        refine stw_val rfl (ex_load rfl hy0) ?_
        go_frame
        refine stw_val rfl (ex_neqAgg rfl guardRun rfl rfl hne) ?_
        go_frame
        refine stw_nil ?_
        go_wp2
        go_roundg (gk - 1)
        case measure => omega
        case rel => exact ⟨k + 1, by omega, by go_num, HE.out, hm3⟩
      · have hno : decide (l = l') = false := by
          rw [decide_eq_false_iff_not]
          rintro rfl
          exact he (HP.out.trans HQ.out.symm)
        have HN := hide hno
        have hne : (binOp .neq 51 (.agg (encRun p).toArray) (.agg (encRun q).toArray)).run Try.prog w3 = .ok (.bool true) w3 := run_diffRun p q w3 he
        clear hno hx hy he
        iterate 3 (refine stw_step (fun K hK => ?_); go_simp; refine hK _ ?_; clear hK K)
        refine stw_val rfl (ex_load rfl hx0) ?_
        go_frame
        iterate 3 (refine stw_step (fun K hK => ?_); go_simp; refine hK _ ?_; clear hK K)
        refine stw_val rfl (ex_load rfl hy0) ?_
        go_frame
        refine stw_val rfl (ex_neqAgg rfl guardRun rfl rfl hne) ?_
        go_frame
        refine stw_nil ?_
        go_wp2
        go_ret
        exact ⟨by rw [HN.out]; rfl, hm3⟩
    · have he : decide (l = l') = true := by
        rw [decide_eq_true_eq]
        have := HT.out
        rwa [List.take_of_length_le (by omega), List.take_of_length_le (by have := HL.out; omega)] at this
      have HE := hide he
      have hkl : ¬ (k : Int) < l.length := by omega
      clear he
      go_wp2
      go_ret
      exact ⟨by rw [HE.out]; rfl, hm⟩
  · have hb : ((l.length : Int) != l'.length) = true := by rw [bne_iff_ne]; omega
    have hne : decide (l = l') = false := by rw [decide_eq_false_iff_not]; rintro rfl; exact hlen rfl
    have HN := hide hne
    clear hne hlen hA hA'
    go_enter Try.func42, Try.ntmps42
    go_wp2
    go_ret
    exact ⟨by rw [HN.out]; rfl, Mod.refl _ _⟩


set_option maxRecDepth 100000 in
set_option maxHeartbeats 1000000 in
theorem slicesEqDent (w : World) (v v' : Value) (l l' : List (ByteArray × Int)) (h : ListAt encDent 2 w v l) (h' : ListAt encDent 2 w v' l') :
    Calls Try.prog 47 #[v, v'] w fun e w' => e = .returned (.bool (decide (l = l'))) ∧ Mod None_ w w' := by
  obtain ⟨A, c, rfl, hc1, hc2, hA⟩ := h
  obtain ⟨A', c', rfl, hc1', hc2', hA'⟩ := h'
  unfold maxLen at hc2 hc2'
  have hln : ∀ w, (Builtin.len_ #[23] 3 #[.slice A l.length c]).run Try.prog w = .ok (.int .i64 l.length) w := fun w => by simp [Builtin.len_, run_underlying Try.underlying23]; rfl
  have hln' : ∀ w, (Builtin.len_ #[23] 3 #[.slice A' l'.length c']).run Try.prog w = .ok (.int .i64 l'.length) w := fun w => by simp [Builtin.len_, run_underlying Try.underlying23]; rfl
  by_cases hlen : l.length = l'.length
  · have hb : ((l.length : Int) != l'.length) = false := by rw [bne_eq_false_iff_eq]; omega
    have HL := hide hlen
    have HA := hide hA
    have HA' := hide hA'
    clear hlen hA hA'
    go_enter Try.func47, Try.ntmps47
    go_wp2
    go_loopg [5, 13] l.length (fun n _ i wr => ∃ k : Nat, k + n = l.length ∧ i = .int .i64 k ∧ l.take k = l'.take k ∧ Mod None_ w wr)
    case atStart => exact ⟨0, by omega, rfl, rfl, Mod.refl _ _⟩
    obtain ⟨k, hk, rfl, ht, hm⟩ := hrel
    have HT := hide ht
    clear ht
    by_cases hlt : k < l.length
    · have hlt' : k < l'.length := by rw [← HL.out]; exact hlt
      obtain ⟨g, o, rfl, hg, hc⟩ := HA.out (by omega)
      obtain ⟨g', o', rfl, hg', hc'⟩ := HA'.out (by omega)
      have hx := hc k hlt
      have hy := hc' k hlt'
      obtain ⟨p, hp⟩ : ∃ p, p = l[k] := ⟨_, rfl⟩
      obtain ⟨q, hq⟩ : ∃ q, q = l'[k] := ⟨_, rfl⟩
      rw [← hp] at hx
      rw [← hq] at hy
      have HP := hide hp
      have HQ := hide hq
      clear hc hc' hp hq
      have hkl : (k : Int) < l.length := by omega
      have hkl' : (k : Int) < l'.length := by omega
      go_wp2_with fail
      refine region_stw (by kernel_rfl) (by kernel_rfl) ?_
      rintro w3 hw3
      have hm3 : Mod None_ w w3 := by rw [hw3]; exact hm.drew
      replace hx : w3.rangeAt g (o + k * 2) (encDent p) := fun j u hj => (World.cell?_of_block (hm3.block g hg id)).trans (hx j u hj)
      replace hy : w3.rangeAt g' (o' + k * 2) (encDent q) := fun j u hj => (World.cell?_of_block (hm3.block g' hg' id)).trans (hy j u hj)
      clear hw3 hm
      have hx0 := run_loadAt_mid w3 g (o + k * 2) 49 (encDent p) _ hx Try.underlying49 rfl (by kernel_rfl)
      have hy0 := run_loadAt_mid w3 g' (o' + k * 2) 49 (encDent q) _ hy Try.underlying49 rfl (by kernel_rfl)
      by_cases he : p = q
      · subst he
        have hne : (binOp .neq 49 (.agg (encDent p).toArray) (.agg (encDent p).toArray)).run Try.prog w3 = .ok (.bool false) w3 := run_sameDent p w3
        have HE : Hid (l.take (k + 1) = l'.take (k + 1)) := by
          refine hide ?_
          rw [List.take_succ_eq_append_getElem hlt, List.take_succ_eq_append_getElem hlt', HT.out, ← HP.out, ← HQ.out]
        clear hx hy
        iterate 3 (refine stw_step (fun K hK => ?_); go_simp; refine hK _ ?_; clear hK K)
        refine stw_val rfl (ex_load rfl hx0) ?_
        go_frame
        iterate 3 (refine stw_step (fun K hK => ?_); go_simp; refine hK _ ?_; clear hK K)
        refine stw_val rfl (ex_load rfl hy0) ?_
        go_frame
        refine stw_val rfl (ex_neqAgg rfl guardDent rfl rfl hne) ?_
        go_frame
        refine stw_nil ?_
        go_wp2
        go_roundg (gk - 1)
        case measure => omega
        case rel => exact ⟨k + 1, by omega, by go_num, HE.out, hm3⟩
      · have hno : decide (l = l') = false := by
          rw [decide_eq_false_iff_not]
          rintro rfl
          exact he (HP.out.trans HQ.out.symm)
        have HN := hide hno
        have hne : (binOp .neq 49 (.agg (encDent p).toArray) (.agg (encDent q).toArray)).run Try.prog w3 = .ok (.bool true) w3 := run_diffDent p q w3 he
        clear hno hx hy he
        iterate 3 (refine stw_step (fun K hK => ?_); go_simp; refine hK _ ?_; clear hK K)
        refine stw_val rfl (ex_load rfl hx0) ?_
        go_frame
        iterate 3 (refine stw_step (fun K hK => ?_); go_simp; refine hK _ ?_; clear hK K)
        refine stw_val rfl (ex_load rfl hy0) ?_
        go_frame
        refine stw_val rfl (ex_neqAgg rfl guardDent rfl rfl hne) ?_
        go_frame
        refine stw_nil ?_
        go_wp2
        go_ret
        exact ⟨by rw [HN.out]; rfl, hm3⟩
    · have he : decide (l = l') = true := by
        rw [decide_eq_true_eq]
        have := HT.out
        rwa [List.take_of_length_le (by omega), List.take_of_length_le (by have := HL.out; omega)] at this
      have HE := hide he
      have hkl : ¬ (k : Int) < l.length := by omega
      clear he
      go_wp2
      go_ret
      exact ⟨by rw [HE.out]; rfl, hm⟩
  · have hb : ((l.length : Int) != l'.length) = true := by rw [bne_iff_ne]; omega
    have hne : decide (l = l') = false := by rw [decide_eq_false_iff_not]; rintro rfl; exact hlen rfl
    have HN := hide hne
    clear hne hlen hA hA'
    go_enter Try.func47, Try.ntmps47
    go_wp2
    go_ret
    exact ⟨by rw [HN.out]; rfl, Mod.refl _ _⟩


set_option maxRecDepth 100000 in
set_option maxHeartbeats 1000000 in
theorem refSameRuns (w : World) (v v' : Value) (l l' : List (RunD)) (h : ListAt encRun 3 w v l) (h' : ListAt encRun 3 w v' l') :
    Calls Try.prog 35 #[v, v'] w fun e w' => e = .returned (.bool (decide (l = l'))) ∧ Mod None_ w w' := by
  obtain ⟨A, c, rfl, hc1, hc2, hA⟩ := h
  obtain ⟨A', c', rfl, hc1', hc2', hA'⟩ := h'
  unfold maxLen at hc2 hc2'
  have hln : ∀ w, (Builtin.len_ #[22] 3 #[.slice A l.length c]).run Try.prog w = .ok (.int .i64 l.length) w := fun w => by simp [Builtin.len_, run_underlying Try.underlying22]; rfl
  have hln' : ∀ w, (Builtin.len_ #[22] 3 #[.slice A' l'.length c']).run Try.prog w = .ok (.int .i64 l'.length) w := fun w => by simp [Builtin.len_, run_underlying Try.underlying22]; rfl
  by_cases hlen : l.length = l'.length
  · have hb : ((l.length : Int) != l'.length) = false := by rw [bne_eq_false_iff_eq]; omega
    have HL := hide hlen
    have HA := hide hA
    have HA' := hide hA'
    clear hlen hA hA'
    go_enter Try.func35, Try.ntmps35
    go_wp2
    go_loopg [5] l.length (fun n i wr => ∃ k : Nat, k + n = l.length ∧ i = .int .i64 k ∧ l.take k = l'.take k ∧ Mod None_ w wr)
    case atStart => exact ⟨0, by omega, rfl, rfl, Mod.refl _ _⟩
    obtain ⟨k, hk, rfl, ht, hm⟩ := hrel
    have HT := hide ht
    clear ht
    by_cases hlt : k < l.length
    · have hlt' : k < l'.length := by rw [← HL.out]; exact hlt
      obtain ⟨g, o, rfl, hg, hc⟩ := HA.out (by omega)
      obtain ⟨g', o', rfl, hg', hc'⟩ := HA'.out (by omega)
      have hx := hc k hlt
      have hy := hc' k hlt'
      obtain ⟨p, hp⟩ : ∃ p, p = l[k] := ⟨_, rfl⟩
      obtain ⟨q, hq⟩ : ∃ q, q = l'[k] := ⟨_, rfl⟩
      rw [← hp] at hx
      rw [← hq] at hy
      have HP := hide hp
      have HQ := hide hq
      clear hc hc' hp hq
      have hkl : (k : Int) < l.length := by omega
      have hkl' : (k : Int) < l'.length := by omega
      go_wp2_with fail
      refine region_stw (by kernel_rfl) (by kernel_rfl) ?_
      rintro w3 hw3
      have hm3 : Mod None_ w w3 := by rw [hw3]; exact hm.drew
      replace hx : w3.rangeAt g (o + k * 3) (encRun p) := fun j u hj => (World.cell?_of_block (hm3.block g hg id)).trans (hx j u hj)
      replace hy : w3.rangeAt g' (o' + k * 3) (encRun q) := fun j u hj => (World.cell?_of_block (hm3.block g' hg' id)).trans (hy j u hj)
      clear hw3 hm
      have hx0 := run_loadAt_mid w3 g (o + k * 3) 51 (encRun p) _ hx Try.underlying51 rfl (by kernel_rfl)
      have hy0 := run_loadAt_mid w3 g' (o' + k * 3) 51 (encRun q) _ hy Try.underlying51 rfl (by kernel_rfl)
      by_cases he : p = q
      · subst he
        have hne : (binOp .neq 51 (.agg (encRun p).toArray) (.agg (encRun p).toArray)).run Try.prog w3 = .ok (.bool false) w3 := run_sameRun p w3
        have HE : Hid (l.take (k + 1) = l'.take (k + 1)) := by
          refine hide ?_
          rw [List.take_succ_eq_append_getElem hlt, List.take_succ_eq_append_getElem hlt', HT.out, ← HP.out, ← HQ.out]
        clear hx hy
        iterate 3 (refine stw_step (fun K hK => ?_); go_simp; refine hK _ ?_; clear hK K)
        refine stw_val rfl (ex_load rfl hx0) ?_
        go_frame
        iterate 3 (refine stw_step (fun K hK => ?_); go_simp; refine hK _ ?_; clear hK K)
        refine stw_val rfl (ex_load rfl hy0) ?_
        go_frame
        refine stw_val rfl (ex_neqAgg rfl guardRun rfl rfl hne) ?_
        go_frame
        refine stw_nil ?_
        go_wp2
        go_roundg (gk - 1)
        case measure => omega
        case rel => exact ⟨k + 1, by omega, by go_num, HE.out, hm3⟩
      · have hno : decide (l = l') = false := by
          rw [decide_eq_false_iff_not]
          rintro rfl
          exact he (HP.out.trans HQ.out.symm)
        have HN := hide hno
        have hne : (binOp .neq 51 (.agg (encRun p).toArray) (.agg (encRun q).toArray)).run Try.prog w3 = .ok (.bool true) w3 := run_diffRun p q w3 he
        clear hno hx hy he
        iterate 3 (refine stw_step (fun K hK => ?_); go_simp; refine hK _ ?_; clear hK K)
        refine stw_val rfl (ex_load rfl hx0) ?_
        go_frame
        iterate 3 (refine stw_step (fun K hK => ?_); go_simp; refine hK _ ?_; clear hK K)
        refine stw_val rfl (ex_load rfl hy0) ?_
        go_frame
        refine stw_val rfl (ex_neqAgg rfl guardRun rfl rfl hne) ?_
        go_frame
        refine stw_nil ?_
        go_wp2
        go_ret
        exact ⟨by rw [HN.out]; rfl, hm3⟩
    · have he : decide (l = l') = true := by
        rw [decide_eq_true_eq]
        have := HT.out
        rwa [List.take_of_length_le (by omega), List.take_of_length_le (by have := HL.out; omega)] at this
      have HE := hide he
      have hkl : ¬ (k : Int) < l.length := by omega
      clear he
      go_wp2
      go_ret
      exact ⟨by rw [HE.out]; rfl, hm⟩
  · have hb : ((l.length : Int) != l'.length) = true := by rw [bne_iff_ne]; omega
    have hne : decide (l = l') = false := by rw [decide_eq_false_iff_not]; rintro rfl; exact hlen rfl
    have HN := hide hne
    clear hne hlen hA hA'
    go_enter Try.func35, Try.ntmps35
    go_wp2
    go_ret
    exact ⟨by rw [HN.out]; rfl, Mod.refl _ _⟩

end Go.Proofs.Ytabebkffcmajkaa

/-! Walks: lists are compared. (Printed by mk_EQ.py.) -/
namespace Go.Proofs.Ytabebkffcmajkaa
open Go.RowKit Go.Maps Go.Shelf
attribute [local go_sem] quietV loudUpon Oper.semAt_some


set_option maxRecDepth 100000 in
set_option maxHeartbeats 1000000 in
theorem lawSameRuns (w : World) (v v' : Value) (l l' : List (RunD)) (h : ListAt encRun 3 w v l) (h' : ListAt encRun 3 w v' l') :
    Calls Try.prog 25 #[v, v'] w fun e w' => e = .returned (.bool (decide (l = l'))) ∧ Mod None_ w w' := by
  obtain ⟨A, c, rfl, hc1, hc2, hA⟩ := h
  obtain ⟨A', c', rfl, hc1', hc2', hA'⟩ := h'
  unfold maxLen at hc2 hc2'
  have hln : ∀ w, (Builtin.len_ #[22] 3 #[.slice A l.length c]).run Try.prog w = .ok (.int .i64 l.length) w := fun w => by simp [Builtin.len_, run_underlying Try.underlying22]; rfl
  have hln' : ∀ w, (Builtin.len_ #[22] 3 #[.slice A' l'.length c']).run Try.prog w = .ok (.int .i64 l'.length) w := fun w => by simp [Builtin.len_, run_underlying Try.underlying22]; rfl
  by_cases hlen : l.length = l'.length
  · have hb : ((l.length : Int) != l'.length) = false := by rw [bne_eq_false_iff_eq]; omega
    have HL := hide hlen
    have HA := hide hA
    have HA' := hide hA'
    clear hlen hA hA'
    go_enter Try.func25, Try.ntmps25
    go_wp2
    go_loopg [5] l.length (fun n i wr => ∃ k : Nat, k + n = l.length ∧ i = .int .i64 k ∧ l.take k = l'.take k ∧ Mod None_ w wr)
    case atStart => exact ⟨0, by omega, rfl, rfl, Mod.refl _ _⟩
    obtain ⟨k, hk, rfl, ht, hm⟩ := hrel
    have HT := hide ht
    clear ht
    by_cases hlt : k < l.length
    · have hlt' : k < l'.length := by rw [← HL.out]; exact hlt
      obtain ⟨g, o, rfl, hg, hc⟩ := HA.out (by omega)
      obtain ⟨g', o', rfl, hg', hc'⟩ := HA'.out (by omega)
      have hx := hc k hlt
      have hy := hc' k hlt'
      obtain ⟨p, hp⟩ : ∃ p, p = l[k] := ⟨_, rfl⟩
      obtain ⟨q, hq⟩ : ∃ q, q = l'[k] := ⟨_, rfl⟩
      rw [← hp] at hx
      rw [← hq] at hy
      have HP := hide hp
      have HQ := hide hq
      clear hc hc' hp hq
      have hkl : (k : Int) < l.length := by omega
      have hkl' : (k : Int) < l'.length := by omega
      go_wp2_with fail
      refine region_stw (by kernel_rfl) (by kernel_rfl) ?_
      rintro w3 hw3
      have hm3 : Mod None_ w w3 := by rw [hw3]; exact hm.drew
      replace hx : w3.rangeAt g (o + k * 3) (encRun p) := fun j u hj => (World.cell?_of_block (hm3.block g hg id)).trans (hx j u hj)
      replace hy : w3.rangeAt g' (o' + k * 3) (encRun q) := fun j u hj => (World.cell?_of_block (hm3.block g' hg' id)).trans (hy j u hj)
      clear hw3 hm
      have hx0 := run_loadAt_mid w3 g (o + k * 3) 51 (encRun p) _ hx Try.underlying51 rfl (by kernel_rfl)
      have hy0 := run_loadAt_mid w3 g' (o' + k * 3) 51 (encRun q) _ hy Try.underlying51 rfl (by kernel_rfl)
      by_cases he : p = q
      · subst he
        have hne : (binOp .neq 51 (.agg (encRun p).toArray) (.agg (encRun p).toArray)).run Try.prog w3 = .ok (.bool false) w3 := run_sameRun p w3
        have HE : Hid (l.take (k + 1) = l'.take (k + 1)) := by
          refine hide ?_
          rw [List.take_succ_eq_append_getElem hlt, List.take_succ_eq_append_getElem hlt', HT.out, ← HP.out, ← HQ.out]
        clear hx hy
        iterate 3 (refine stw_step (fun K hK => ?_); go_simp; refine hK _ ?_; clear hK K)
        refine stw_val rfl (ex_load rfl hx0) ?_
        go_frame
        iterate 3 (refine stw_step (fun K hK => ?_); go_simp; refine hK _ ?_; clear hK K)
        refine stw_val rfl (ex_load rfl hy0) ?_
        go_frame
        refine stw_val rfl (ex_neqAgg rfl guardRun rfl rfl hne) ?_
        go_frame
        refine stw_nil ?_
        go_wp2
        go_roundg (gk - 1)
        case measure => omega
        case rel => exact ⟨k + 1, by omega, by go_num, HE.out, hm3⟩
      · have hno : decide (l = l') = false := by
          rw [decide_eq_false_iff_not]
          rintro rfl
          exact he (HP.out.trans HQ.out.symm)
        have HN := hide hno
        have hne : (binOp .neq 51 (.agg (encRun p).toArray) (.agg (encRun q).toArray)).run Try.prog w3 = .ok (.bool true) w3 := run_diffRun p q w3 he
        clear hno hx hy he
        iterate 3 (refine stw_step (fun K hK => ?_); go_simp; refine hK _ ?_; clear hK K)
        refine stw_val rfl (ex_load rfl hx0) ?_
        go_frame
        iterate 3 (refine stw_step (fun K hK => ?_); go_simp; refine hK _ ?_; clear hK K)
        refine stw_val rfl (ex_load rfl hy0) ?_
        go_frame
        refine stw_val rfl (ex_neqAgg rfl guardRun rfl rfl hne) ?_
        go_frame
        refine stw_nil ?_
        go_wp2
        go_ret
        exact ⟨by rw [HN.out]; rfl, hm3⟩
    · have he : decide (l = l') = true := by
        rw [decide_eq_true_eq]
        have := HT.out
        rwa [List.take_of_length_le (by omega), List.take_of_length_le (by have := HL.out; omega)] at this
      have HE := hide he
      have hkl : ¬ (k : Int) < l.length := by omega
      clear he
      go_wp2
      go_ret
      exact ⟨by rw [HE.out]; rfl, hm⟩
  · have hb : ((l.length : Int) != l'.length) = true := by rw [bne_iff_ne]; omega
    have hne : decide (l = l') = false := by rw [decide_eq_false_iff_not]; rintro rfl; exact hlen rfl
    have HN := hide hne
    clear hne hlen hA hA'
    go_enter Try.func25, Try.ntmps25
    go_wp2
    go_ret
    exact ⟨by rw [HN.out]; rfl, Mod.refl _ _⟩


set_option maxRecDepth 100000 in
set_option maxHeartbeats 1000000 in
theorem lawSameDents (w : World) (v v' : Value) (l l' : List (ByteArray × Int)) (h : ListAt encDent 2 w v l) (h' : ListAt encDent 2 w v' l') :
    Calls Try.prog 26 #[v, v'] w fun e w' => e = .returned (.bool (decide (l = l'))) ∧ Mod None_ w w' := by
  obtain ⟨A, c, rfl, hc1, hc2, hA⟩ := h
  obtain ⟨A', c', rfl, hc1', hc2', hA'⟩ := h'
  unfold maxLen at hc2 hc2'
  have hln : ∀ w, (Builtin.len_ #[23] 3 #[.slice A l.length c]).run Try.prog w = .ok (.int .i64 l.length) w := fun w => by simp [Builtin.len_, run_underlying Try.underlying23]; rfl
  have hln' : ∀ w, (Builtin.len_ #[23] 3 #[.slice A' l'.length c']).run Try.prog w = .ok (.int .i64 l'.length) w := fun w => by simp [Builtin.len_, run_underlying Try.underlying23]; rfl
  by_cases hlen : l.length = l'.length
  · have hb : ((l.length : Int) != l'.length) = false := by rw [bne_eq_false_iff_eq]; omega
    have HL := hide hlen
    have HA := hide hA
    have HA' := hide hA'
    clear hlen hA hA'
    go_enter Try.func26, Try.ntmps26
    go_wp2
    go_loopg [5] l.length (fun n i wr => ∃ k : Nat, k + n = l.length ∧ i = .int .i64 k ∧ l.take k = l'.take k ∧ Mod None_ w wr)
    case atStart => exact ⟨0, by omega, rfl, rfl, Mod.refl _ _⟩
    obtain ⟨k, hk, rfl, ht, hm⟩ := hrel
    have HT := hide ht
    clear ht
    by_cases hlt : k < l.length
    · have hlt' : k < l'.length := by rw [← HL.out]; exact hlt
      obtain ⟨g, o, rfl, hg, hc⟩ := HA.out (by omega)
      obtain ⟨g', o', rfl, hg', hc'⟩ := HA'.out (by omega)
      have hx := hc k hlt
      have hy := hc' k hlt'
      obtain ⟨p, hp⟩ : ∃ p, p = l[k] := ⟨_, rfl⟩
      obtain ⟨q, hq⟩ : ∃ q, q = l'[k] := ⟨_, rfl⟩
      rw [← hp] at hx
      rw [← hq] at hy
      have HP := hide hp
      have HQ := hide hq
      clear hc hc' hp hq
      have hkl : (k : Int) < l.length := by omega
      have hkl' : (k : Int) < l'.length := by omega
      go_wp2_with fail
      refine region_stw (by kernel_rfl) (by kernel_rfl) ?_
      rintro w3 hw3
      have hm3 : Mod None_ w w3 := by rw [hw3]; exact hm.drew
      replace hx : w3.rangeAt g (o + k * 2) (encDent p) := fun j u hj => (World.cell?_of_block (hm3.block g hg id)).trans (hx j u hj)
      replace hy : w3.rangeAt g' (o' + k * 2) (encDent q) := fun j u hj => (World.cell?_of_block (hm3.block g' hg' id)).trans (hy j u hj)
      clear hw3 hm
      have hx0 := run_loadAt_mid w3 g (o + k * 2) 49 (encDent p) _ hx Try.underlying49 rfl (by kernel_rfl)
      have hy0 := run_loadAt_mid w3 g' (o' + k * 2) 49 (encDent q) _ hy Try.underlying49 rfl (by kernel_rfl)
      by_cases he : p = q
      · subst he
        have hne : (binOp .neq 49 (.agg (encDent p).toArray) (.agg (encDent p).toArray)).run Try.prog w3 = .ok (.bool false) w3 := run_sameDent p w3
        have HE : Hid (l.take (k + 1) = l'.take (k + 1)) := by
          refine hide ?_
          rw [List.take_succ_eq_append_getElem hlt, List.take_succ_eq_append_getElem hlt', HT.out, ← HP.out, ← HQ.out]
        clear hx hy
        iterate 3 (refine stw_step (fun K hK => ?_); go_simp; refine hK _ ?_; clear hK K)
        refine stw_val rfl (ex_load rfl hx0) ?_
        go_frame
        iterate 3 (refine stw_step (fun K hK => ?_); go_simp; refine hK _ ?_; clear hK K)
        refine stw_val rfl (ex_load rfl hy0) ?_
        go_frame
        refine stw_val rfl (ex_neqAgg rfl guardDent rfl rfl hne) ?_
        go_frame
        refine stw_nil ?_
        go_wp2
        go_roundg (gk - 1)
        case measure => omega
        case rel => exact ⟨k + 1, by omega, by go_num, HE.out, hm3⟩
      · have hno : decide (l = l') = false := by
          rw [decide_eq_false_iff_not]
          rintro rfl
          exact he (HP.out.trans HQ.out.symm)
        have HN := hide hno
        have hne : (binOp .neq 49 (.agg (encDent p).toArray) (.agg (encDent q).toArray)).run Try.prog w3 = .ok (.bool true) w3 := run_diffDent p q w3 he
        clear hno hx hy he
        iterate 3 (refine stw_step (fun K hK => ?_); go_simp; refine hK _ ?_; clear hK K)
        refine stw_val rfl (ex_load rfl hx0) ?_
        go_frame
        iterate 3 (refine stw_step (fun K hK => ?_); go_simp; refine hK _ ?_; clear hK K)
        refine stw_val rfl (ex_load rfl hy0) ?_
        go_frame
        refine stw_val rfl (ex_neqAgg rfl guardDent rfl rfl hne) ?_
        go_frame
        refine stw_nil ?_
        go_wp2
        go_ret
        exact ⟨by rw [HN.out]; rfl, hm3⟩
    · have he : decide (l = l') = true := by
        rw [decide_eq_true_eq]
        have := HT.out
        rwa [List.take_of_length_le (by omega), List.take_of_length_le (by have := HL.out; omega)] at this
      have HE := hide he
      have hkl : ¬ (k : Int) < l.length := by omega
      clear he
      go_wp2
      go_ret
      exact ⟨by rw [HE.out]; rfl, hm⟩
  · have hb : ((l.length : Int) != l'.length) = true := by rw [bne_iff_ne]; omega
    have hne : decide (l = l') = false := by rw [decide_eq_false_iff_not]; rintro rfl; exact hlen rfl
    have HN := hide hne
    clear hne hlen hA hA'
    go_enter Try.func26, Try.ntmps26
    go_wp2
    go_ret
    exact ⟨by rw [HN.out]; rfl, Mod.refl _ _⟩


set_option maxRecDepth 100000 in
set_option maxHeartbeats 1000000 in
theorem lawSameEntries (w : World) (v v' : Value) (l l' : List (EntD)) (h : ListAt encEntry 8 w v l) (h' : ListAt encEntry 8 w v' l') :
    Calls Try.prog 9 #[v, v'] w fun e w' => e = .returned (.bool (decide (l = l'))) ∧ Mod None_ w w' := by
  obtain ⟨A, c, rfl, hc1, hc2, hA⟩ := h
  obtain ⟨A', c', rfl, hc1', hc2', hA'⟩ := h'
  unfold maxLen at hc2 hc2'
  have hln : ∀ w, (Builtin.len_ #[29] 3 #[.slice A l.length c]).run Try.prog w = .ok (.int .i64 l.length) w := fun w => by simp [Builtin.len_, run_underlying Try.underlying29]; rfl
  have hln' : ∀ w, (Builtin.len_ #[29] 3 #[.slice A' l'.length c']).run Try.prog w = .ok (.int .i64 l'.length) w := fun w => by simp [Builtin.len_, run_underlying Try.underlying29]; rfl
  by_cases hlen : l.length = l'.length
  · have hb : ((l.length : Int) != l'.length) = false := by rw [bne_eq_false_iff_eq]; omega
    have HL := hide hlen
    have HA := hide hA
    have HA' := hide hA'
    clear hlen hA hA'
    go_enter Try.func9, Try.ntmps9
    go_wp2
    go_loopg [5] l.length (fun n i wr => ∃ k : Nat, k + n = l.length ∧ i = .int .i64 k ∧ l.take k = l'.take k ∧ Mod None_ w wr)
    case atStart => exact ⟨0, by omega, rfl, rfl, Mod.refl _ _⟩
    obtain ⟨k, hk, rfl, ht, hm⟩ := hrel
    have HT := hide ht
    clear ht
    by_cases hlt : k < l.length
    · have hlt' : k < l'.length := by rw [← HL.out]; exact hlt
      obtain ⟨g, o, rfl, hg, hc⟩ := HA.out (by omega)
      obtain ⟨g', o', rfl, hg', hc'⟩ := HA'.out (by omega)
      have hx := hc k hlt
      have hy := hc' k hlt'
      obtain ⟨p, hp⟩ : ∃ p, p = l[k] := ⟨_, rfl⟩
      obtain ⟨q, hq⟩ : ∃ q, q = l'[k] := ⟨_, rfl⟩
      rw [← hp] at hx
      rw [← hq] at hy
      have HP := hide hp
      have HQ := hide hq
      clear hc hc' hp hq
      have hkl : (k : Int) < l.length := by omega
      have hkl' : (k : Int) < l'.length := by omega
      go_wp2_with fail
      refine region_stw (by kernel_rfl) (by kernel_rfl) ?_
      rintro w3 hw3
      have hm3 : Mod None_ w w3 := by rw [hw3]; exact hm.drew
      replace hx : w3.rangeAt g (o + k * 8) (encEntry p) := fun j u hj => (World.cell?_of_block (hm3.block g hg id)).trans (hx j u hj)
      replace hy : w3.rangeAt g' (o' + k * 8) (encEntry q) := fun j u hj => (World.cell?_of_block (hm3.block g' hg' id)).trans (hy j u hj)
      clear hw3 hm
      have hx0 := run_loadAt_mid w3 g (o + k * 8) 46 (encEntry p) _ hx Try.underlying46 rfl (by kernel_rfl)
      have hy0 := run_loadAt_mid w3 g' (o' + k * 8) 46 (encEntry q) _ hy Try.underlying46 rfl (by kernel_rfl)
      by_cases he : p = q
      · subst he
        have hne : (binOp .neq 46 (.agg (encEntry p).toArray) (.agg (encEntry p).toArray)).run Try.prog w3 = .ok (.bool false) w3 := run_sameEntry p w3
        have HE : Hid (l.take (k + 1) = l'.take (k + 1)) := by
          refine hide ?_
          rw [List.take_succ_eq_append_getElem hlt, List.take_succ_eq_append_getElem hlt', HT.out, ← HP.out, ← HQ.out]
        clear hx hy
        iterate 3 (refine stw_step (fun K hK => ?_); go_simp; refine hK _ ?_; clear hK K)
        refine stw_val rfl (ex_load rfl hx0) ?_
        go_frame
        iterate 3 (refine stw_step (fun K hK => ?_); go_simp; refine hK _ ?_; clear hK K)
        refine stw_val rfl (ex_load rfl hy0) ?_
        go_frame
        refine stw_val rfl (ex_neqAgg rfl guardEntry rfl rfl hne) ?_
        go_frame
        refine stw_nil ?_
        go_wp2
        go_roundg (gk - 1)
        case measure => omega
        case rel => exact ⟨k + 1, by omega, by go_num, HE.out, hm3⟩
      · have hno : decide (l = l') = false := by
          rw [decide_eq_false_iff_not]
          rintro rfl
          exact he (HP.out.trans HQ.out.symm)
        have HN := hide hno
        have hne : (binOp .neq 46 (.agg (encEntry p).toArray) (.agg (encEntry q).toArray)).run Try.prog w3 = .ok (.bool true) w3 := run_diffEntry p q w3 he
        clear hno hx hy he
        iterate 3 (refine stw_step (fun K hK => ?_); go_simp; refine hK _ ?_; clear hK K)
        refine stw_val rfl (ex_load rfl hx0) ?_
        go_frame
        iterate 3 (refine stw_step (fun K hK => ?_); go_simp; refine hK _ ?_; clear hK K)
        refine stw_val rfl (ex_load rfl hy0) ?_
        go_frame
        refine stw_val rfl (ex_neqAgg rfl guardEntry rfl rfl hne) ?_
        go_frame
        refine stw_nil ?_
        go_wp2
        go_ret
        exact ⟨by rw [HN.out]; rfl, hm3⟩
    · have he : decide (l = l') = true := by
        rw [decide_eq_true_eq]
        have := HT.out
        rwa [List.take_of_length_le (by omega), List.take_of_length_le (by have := HL.out; omega)] at this
      have HE := hide he
      have hkl : ¬ (k : Int) < l.length := by omega
      clear he
      go_wp2
      go_ret
      exact ⟨by rw [HE.out]; rfl, hm⟩
  · have hb : ((l.length : Int) != l'.length) = true := by rw [bne_iff_ne]; omega
    have hne : decide (l = l') = false := by rw [decide_eq_false_iff_not]; rintro rfl; exact hlen rfl
    have HN := hide hne
    clear hne hlen hA hA'
    go_enter Try.func9, Try.ntmps9
    go_wp2
    go_ret
    exact ⟨by rw [HN.out]; rfl, Mod.refl _ _⟩


set_option maxRecDepth 100000 in
set_option maxHeartbeats 1000000 in
theorem lawSameNumbers (w : World) (v v' : Value) (l l' : List (Int)) (h : ListAt encInt 1 w v l) (h' : ListAt encInt 1 w v' l') :
    Calls Try.prog 11 #[v, v'] w fun e w' => e = .returned (.bool (decide (l = l'))) ∧ Mod None_ w w' := by
  obtain ⟨A, c, rfl, hc1, hc2, hA⟩ := h
  obtain ⟨A', c', rfl, hc1', hc2', hA'⟩ := h'
  unfold maxLen at hc2 hc2'
  have hln : ∀ w, (Builtin.len_ #[24] 3 #[.slice A l.length c]).run Try.prog w = .ok (.int .i64 l.length) w := fun w => by simp [Builtin.len_, run_underlying Try.underlying24]; rfl
  have hln' : ∀ w, (Builtin.len_ #[24] 3 #[.slice A' l'.length c']).run Try.prog w = .ok (.int .i64 l'.length) w := fun w => by simp [Builtin.len_, run_underlying Try.underlying24]; rfl
  by_cases hlen : l.length = l'.length
  · have hb : ((l.length : Int) != l'.length) = false := by rw [bne_eq_false_iff_eq]; omega
    have HL := hide hlen
    have HA := hide hA
    have HA' := hide hA'
    clear hlen hA hA'
    go_enter Try.func11, Try.ntmps11
    go_wp2
    go_loopg [5] l.length (fun n i wr => ∃ k : Nat, k + n = l.length ∧ i = .int .i64 k ∧ l.take k = l'.take k ∧ Mod None_ w wr)
    case atStart => exact ⟨0, by omega, rfl, rfl, Mod.refl _ _⟩
    obtain ⟨k, hk, rfl, ht, hm⟩ := hrel
    have HT := hide ht
    clear ht
    by_cases hlt : k < l.length
    · have hlt' : k < l'.length := by rw [← HL.out]; exact hlt
      obtain ⟨g, o, rfl, hg, hc⟩ := HA.out (by omega)
      obtain ⟨g', o', rfl, hg', hc'⟩ := HA'.out (by omega)
      have hx := hc k hlt
      have hy := hc' k hlt'
      obtain ⟨p, hp⟩ : ∃ p, p = l[k] := ⟨_, rfl⟩
      obtain ⟨q, hq⟩ : ∃ q, q = l'[k] := ⟨_, rfl⟩
      rw [← hp] at hx
      rw [← hq] at hy
      have HP := hide hp
      have HQ := hide hq
      clear hc hc' hp hq
      have hkl : (k : Int) < l.length := by omega
      have hkl' : (k : Int) < l'.length := by omega
      go_wp2_with fail
      refine region_stw (by kernel_rfl) (by kernel_rfl) ?_
      rintro w3 hw3
      have hm3 : Mod None_ w w3 := by rw [hw3]; exact hm.drew
      replace hx : w3.rangeAt g (o + k * 1) (encInt p) := fun j u hj => (World.cell?_of_block (hm3.block g hg id)).trans (hx j u hj)
      replace hy : w3.rangeAt g' (o' + k * 1) (encInt q) := fun j u hj => (World.cell?_of_block (hm3.block g' hg' id)).trans (hy j u hj)
      clear hw3 hm
      have x0 : w3.cell? ⟨g, o + k, none⟩ = some (.int .i64 p) := by have := hx 0 _ rfl; simpa using this
      have y0 : w3.cell? ⟨g', o' + k, none⟩ = some (.int .i64 q) := by have := hy 0 _ rfl; simpa using this
      by_cases he : p = q
      · subst he
        have e0 : ((p : Int) != p) = false := by simp
        have e1 : ((p : Int) == p) = true := by simp
        have HE : Hid (l.take (k + 1) = l'.take (k + 1)) := by
          refine hide ?_
          rw [List.take_succ_eq_append_getElem hlt, List.take_succ_eq_append_getElem hlt', HT.out, ← HP.out, ← HQ.out]
        clear hx hy
        repeat (refine stw_step (fun K hK => ?_); go_simp; refine hK _ ?_; clear hK K)
        refine stw_nil ?_
        go_wp2
        go_roundg (gk - 1)
        case measure => omega
        case rel => exact ⟨k + 1, by omega, by go_num, HE.out, hm3⟩
      · have hno : decide (l = l') = false := by
          rw [decide_eq_false_iff_not]
          rintro rfl
          exact he (HP.out.trans HQ.out.symm)
        have HN := hide hno
        have e0 : ((p : Int) != q) = true := by rw [bne_iff_ne]; exact he
        have e1 : ((p : Int) == q) = false := by rw [beq_eq_false_iff_ne]; exact he
        have e2 : ¬ p = q := he
        clear hno hx hy he
        repeat (refine stw_step (fun K hK => ?_); go_simp; refine hK _ ?_; clear hK K)
        refine stw_nil ?_
        go_wp2
        go_ret
        exact ⟨by rw [HN.out]; rfl, hm3⟩
    · have he : decide (l = l') = true := by
        rw [decide_eq_true_eq]
        have := HT.out
        rwa [List.take_of_length_le (by omega), List.take_of_length_le (by have := HL.out; omega)] at this
      have HE := hide he
      have hkl : ¬ (k : Int) < l.length := by omega
      clear he
      go_wp2
      go_ret
      exact ⟨by rw [HE.out]; rfl, hm⟩
  · have hb : ((l.length : Int) != l'.length) = true := by rw [bne_iff_ne]; omega
    have hne : decide (l = l') = false := by rw [decide_eq_false_iff_not]; rintro rfl; exact hlen rfl
    have HN := hide hne
    clear hne hlen hA hA'
    go_enter Try.func11, Try.ntmps11
    go_wp2
    go_ret
    exact ⟨by rw [HN.out]; rfl, Mod.refl _ _⟩

end Go.Proofs.Ytabebkffcmajkaa
