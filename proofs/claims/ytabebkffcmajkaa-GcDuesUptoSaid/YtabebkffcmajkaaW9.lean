import Derived.Test.YtabebkffcmajkaaW7
import Derived.Test.YtabebkffcmajkaaSh
import Derived.Sort.OwnSorted
/-! Walks: key.name, cmp.Compare at strings, List's closure; the sort. -/
namespace Go.Proofs.Ytabebkffcmajkaa
open Go.RowKit Go.Maps Go.Lib Go.Sort

theorem keyA_byte (d : Int) (s : ByteArray) (j : Nat) (hj : j < s.data.toList.length) : (keyA d s)[2 + j]? = some (.int .u8 (s.data.toList[j].toNat : Int)) := by
  simp only [keyA, keyCells, List.getElem?_toArray]
  rw [show 2 + j = j + 1 + 1 from by omega, List.getElem?_cons_succ, List.getElem?_cons_succ, List.getElem?_append_left (by simpa using hj), List.getElem?_map, List.getElem?_eq_getElem hj]
  rfl

set_option maxRecDepth 100000 in
set_option maxHeartbeats 400000 in
theorem name_any (w : World) (d : Int) (s : ByteArray) (hs : s.size ≤ 28) :
    Calls Try.prog 58 #[keyV d s] w fun e w' => e = .returned (.string s) ∧ Mod None_ w w' := by
  have hlen : s.data.toList.length = s.size := by simp
  have hbox : (Instr.box 100 (keyV d s)).run Try.prog w = .ok (.pointer (some ⟨w.heap.size, 0, none⟩)) (w.alloc (.cells (keyA d s) 100)) := rfl
  have hB : Blk (w.alloc (.cells (keyA d s) 100)) w.heap.size 100 (keyA d s) := Blk.new _ _ _
  have hM : Mod None_ w (w.alloc (.cells (keyA d s) 100)) := (Mod.refl _ w).alloc _
  have hcv : (Go.convert 113 9 (.slice (some ⟨w.heap.size, 2, none⟩) s.size 28)).run Try.prog (w.alloc (.cells (keyA d s) 100)) = .ok (.string s) (w.alloc (.cells (keyA d s) 100)) := by
    have := run_convert_bytes_back (P := Try.prog) (w.alloc (.cells (keyA d s) 100)) 113 9 5 ⟨w.heap.size, 2, none⟩ 28 s.data.toList Try.underlying113 Try.underlying5 Try.underlying9 (fun j hj => by
      have hadd : (⟨w.heap.size, 2, none⟩ : Addr).add j = ⟨w.heap.size, 2 + j, none⟩ := by unfold Addr.add; split <;> simp_all
      rw [hadd, hB.cell, keyA_byte d s j hj])
    rw [hlen] at this
    exact this
  generalize w.alloc (.cells (keyA d s) 100) = w1 at hbox hB hM hcv
  have hc1 : w1.cell? ⟨w.heap.size, 1, none⟩ = some (.int .i64 s.size) := (hB.cell 1).trans (by simp [keyA, keyCells])
  have hle : (0 : Int) ≤ s.size := by omega
  have hle2 : (s.size : Int) ≤ 28 := by omega
  have HB := hide hbox
  clear hbox hlen
  go_enter Try.func58, Try.ntmps58
  go_wp2_with (first
    | ((with_reducible refine at_slot 1 ?_); refine wpList_val rfl (ex_box rfl HB.out) ?_; go_frame))
  go_ret
  exact ⟨rfl, hM⟩

def strLt (x y : ByteArray) : Bool := Op.bytesLess x.toList y.toList
def cmpStr (x y : ByteArray) : Int := if strLt x y = true then -1 else if strLt y x = true then 1 else 0
theorem strLt_iff (x y : ByteArray) : strLt x y = true ↔ x.data.toList < y.data.toList := by
  unfold strLt
  rw [Go.Proofs.bytesLess_eq, Go.Lib.toList_data, Go.Lib.toList_data, decide_eq_true_eq]
theorem strLt_irrefl (x : ByteArray) : strLt x x = false := by
  rw [Bool.eq_false_iff]; intro h
  exact List.lt_irrefl _ ((strLt_iff _ _).1 h)
theorem strLt_trans {x y z : ByteArray} (h1 : strLt x y = true) (h2 : strLt y z = true) : strLt x z = true :=
  (strLt_iff _ _).2 (List.lt_trans ((strLt_iff _ _).1 h1) ((strLt_iff _ _).1 h2))
theorem strLt_tri {x y : ByteArray} (h1 : strLt x y = false) (h2 : strLt y x = false) : x = y := by
  have h1' : ¬ x.data.toList < y.data.toList := fun h => by rw [(strLt_iff _ _).2 h] at h1; cases h1
  have h2' : ¬ y.data.toList < x.data.toList := fun h => by rw [(strLt_iff _ _).2 h] at h2; cases h2
  exact Go.WideShapes.bytes_inj (List.le_antisymm (List.not_lt.1 h2') (List.not_lt.1 h1'))
theorem ltOf_cmp (x y : ByteArray) : ltOf cmpStr x y = strLt x y := by
  unfold ltOf cmpStr
  cases h : strLt x y
  · cases h2 : strLt y x <;> simp
  · simp
theorem strLt_asymm {x y : ByteArray} (h : strLt x y = true) : strLt y x = false := by
  cases h2 : strLt y x
  · rfl
  · have := strLt_trans h h2
    rw [strLt_irrefl] at this; cases this
theorem swoStr : SWO (ltOf cmpStr) where
  irrefl x := by rw [ltOf_cmp]; exact strLt_irrefl x
  trans x y z h1 h2 := by rw [ltOf_cmp] at *; exact strLt_trans h1 h2
  ntrans x y z h1 h2 := by
    rw [ltOf_cmp] at *
    cases h : strLt x z
    · rfl
    · cases h3 : strLt y x
      · have e := strLt_tri h1 h3
        subst e; rw [h] at h2; cases h2
      · have := strLt_trans h3 h
        rw [this] at h2; cases h2

set_option maxRecDepth 100000 in
set_option maxHeartbeats 400000 in
theorem isNaN_str (x : ByteArray) (w : World) : Calls Try.prog 65 #[.string x] w fun e w' => e = .returned (.bool false) ∧ w = w' := by
  go_enter Try.func65, Try.ntmps65
  go_wp2
  go_ret
  exact ⟨by simp, rfl⟩
set_option maxRecDepth 100000 in
set_option maxHeartbeats 400000 in
theorem compare_str (x y : ByteArray) (w : World) : Calls Try.prog 61 #[.string x, .string y] w fun e w' => e = .returned (.int .i64 (cmpStr x y)) ∧ w = w' := by
  cases h : strLt x y with
  | true =>
    have HC := hide (show cmpStr x y = -1 by unfold cmpStr; rw [if_pos h])
    unfold strLt at h
    go_enter Try.func61, Try.ntmps61
    go_wp2_with (go_at_call 65; refine (isNaN_str _ _).mono ?_; rintro e w1 ⟨rfl, rfl⟩)
    go_ret
    exact ⟨by rw [HC.out]; rfl, rfl⟩
  | false =>
    cases h2 : strLt y x with
    | true =>
      have HC := hide (show cmpStr x y = 1 by unfold cmpStr; rw [if_neg (by simp [h]), if_pos h2])
      have h3 : (x.toList == y.toList) = false := by
        cases h4 : (x.toList == y.toList)
        · rfl
        · have e : x.toList = y.toList := by simpa using h4
          unfold strLt at h2
          rw [e] at h2
          have := strLt_irrefl y
          unfold strLt at this
          rw [this] at h2; cases h2
      unfold strLt at h
      clear h2
      go_enter Try.func61, Try.ntmps61
      go_wp2_with (go_at_call 65; refine (isNaN_str _ _).mono ?_; rintro e w1 ⟨rfl, rfl⟩)
      go_ret
      exact ⟨by rw [HC.out]; rfl, rfl⟩
    | false =>
      have HC := hide (show cmpStr x y = 0 by unfold cmpStr; rw [if_neg (by simp [h]), if_neg (by simp [h2])])
      have e := strLt_tri h h2
      have h3 : (x.toList == y.toList) = true := by rw [e]; simp
      unfold strLt at h
      clear h2 e
      go_enter Try.func61, Try.ntmps61
      go_wp2_with (go_at_call 65; refine (isNaN_str _ _).mono ?_; rintro e w1 ⟨rfl, rfl⟩)
      go_ret
      exact ⟨by rw [HC.out]; rfl, rfl⟩
end Go.Proofs.Ytabebkffcmajkaa
