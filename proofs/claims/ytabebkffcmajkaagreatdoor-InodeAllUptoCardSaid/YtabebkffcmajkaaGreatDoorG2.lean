import Derived.Shelf.SlSortCmp.NoneTotal
import Derived.Ground.SlsfProg
import Derived.Test.YtabebkffcmajkaaGreatDoorProg
import Derived.Sort.OwnSorted
import Derived.RangeFuncNested
import Derived.RangeFuncBound
import Derived.RangeFuncCalls
import Derived.RangeFuncLeaves
import Derived.Shelf.Abstract
import Derived.Shelf.RegionOpen
import Derived.OwnWalkIn
import Derived.TacticsInMore
import Derived.LoopNIn
import Derived.LoopIn
import Derived.Maps.AppendAt
import Derived.Test.YtabebkffcmajkaaGreatDoorG1
/-
  DERIVED: THE SHELF's CONTRACTS AT THIS DUMP, IN PLAIN WORDS (tools/lay-plain.mjs out of 'YtabebkffcmajkaaGreatDoorSh0.lean', which tools/lay-shelf.mjs wrote): THE SAME DECLARATIONS UNDER THE SAME NAMES: 'import', 'namespace', 'open', 'def', 'theorem' AND NOTHING ELSE: no command of the shelf's: FOR A HAND-IN. Each laying: the table of numbers ('.._ren') and one theorem, a field a fact of the dump's own or the kernel's comparison; each contract: ONE APPLICATION.
-/
namespace Go.Proofs
open Go.Shelf
def Tryz.sortL_ren : Go.Shelf.Ren := ⟨fun | 6 => 67 | 15 => 79 | 14 => 78 | 28 => 91 | 29 => 92 | 20 => 83 | 21 => 84 | 22 => 85 | 23 => 86 | 24 => 87 | 25 => 88 | 26 => 89 | 27 => 90 | 46 => 93 | 47 => 94 | 48 => 95 | 49 => 96 | 50 => 97 | 57 => 98 | n => n, fun | 22 => 31 | 24 => 75 | 25 => 137 | 3 => 3 | 39 => 144 | 0 => 0 | 53 => 146 | 55 => 47 | 4 => 4 | 46 => 159 | 45 => 158 | 50 => 163 | 5 => 5 | 9 => 9 | 66 => 168 | 70 => 172 | 76 => 174 | 77 => 175 | n => n, fun | n => n⟩
theorem Tryz.sortL : Go.Proofs.SlLaysF0.n6 Tryz.prog Tryz.sortL_ren := {
  mixed := by kernel_rfl
  f6 := ⟨Tryz.f67.name, by decide, Tryz.func67.trans (congrArg some (by kernel_rfl))⟩
  f14 := ⟨Tryz.f78.name, by decide, Tryz.func78.trans (congrArg some (by kernel_rfl))⟩
  f15 := Tryz.func79.trans (congrArg some (by kernel_rfl))
  f20 := ⟨Tryz.f83.name, by decide, Tryz.func83.trans (congrArg some (by kernel_rfl))⟩
  f21 := ⟨Tryz.f84.name, by decide, Tryz.func84.trans (congrArg some (by kernel_rfl))⟩
  f22 := ⟨Tryz.f85.name, by decide, Tryz.func85.trans (congrArg some (by kernel_rfl))⟩
  f23 := ⟨Tryz.f86.name, by decide, Tryz.func86.trans (congrArg some (by kernel_rfl))⟩
  f24 := ⟨Tryz.f87.name, by decide, Tryz.func87.trans (congrArg some (by kernel_rfl))⟩
  f25 := ⟨Tryz.f88.name, by decide, Tryz.func88.trans (congrArg some (by kernel_rfl))⟩
  f26 := ⟨Tryz.f89.name, by decide, Tryz.func89.trans (congrArg some (by kernel_rfl))⟩
  f27 := ⟨Tryz.f90.name, by decide, Tryz.func90.trans (congrArg some (by kernel_rfl))⟩
  f28 := Tryz.func91.trans (congrArg some (by kernel_rfl))
  f29 := Tryz.func92.trans (congrArg some (by kernel_rfl))
  f46 := ⟨Tryz.f93.name, by decide, Tryz.func93.trans (congrArg some (by kernel_rfl))⟩
  f47 := Tryz.func94.trans (congrArg some (by kernel_rfl))
  f48 := Tryz.func95.trans (congrArg some (by kernel_rfl))
  f49 := ⟨Tryz.f96.name, by decide, Tryz.func96.trans (congrArg some (by kernel_rfl))⟩
  f50 := ⟨Tryz.f97.name, by decide, Tryz.func97.trans (congrArg some (by kernel_rfl))⟩
  f57 := ⟨Tryz.f98.name, by decide, Tryz.func98.trans (congrArg some (by kernel_rfl))⟩
  t0 := Tryz.underlying0
  a0 := Tryz.isAgg0
  z0 := Tryz.sizeOf0
  v0 := Tryz.zeroValue0
  t3 := Tryz.underlying3
  a3 := Tryz.isAgg3
  z3 := Tryz.sizeOf3
  v3 := Tryz.zeroValue3
  t4 := Tryz.underlying4
  a4 := Tryz.isAgg4
  z4 := Tryz.sizeOf4
  v4 := Tryz.zeroValue4
  t5 := Tryz.underlying5
  a5 := Tryz.isAgg5
  z5 := Tryz.sizeOf5
  v5 := Tryz.zeroValue5
  t9 := Tryz.underlying9
  a9 := Tryz.isAgg9
  z9 := Tryz.sizeOf9
  v9 := Tryz.zeroValue9
  t22 := Tryz.underlying31
  a22 := Tryz.isAgg31
  z22 := Tryz.sizeOf31
  v22 := Tryz.zeroValue31
  t25 := Tryz.underlying137
  a25 := Tryz.isAgg137
  z25 := Tryz.sizeOf137
  v25 := Tryz.zeroValue137
  t39 := Tryz.underlying144
  a39 := Tryz.isAgg144
  z39 := Tryz.sizeOf144
  v39 := Tryz.zeroValue144
  t45 := Tryz.underlying158
  a45 := Tryz.isAgg158
  z45 := Tryz.sizeOf158
  v45 := Tryz.zeroValue158
  t46 := Tryz.underlying159
  a46 := Tryz.isAgg159
  z46 := Tryz.sizeOf159
  v46 := Tryz.zeroValue159
  t50 := Tryz.underlying163
  a50 := Tryz.isAgg163
  z50 := Tryz.sizeOf163
  v50 := Tryz.zeroValue163
  t53 := Tryz.underlying146
  a53 := Tryz.isAgg146
  z53 := Tryz.sizeOf146
  v53 := Tryz.zeroValue146
  t55 := Tryz.underlying47
  a55 := Tryz.isAgg47
  z55 := Tryz.sizeOf47
  v55 := Tryz.zeroValue47
  t66 := Tryz.underlying168
  a66 := Tryz.isAgg168
  z66 := Tryz.sizeOf168
  v66 := Tryz.zeroValue168
  t70 := Tryz.underlying172
  a70 := Tryz.isAgg172
  z70 := Tryz.sizeOf172
  v70 := Tryz.zeroValue172
  t76 := Tryz.underlying174
  a76 := Tryz.isAgg174
  z76 := Tryz.sizeOf174
  v76 := Tryz.zeroValue174
  t77 := Tryz.underlying175
  a77 := Tryz.isAgg175
  z77 := Tryz.sizeOf175
  v77 := Tryz.zeroValue175 }
end Go.Proofs

/-! Walks: key.name, cmp.Compare at strings, List's closure; the sort. -/
namespace Go.Proofs.YtabebkffcmajkaaGreatDoor
open Go.RowKit Go.Maps Go.Lib Go.Sort

theorem keyA_byte (d : Int) (s : ByteArray) (j : Nat) (hj : j < s.data.toList.length) : (keyA d s)[2 + j]? = some (.int .u8 (s.data.toList[j].toNat : Int)) := by
  simp only [keyA, keyCells, List.getElem?_toArray]
  rw [show 2 + j = j + 1 + 1 from by omega, List.getElem?_cons_succ, List.getElem?_cons_succ, List.getElem?_append_left (by simpa using hj), List.getElem?_map, List.getElem?_eq_getElem hj]
  rfl

set_option maxRecDepth 100000 in
set_option maxHeartbeats 400000 in
theorem name_any (w : World) (d : Int) (s : ByteArray) (hs : s.size ≤ 28) :
    Calls Tryz.prog 66 #[keyV d s] w fun e w' => e = .returned (.string s) ∧ Mod None_ w w' := by
  have hlen : s.data.toList.length = s.size := by simp
  have hbox : (Instr.box 133 (keyV d s)).run Tryz.prog w = .ok (.pointer (some ⟨w.heap.size, 0, none⟩)) (w.alloc (.cells (keyA d s) 133)) := rfl
  have hB : Blk (w.alloc (.cells (keyA d s) 133)) w.heap.size 133 (keyA d s) := Blk.new _ _ _
  have hM : Mod None_ w (w.alloc (.cells (keyA d s) 133)) := (Mod.refl _ w).alloc _
  have hcv : (Go.convert 145 9 (.slice (some ⟨w.heap.size, 2, none⟩) s.size 28)).run Tryz.prog (w.alloc (.cells (keyA d s) 133)) = .ok (.string s) (w.alloc (.cells (keyA d s) 133)) := by
    have := run_convert_bytes_back (P := Tryz.prog) (w.alloc (.cells (keyA d s) 133)) 145 9 5 ⟨w.heap.size, 2, none⟩ 28 s.data.toList Tryz.underlying145 Tryz.underlying5 Tryz.underlying9 (fun j hj => by
      have hadd : (⟨w.heap.size, 2, none⟩ : Addr).add j = ⟨w.heap.size, 2 + j, none⟩ := by unfold Addr.add; split <;> simp_all
      rw [hadd, hB.cell, keyA_byte d s j hj])
    rw [hlen] at this
    exact this
  generalize w.alloc (.cells (keyA d s) 133) = w1 at hbox hB hM hcv
  have hc1 : w1.cell? ⟨w.heap.size, 1, none⟩ = some (.int .i64 s.size) := (hB.cell 1).trans (by simp [keyA, keyCells])
  have hle : (0 : Int) ≤ s.size := by omega
  have hle2 : (s.size : Int) ≤ 28 := by omega
  have HB := hide hbox
  clear hbox hlen
  go_enter Tryz.func66, Tryz.ntmps66
  go_wp2_with (first
    | ((with_reducible refine at_slot 1 ?_); refine wpList_val rfl (ex_box rfl HB.out) ?_; go_frame))
  go_ret
  exact ⟨rfl, hM⟩

def strLt (x y : ByteArray) : Bool := Op.bytesLess x.toList y.toList
def cmpStr (x y : ByteArray) : Int := if strLt x y = true then -1 else if strLt y x = true then 1 else 0
theorem strLt_iff (x y : ByteArray) : strLt x y = true ↔ x.data.toList < y.data.toList := by
  unfold strLt
  rw [Go.Proofs.bytesLess_eq, Go.Lib.toList_data, Go.Lib.toList_data, decide_eq_true_eq]
theorem strLt_irrefl (x : ByteArray) : strLt x x = false := by
  rw [Bool.eq_false_iff]; intro h
  exact List.lt_irrefl _ ((strLt_iff _ _).1 h)
theorem strLt_trans {x y z : ByteArray} (h1 : strLt x y = true) (h2 : strLt y z = true) : strLt x z = true :=
  (strLt_iff _ _).2 (List.lt_trans ((strLt_iff _ _).1 h1) ((strLt_iff _ _).1 h2))
theorem strLt_tri {x y : ByteArray} (h1 : strLt x y = false) (h2 : strLt y x = false) : x = y := by
  have h1' : ¬ x.data.toList < y.data.toList := fun h => by rw [(strLt_iff _ _).2 h] at h1; cases h1
  have h2' : ¬ y.data.toList < x.data.toList := fun h => by rw [(strLt_iff _ _).2 h] at h2; cases h2
  exact Go.WideShapes.bytes_inj (List.le_antisymm (List.not_lt.1 h2') (List.not_lt.1 h1'))
theorem ltOf_cmp (x y : ByteArray) : ltOf cmpStr x y = strLt x y := by
  unfold ltOf cmpStr
  cases h : strLt x y
  · cases h2 : strLt y x <;> simp
  · simp
theorem strLt_asymm {x y : ByteArray} (h : strLt x y = true) : strLt y x = false := by
  cases h2 : strLt y x
  · rfl
  · have := strLt_trans h h2
    rw [strLt_irrefl] at this; cases this
theorem swoStr : SWO (ltOf cmpStr) where
  irrefl x := by rw [ltOf_cmp]; exact strLt_irrefl x
  trans x y z h1 h2 := by rw [ltOf_cmp] at *; exact strLt_trans h1 h2
  ntrans x y z h1 h2 := by
    rw [ltOf_cmp] at *
    cases h : strLt x z
    · rfl
    · cases h3 : strLt y x
      · have e := strLt_tri h1 h3
        subst e; rw [h] at h2; cases h2
      · have := strLt_trans h3 h
        rw [this] at h2; cases h2

set_option maxRecDepth 100000 in
set_option maxHeartbeats 400000 in
theorem isNaN_str (x : ByteArray) (w : World) : Calls Tryz.prog 80 #[.string x] w fun e w' => e = .returned (.bool false) ∧ w = w' := by
  go_enter Tryz.func80, Tryz.ntmps80
  go_wp2
  go_ret
  exact ⟨by simp, rfl⟩
set_option maxRecDepth 100000 in
set_option maxHeartbeats 400000 in
theorem compare_str (x y : ByteArray) (w : World) : Calls Tryz.prog 69 #[.string x, .string y] w fun e w' => e = .returned (.int .i64 (cmpStr x y)) ∧ w = w' := by
  cases h : strLt x y with
  | true =>
    have HC := hide (show cmpStr x y = -1 by unfold cmpStr; rw [if_pos h])
    unfold strLt at h
    go_enter Tryz.func69, Tryz.ntmps69
    go_wp2_with (go_at_call 80; refine (isNaN_str _ _).mono ?_; rintro e w1 ⟨rfl, rfl⟩)
    go_ret
    exact ⟨by rw [HC.out]; rfl, rfl⟩
  | false =>
    cases h2 : strLt y x with
    | true =>
      have HC := hide (show cmpStr x y = 1 by unfold cmpStr; rw [if_neg (by simp [h]), if_pos h2])
      have h3 : (x.toList == y.toList) = false := by
        cases h4 : (x.toList == y.toList)
        · rfl
        · have e : x.toList = y.toList := by simpa using h4
          unfold strLt at h2
          rw [e] at h2
          have := strLt_irrefl y
          unfold strLt at this
          rw [this] at h2; cases h2
      unfold strLt at h
      clear h2
      go_enter Tryz.func69, Tryz.ntmps69
      go_wp2_with (go_at_call 80; refine (isNaN_str _ _).mono ?_; rintro e w1 ⟨rfl, rfl⟩)
      go_ret
      exact ⟨by rw [HC.out]; rfl, rfl⟩
    | false =>
      have HC := hide (show cmpStr x y = 0 by unfold cmpStr; rw [if_neg (by simp [h]), if_neg (by simp [h2])])
      have e := strLt_tri h h2
      have h3 : (x.toList == y.toList) = true := by rw [e]; simp
      unfold strLt at h
      clear h2 e
      go_enter Tryz.func69, Tryz.ntmps69
      go_wp2_with (go_at_call 80; refine (isNaN_str _ _).mono ?_; rintro e w1 ⟨rfl, rfl⟩)
      go_ret
      exact ⟨by rw [HC.out]; rfl, rfl⟩
end Go.Proofs.YtabebkffcmajkaaGreatDoor

/-! The sort of a directory's entries, by the shelf's contract. -/
namespace Go.Proofs.YtabebkffcmajkaaGreatDoor
open Go.RowKit Go.Maps Go.Lib Go.Sort Go.Shelf

def encD (f : ByteArray → Int) (s : ByteArray) : List Value := [.string s, .int .i64 (f s)]
def dentCells (f : ByteArray → Int) (ns : List ByteArray) : List Value := ns.flatMap (encD f)
def sortNames (ns : List ByteArray) : List ByteArray := ns.mergeSort fun x y => !strLt y x

theorem dentCells_length (f : ByteArray → Int) (ns : List ByteArray) : (dentCells f ns).length = ns.length * 2 := by
  unfold dentCells
  induction ns with
  | nil => rfl
  | cons x l ih => rw [List.flatMap_cons, List.length_append, ih]; simp [encD]; omega
theorem dentCells_get (f : ByteArray → Int) : ∀ (ns : List ByteArray) (t : Nat) (h : t < ns.length * 2), (dentCells f ns)[t]? = (encD f (ns[t / 2]'(by omega)))[t % 2]?
  | x :: l, 0, _ => by simp [dentCells, encD]
  | x :: l, 1, _ => by simp [dentCells, encD]
  | x :: l, t + 2, h => by
    have ih := dentCells_get f l t (by simp at h; omega)
    have e1 : (t + 2) / 2 = t / 2 + 1 := by omega
    have e2 : (t + 2) % 2 = t % 2 := by omega
    have : (dentCells f (x :: l))[t + 2]? = (dentCells f l)[t]? := by
      unfold dentCells
      rw [List.flatMap_cons]
      simp [encD]
    rw [this, ih]
    simp only [e1, e2, List.getElem_cons_succ]
theorem flatK_dents (f : ByteArray → Int) (ns : List ByteArray) : (flatK (encD f) 2 ns.toArray).toList = dentCells f ns := by
  apply List.ext_getElem?
  intro t
  by_cases h : t < ns.length * 2
  · rw [dentCells_get f ns t h]
    have h2 : t / 2 < ns.length := by omega
    have h3 : t < (flatK (encD f) 2 ns.toArray).size := by simpa using h
    rw [Array.getElem?_toList, Array.getElem?_eq_getElem h3]
    have := get_flatK (encD f) 2 ns.toArray t (by simpa using h)
    rw [getElem!_pos _ t h3] at this
    rw [this]
    have h4 : t / 2 < ns.toArray.size := by simpa using h2
    rw [getElem!_pos ns.toArray (t / 2) h4]
    have h5 : t % 2 < (encD f ns.toArray[t / 2]).length := by simp [encD]; omega
    rw [getElem!_pos _ (t % 2) h5]
    simp
  · rw [List.getElem?_eq_none (by simp; omega), List.getElem?_eq_none (by rw [dentCells_length]; omega)]

set_option maxRecDepth 100000 in
set_option maxHeartbeats 400000 in
theorem closure36 (x y : ByteArray) (i j : Int) (W : World) : Calls Tryz.prog 68 #[.agg #[.string x, .int .i64 i], .agg #[.string y, .int .i64 j]] W fun e w' => e = .returned (.int .i64 (cmpStr x y)) ∧ ∃ q os', w' = grow (W.drewN q) os' := by
  go_enter Tryz.func68, Tryz.ntmps68
  go_wp2_with (go_at_call 69; refine (compare_str _ _ _).mono ?_; rintro e w1 ⟨rfl, rfl⟩)
  go_ret
  exact ⟨rfl, 0, #[.cells #[.string x, .int .i64 i] 75, .cells #[.string y, .int .i64 j] 75], by
    rw [show W.drewN 0 = W from rfl, alloc_eq_grow, alloc_eq_grow, grow_grow]; rfl⟩

theorem cmpLays36 (f : ByteArray → Int) (blk off size : Nat) (w : World) : CmpLays Tryz.prog 68 #[] (encD f) 2 cmpStr blk off size w :=
  fun _ _ _ _ x y => closure36 x y (f x) (f y) _

theorem isAgg36 (w : World) : (isAgg 75).run Tryz.prog w = .ok true w := by kernel_rfl
theorem sizeOf36 (w : World) : (Go.sizeOf 75).run Tryz.prog w = .ok 2 w := by kernel_rfl

theorem heap_sortK {w : World} {g n : Nat} {os : Array Obj} {cur : Array Value} {e : TypeId} {fr : Nat × Nat} (f : ByteArray → Int) (d : Array ByteArray) (hb : w.heap[g]? = some (.cells cur e fr)) :
    (sortWorldK (encD f) 2 w g 0 n d os).heap[g]? = some (.cells (putCells id 0 (flatK (encD f) 2 d) cur) e fr) := by
  have hg : g < w.heap.size := (Array.getElem?_eq_some_iff.1 hb).1
  unfold sortWorldK putRowK
  rw [heap_grow_old _ _ (by simpa using hg)]
  simp [putRow, mapBlock, Sort.ahead, Array.getElem?_modify, hb, onCells]
theorem mod_sortK {w : World} {g n : Nat} {os : Array Obj} (f : ByteArray → Int) (d : Array ByteArray) : Mod (· = g) w (sortWorldK (encD f) 2 w g 0 n d os) := by
  refine ⟨rfl, rfl, rfl, by simp [sortWorldK, putRowK], fun k hk hne => ?_⟩
  unfold sortWorldK putRowK
  rw [heap_grow_old _ _ (by simpa using hk)]
  have : g ≠ k := fun e => hne e.symm
  simp [putRow, mapBlock, Sort.ahead, Array.getElem?_modify, this]
theorem take_putK (cur : Array Value) (xs : Array Value) (h : xs.size ≤ cur.size) : (putCells id 0 xs cur).toList.take xs.size = xs.toList := by
  apply List.ext_getElem?
  intro j
  by_cases hj : j < xs.size
  · rw [List.getElem?_take_of_lt hj, Array.getElem?_toList]
    simp [putCells, hj, show j < cur.size by omega]
  · rw [List.getElem?_take_eq_none (by omega), List.getElem?_eq_none (by simp; omega)]

theorem sortNames_length (ns : List ByteArray) : (sortNames ns).length = ns.length := List.length_mergeSort _

theorem sort_any (w : World) (B : Nat) (f : ByteArray → Int) (v : Value) (ns : List ByteArray) (hown : w.ownsRow B 75 2 v ns.length (dentCells f ns)) (hlen : ns.length < 4611686018427387904) :
    Calls Tryz.prog 67 #[v, .func (.func 68) #[] #[]] w fun e w' => e = .returned (.tuple #[]) ∧ w'.ownsRow B 75 2 v ns.length (dentCells f (sortNames ns)) ∧ Mod (fun k => B ≤ k ∧ some k = v.ownBlock) w w' := by
  rcases hown.2 with ⟨rfl, h0⟩ | ⟨g, cap, cur, rfl, hbase, hb, h1, h2, h3, h4⟩
  · have hn : ns = [] := List.eq_nil_of_length_eq_zero h0
    subst hn
    have hS := AnyF.slices_SortFunc_none (P := Tryz.prog) (ρ := Tryz.sortL_ren) { Tryz.sortL with } none 0 (.func (.func 68) #[] #[]) w
    change Calls Tryz.prog 67 _ _ _ at hS
    exact hS.mono fun e w' ⟨he, hw⟩ => ⟨he, by rw [hw]; simpa [sortNames] using hown, by rw [hw]; exact Mod.refl _ _⟩
  · have hH : HoldsK (encD f) 2 w g 0 ns.toArray := by
      intro j hj
      refine ⟨?_, by simp [World.frozen?, hb]⟩
      have hj' : j < ns.length * 2 := by simpa using hj
      have e1 : (cur.toList.take (ns.length * 2))[j]? = (flatK (encD f) 2 ns.toArray).toList[j]? := by rw [h4, flatK_dents]
      rw [List.getElem?_take_of_lt hj'] at e1
      simp only [World.cell?, hb, Nat.zero_add]
      simp only [Option.isSome_none, Bool.false_eq_true, if_false]
      rw [← Array.getElem?_toList, e1, Array.getElem?_toList, Array.getElem?_eq_getElem hj, getElem!_pos _ j hj]
      rfl
    have eg : ∀ args w, (callFunc 68 args).run Tryz.prog w = .ok (.enter 68 args) w := enters_of Tryz.func68 (by kernel_rfl) rfl
    have hcon := AnyQ.slices_SortFunc_total Tryz.sortL 2 isAgg36 sizeOf36 (encD f) (fun _ => rfl) (fun x v hv => by simp [encD] at hv; rcases hv with rfl | rfl <;> rfl) cmpStr swoStr 68 #[] g 0 cap ns.toArray w eg (cmpLays36 f g 0 _ w) hH
      (Array.getElem?_eq_some_iff.1 hb).1 (by simpa using hlen) (fun x y h1 h2 => by rw [ltOf_cmp] at h1 h2; exact strLt_tri h1 h2)
    change Calls Tryz.prog 67 _ _ _ at hcon
    have hfn : (fun x y => !ltOf cmpStr y x) = fun x y => !strLt y x := by funext x y; rw [ltOf_cmp]
    rw [hfn] at hcon
    simp only [List.size_toArray] at hcon
    refine hcon.mono fun e w' ⟨he, n, os, hw⟩ => ⟨he, ?_, ?_⟩
    · rw [hw]
      refine ⟨by rw [dentCells_length, sortNames_length], .inr ⟨g, cap, _, rfl, hbase, heap_sortK f _ hb, h1, h2, by simp [putCells, h3], ?_⟩⟩
      have hs : (flatK (encD f) 2 (sortNames ns).toArray).size = ns.length * 2 := by simp [sortNames_length]
      have := take_putK cur (flatK (encD f) 2 (sortNames ns).toArray) (by rw [hs, h3]; exact Nat.mul_le_mul_right 2 h1)
      rw [hs, flatK_dents] at this
      exact this
    · rw [hw]
      exact (mod_sortK f _).mono fun k _ e => ⟨by omega, by simp [Value.ownBlock, e]⟩
end Go.Proofs.YtabebkffcmajkaaGreatDoor

/-! A region that draws its order, whose calls make new memory: no program in it. The operations that only read (the quiet ones) yield the same in every world within I; the others keep I, and are in an order among themselves. Then ONE walk serves: each quiet operation as soon as it is ready, each other one when nothing else is ready. -/
namespace Go.Proofs.YtabebkffcmajkaaGreatDoor
open Go.RowKit Go.Maps

section
variable {P : Program} {ops : Array Oper} {md : Region.Mode} {I : World → Prop}

def loudUpon (P : Program) (o : Oper) (a : Act) (I : World → Prop) (next : Act → World → Prop) : Result Next → Prop
  | .ok (.value v) w' => I w' ∧ next (a.put o.dst v) w'
  | .ok .skip w' => I w' ∧ next (a.put o.dst undef) w'
  | .ok (.enter f args) w' => Calls P f args w' fun e w'' => ∃ v, e = .returned v ∧ I w'' ∧ next (a.put o.dst v) w''
  | _ => False
def loud (P : Program) (o : Oper) (a : Act) (w : World) (I : World → Prop) (next : Act → World → Prop) : Prop := loudUpon P o a I next ((execOp a.eval o).run P w)

def lOp (P : Program) (ops : Array Oper) (I : World → Prop) (i : Nat) (K : Act → World → Prop) (a : Act) (w : World) : Prop :=
  match ops[i]? with
  | none => I w ∧ K a w
  | some o => if Region.wanted o (yielded ops a.tmps) then loud P o a w I K else I w ∧ K (a.put o.dst undef) w

theorem loud_mono {o : Oper} {a : Act} {w : World} {K K' : Act → World → Prop} (h : ∀ a w, I w → K a w → K' a w) (hh : loud P o a w I K) : loud P o a w I K' := by
  unfold loud at *
  generalize (execOp a.eval o).run P w = r at *
  cases r with
  | ok n w' =>
    cases n <;> simp only [loudUpon] at hh ⊢
    case enter f args => exact hh.mono fun e w'' ⟨v, he, hi, hn⟩ => ⟨v, he, hi, h _ _ hi hn⟩
    all_goals exact ⟨hh.1, h _ _ hh.1 hh.2⟩
  | halt x w' => simp only [loudUpon] at hh
theorem lOp_mono {i : Nat} {a : Act} {w : World} {K K' : Act → World → Prop} (h : ∀ a w, I w → K a w → K' a w) (hh : lOp P ops I i K a w) : lOp P ops I i K' a w := by
  unfold lOp at *
  split
  · rename_i ho; simp only [ho] at hh; exact ⟨hh.1, h _ _ hh.1 hh.2⟩
  · rename_i o ho
    simp only [ho] at hh
    split
    · rename_i hw; simp only [hw, if_true] at hh; exact loud_mono h hh
    · rename_i hw; simp only [hw] at hh; exact ⟨hh.1, h _ _ hh.1 hh.2⟩

def wpAnyI (P : Program) (md : Region.Mode) (ops : Array Oper) (I : World → Prop) (Q : Act → World → Prop) : Nat → Array Bool → Act → World → Prop
  | 0, listed, a, w => Region.ready md ops listed = [] ∧ Q a w
  | fuel + 1, listed, a, w =>
    (Region.ready md ops listed = [] → Q a w) ∧
    ∀ i ∈ Region.ready md ops listed, lOp P ops I i (wpAnyI P md ops I Q fuel (listed.setIfInBounds i true)) a w

theorem wp_of_loud {o : Oper} {a : Act} {w : World} {K K' : Act → World → Prop} {Q' : Exit → Act → World → Prop} (h : ∀ a w, K a w → K' a w) (hh : loud P o a w I K) : o.wp P a w K' Q' := by
  unfold loud at hh
  unfold Oper.wp
  generalize (execOp a.eval o).run P w = r at *
  cases r with
  | ok n w' =>
    cases n <;> simp only [loudUpon] at hh <;> simp only [Oper.upon]
    case enter f args => exact hh.mono fun e w'' ⟨v, he, _, hn⟩ => by subst he; exact h _ _ hn
    all_goals exact h _ _ hh.2
  | halt x w' => simp only [loudUpon] at hh
theorem wpOp_of_lOp {i : Nat} {a : Act} {w : World} {K K' : Act → World → Prop} {Q' : Exit → Act → World → Prop} (h : ∀ a w, K a w → K' a w) (hh : lOp P ops I i K a w) : wpOp P ops Q' i K' a w := by
  unfold lOp at hh
  unfold wpOp
  split
  · rename_i ho; simp only [ho] at hh; exact h _ _ hh.2
  · rename_i o ho
    simp only [ho] at hh
    split
    · rename_i hw; simp only [hw, if_true] at hh; exact .inl (wp_of_loud h hh)
    · rename_i hw; simp only [hw] at hh; exact h _ _ hh.2
theorem wpAny_of_I {Q : Act → World → Prop} {Q' : Exit → Act → World → Prop} (hQ : ∀ a w, Q a w → Q' .normal a w) : ∀ (fuel : Nat) (listed : Array Bool) (a : Act) (w : World),
    wpAnyI P md ops I Q fuel listed a w → wpAny P md ops Q' fuel listed a w
  | 0, _, _, _, h => ⟨h.1, hQ _ _ h.2⟩
  | fuel + 1, _, _, _, h => ⟨fun h0 => hQ _ _ (h.1 h0), fun i hi => wpOp_of_lOp (fun a' w' => wpAny_of_I hQ fuel _ a' w') (h.2 i hi)⟩

/-- yields v in every world within I, which stays -/
def Always (P : Program) (ops : Array Oper) (I : World → Prop) (o : Oper) (v : Value) (a : Act) : Prop := ∀ w, I w → YieldsAt P ops w o v a
theorem Always.lOp {i : Nat} {o : Oper} {v : Value} {a : Act} {w : World} (hi : ops[i]? = some o) (hw0 : I w) (hy : Always P ops I o v a) {K : Act → World → Prop} (h : K (a.put o.dst v) w) : lOp P ops I i K a w := by
  unfold Go.Proofs.YtabebkffcmajkaaGreatDoor.lOp
  simp only [hi]
  rcases hy w hw0 with ⟨hw, hv | ⟨hv, rfl⟩ | ⟨f, args, hv, hc⟩⟩ | ⟨hw, rfl⟩
  · simp only [hw, if_true, loud, hv, loudUpon]; exact ⟨hw0, h⟩
  · simp only [hw, if_true, loud, hv, loudUpon]; exact ⟨hw0, h⟩
  · simp only [hw, if_true, loud, hv, loudUpon]
    exact hc.mono fun e w'' ⟨he, hw''⟩ => by subst hw''; exact ⟨v, he, hw0, h⟩
  · simp only [hw, Bool.false_eq_true, if_false]; exact ⟨hw0, h⟩

theorem lOp_put {j : Nat} {oi oj : Oper} {v : Value} (hj : ops[j]? = some oj) (hap : oi.apart ops oj = true)
    (hsi : ∀ cs b, oi.op ≠ .select cs b) (hsj : ∀ cs b, oj.op ≠ .select cs b) {K : Act → World → Prop} {a : Act} {w : World}
    (hy : Always P ops I oi v a) (h : lOp P ops I j K (a.put oi.dst v) w) :
    lOp P ops I j (fun a' w' => Always P ops I oi v a' ∧ K (a'.put oi.dst v) w') a w := by
  obtain ⟨h1, h2, h3⟩ := Oper.apart_spec hap
  have keep : ∀ (a : Act), Always P ops I oi v a → ∀ u, Always P ops I oi v (a.put oj.dst u) := fun a hy u w hw =>
    (hy w hw).of_same (execOp_put oi hsi a oj.dst u h3) (wanted_put oi a oj.dst u h3)
  unfold lOp at *
  simp only [hj] at *
  rw [wanted_put oj a oi.dst v h1] at h
  split
  · rename_i hw
    simp only [hw, if_true] at h
    unfold loud at *
    rw [execOp_put oj hsj a oi.dst v h1] at h
    generalize (execOp a.eval oj).run P w = r at *
    cases r with
    | ok n w' =>
      cases n <;> simp only [loudUpon] at h ⊢
      case value u => exact ⟨h.1, keep a hy u, by rw [← Act.put_comm a v u h2]; exact h.2⟩
      case skip => exact ⟨h.1, keep a hy _, by rw [← Act.put_comm a v undef h2]; exact h.2⟩
      case enter f args => exact h.mono fun e w'' ⟨u, he, hi, hn⟩ => ⟨u, he, hi, keep a hy u, by rw [← Act.put_comm a v u h2]; exact hn⟩
    | halt x w' => simp only [loudUpon] at h
  · rename_i hw
    simp only [hw] at h
    exact ⟨h.1, keep a hy _, by rw [← Act.put_comm a v undef h2]; exact h.2⟩

theorem wpAnyI_first {Q : Act → World → Prop} {i : Nat} {oi : Oper} {v : Value} (hi : ops[i]? = some oi) (hsel : ∀ (j : Nat) (o : Oper) cs b, ops[j]? = some o → o.op ≠ .select cs b) :
    ∀ (fuel : Nat) (listed : Array Bool) (a : Act) (w : World), I w →
      (∀ j oj, ops[j]? = some oj → j ≠ i → listed.getD j true = false → (∀ e ∈ oj.after, Region.binds md e = true → e.on ≠ i) → oi.apart ops oj = true) →
      i ∈ Region.ready md ops listed → Always P ops I oi v a →
      wpAnyI P md ops I Q fuel (listed.setIfInBounds i true) (a.put oi.dst v) w → wpAnyI P md ops I Q (fuel + 1) listed a w := by
  intro fuel
  induction fuel with
  | zero =>
    intro listed a w hw _ hr hy H
    refine ⟨fun h => (by rw [h] at hr; cases hr), fun j hj => ?_⟩
    by_cases hji : j = i
    · subst hji; exact hy.lOp hi hw H
    · have := ready_mono hj hji
      rw [H.1] at this
      cases this
  | succ fuel ih =>
    intro listed a w hw hfree hr hy H
    refine ⟨fun h => (by rw [h] at hr; cases hr), fun j hj => ?_⟩
    by_cases hji : j = i
    · subst hji; exact hy.lOp hi hw H
    · have h1 := H.2 j (ready_mono hj hji)
      obtain ⟨hjun, oj, hoj, hall⟩ := mem_ready.1 hj
      have hnot : ∀ e ∈ oj.after, Region.binds md e = true → e.on ≠ i := fun e he hb heq => by
        have h1 := hall e he hb
        have h0 := (mem_ready.1 hr).1
        rw [heq] at h1
        rcases Nat.lt_or_ge i listed.size with h' | h'
        · simp [h'] at h0 h1; rw [h0] at h1; cases h1
        · simp [Array.getElem?_eq_none h'] at h1
      have h2 := lOp_put hoj (hfree j oj hoj hji hjun hnot) (fun cs b => hsel i oi cs b hi) (fun cs b => hsel j oj cs b hoj) hy h1
      have hfree' : ∀ k ok, ops[k]? = some ok → k ≠ i → (listed.setIfInBounds j true).getD k true = false →
          (∀ e ∈ ok.after, Region.binds md e = true → e.on ≠ i) → oi.apart ops ok = true := fun k ok hk hki hun hno => by
        refine hfree k ok hk hki ?_ hno
        by_cases hjk : j = k
        · subst hjk; exact hjun
        · rw [getD_set_ne true hjk] at hun; exact hun
      refine lOp_mono (fun a' w' hw' h3 => ih (listed.setIfInBounds j true) a' w' hw' hfree' (ready_mono hr (Ne.symm hji)) h3.1 ?_) h2
      rw [Array.setIfInBounds_comm _ _ hji]
      exact h3.2

/-- the walk in the order that σ gives: (true, k): operation k only reads; (false, k): it may make new memory -/
def wpMix (P : Program) (ops : Array Oper) (I : World → Prop) (Q : Act → World → Prop) : List (Bool × Nat) → Act → World → Prop
  | [], a, w => Q a w
  | (true, k) :: l, a, w => ∃ o v, ops[k]? = some o ∧ Always P ops I o v a ∧ wpMix P ops I Q l (a.put o.dst v) w
  | (false, k) :: l, a, w => lOp P ops I k (wpMix P ops I Q l) a w
/-- whether σ is such an order -/
def mixB (md : Region.Mode) (ops : Array Oper) : List (Bool × Nat) → Array Bool → Bool
  | [], listed => (Region.ready md ops listed).isEmpty
  | (true, k) :: l, listed => (Region.ready md ops listed).contains k && Region.free md ops listed k && mixB md ops l (listed.setIfInBounds k true)
  | (false, k) :: l, listed => decide (Region.ready md ops listed = [k]) && mixB md ops l (listed.setIfInBounds k true)
theorem wpAnyI_mix {Q : Act → World → Prop} (hs : Region.noSelect ops = true) : ∀ (l : List (Bool × Nat)) (listed : Array Bool) (a : Act) (w : World), I w → mixB md ops l listed = true → wpMix P ops I Q l a w →
    wpAnyI P md ops I Q l.length listed a w
  | [], _, _, _, _, hB, h => ⟨by simpa [mixB] using hB, h⟩
  | (true, k) :: l, listed, a, w, hw, hB, ⟨o, v, ho, hy, h⟩ => by
    simp only [mixB, Bool.and_eq_true] at hB
    exact wpAnyI_first ho (Region.noSelect_spec hs) l.length listed a w hw (Region.free_spec ho hB.1.2) (by simpa using hB.1.1) hy (wpAnyI_mix hs l _ _ _ hw hB.2 h)
  | (false, k) :: l, listed, a, w, hw, hB, h => by
    simp only [mixB, Bool.and_eq_true, decide_eq_true_eq] at hB
    refine ⟨fun h1 => (by rw [hB.1] at h1; cases h1), fun i hi => ?_⟩
    rw [hB.1] at hi
    have hik : i = k := by simpa using hi
    subst hik
    exact lOp_mono (fun a' w' hw' h' => wpAnyI_mix hs l _ a' w' hw' hB.2 h') h

def Region.mixOk (md : Region.Mode) (ops : Array Oper) (l : List (Bool × Nat)) : Bool :=
  Region.noSelect ops && decide (l.length = ops.size) && mixB md ops l (Array.replicate ops.size false)
theorem region_mix {id : Nat} {Q : Exit → Act → World → Prop} {a : Act} {w : World} {l : List Oper} (σ : List (Bool × Nat)) (I : World → Prop) (hm : P.follows .mixedOrders = true) (hB : Region.mixOk .any l.toArray σ = true)
    (h : ∀ w', w' = w.drew → I w' ∧ wpMix P l.toArray I (fun a' w' => Q .normal a' w') σ a w') : (Code.region id l.toArray true).wp P Q a w := by
  simp only [Region.mixOk, Bool.and_eq_true, decide_eq_true_eq] at hB
  obtain ⟨hI, hx⟩ := h _ rfl
  refine wp_region_any hm (wpAny_of_I (I := I) (Q := fun a' w' => Q .normal a' w') (fun _ _ h => h) _ _ _ _ ?_)
  have := wpAnyI_mix (md := .any) hB.1.1 σ _ a _ hI hB.2 hx
  rw [hB.1.2] at this
  exact this

/-! ### Its steps -/
def quietV (P : Program) (_a : Act) (w : World) (_o : Oper) (K : Value → Prop) : Result Next → Prop
  | .ok (.value v) w' => w' = w ∧ K v
  | .ok .skip w' => w' = w ∧ K undef
  | .ok (.enter f args) w' => w' = w ∧ ∃ v, Calls P f args w (fun e w'' => e = .returned v ∧ w'' = w) ∧ K v
  | _ => False
theorem mix_quiet {Q : Act → World → Prop} {k : Nat} {o : Oper} {os : List Oper} {l : List (Bool × Nat)} {a : Act} {w : World} {v : Value} (ho : os[k]? = some o)
    (h : ∀ w', I w' → ∀ K : Value → Prop, K v → if Region.wanted o (yielded os.toArray a.tmps) then quietV P a w' o K ((execOp a.eval o).run P w') else K undef)
    (hn : wpMix P os.toArray I Q l (a.put o.dst v) w) : wpMix P os.toArray I Q ((true, k) :: l) a w := by
  refine ⟨o, v, by simpa using ho, fun w' hw' => ?_, hn⟩
  have h1 := h w' hw' (· = v) rfl
  unfold YieldsAt
  by_cases hwn : Region.wanted o (yielded os.toArray a.tmps) = true
  · rw [if_pos hwn] at h1
    refine .inl ⟨hwn, ?_⟩
    generalize (execOp a.eval o).run P w' = r at h1 ⊢
    cases r with
    | ok n w2 =>
      cases n <;> simp only [quietV] at h1
      case value u => obtain ⟨rfl, rfl⟩ := h1; exact .inl rfl
      case skip => obtain ⟨rfl, h2⟩ := h1; exact .inr (.inl ⟨rfl, h2.symm⟩)
      case enter f args => obtain ⟨rfl, u, hc, rfl⟩ := h1; exact .inr (.inr ⟨f, args, rfl, hc⟩)
    | halt x w2 => simp only [quietV] at h1
  · rw [if_neg hwn] at h1
    exact .inr ⟨by simpa using hwn, h1.symm⟩
theorem mix_loud {Q : Act → World → Prop} {k : Nat} {o : Oper} {os : List Oper} {l : List (Bool × Nat)} {a : Act} {w : World} (ho : os[k]? = some o)
    (h : ∀ K : Act → World → Prop, (∀ a w, wpMix P os.toArray I Q l a w → K a w) → if Region.wanted o (yielded os.toArray a.tmps) then loudUpon P o a I K ((execOp a.eval o).run P w) else I w ∧ K (a.put o.dst undef) w) : wpMix P os.toArray I Q ((false, k) :: l) a w := by
  have h1 := h _ (fun _ _ h => h)
  have ho' : os.toArray[k]? = some o := by simpa using ho
  unfold wpMix lOp loud
  rw [ho']
  exact h1
theorem mix_nil {Q : Act → World → Prop} {a : Act} {w : World} (h : Q a w) : wpMix P ops I Q [] a w := h
end
end Go.Proofs.YtabebkffcmajkaaGreatDoor

/-! Regions that draw, walked behind structures: Lean's own look at a goal then does not unfold a guarded operation (which takes minutes where a frame is wide). No program in it. -/
namespace Go.Proofs.YtabebkffcmajkaaGreatDoor
open Go.RowKit Go.Maps

section
variable {P : Program} {ops : Array Oper} {w : World} {K : Act → Prop}
structure StW (P : Program) (ops : Array Oper) (w : World) (K : Act → Prop) (l : List Oper) (a : Act) : Prop where
  out : wpStill P ops w K l a
theorem stw_step {o : Oper} {rest : List Oper} {a : Act} (h : ∀ K' : Act → Prop, (∀ a, StW P ops w K rest a → K' a) → if Region.wanted o (yielded ops a.tmps) then o.still P a w K' else K' (a.put o.dst undef)) : StW P ops w K (o :: rest) a :=
  ⟨wpStill_step fun K' hK => h K' fun a ha => hK a ha.out⟩
theorem stw_val {o : Oper} {rest : List Oper} {a : Act} {v : Value} (hg : o.guard = none) (hr : (execOp a.eval o).run P w = .ok (.value v) w) (h : StW P ops w K rest (a.put o.dst v)) : StW P ops w K (o :: rest) a :=
  ⟨still_val hg hr h.out⟩
theorem stw_nil {a : Act} (h : K a) : StW P ops w K [] a := ⟨wpStill_nil h⟩
theorem region_stw {id : Nat} {Q : Exit → Act → World → Prop} {a : Act} {l : List Oper} (hm : P.follows .mixedOrders = true) (hB : Region.lexB .any l.toArray = true)
    (h : ∀ w', w' = w.drew → StW P l.toArray w' (fun a' => Q .normal a' w') l a) : (Code.region id l.toArray true).wp P Q a w :=
  region_still hm hB fun w' hw' => (h w' hw').out
theorem region_stw_tail {id : Nat} {Q : Exit → Act → World → Prop} {a : Act} {l : List Oper} (n : Nat) (hm : P.follows .mixedOrders = true) (hB : Region.lexTailB .any l.toArray n = true)
    (h : ∀ w', w' = w.drew → StW P l.toArray w' (fun a' => wpList P l.toArray Q (l.drop n) a' w') (l.take n) a) : (Code.region id l.toArray true).wp P Q a w :=
  region_tail n hm hB fun w' hw' => (h w' hw').out
end

section
variable {P : Program} {I : World → Prop}
structure MxW (P : Program) (ops : Array Oper) (I : World → Prop) (Q : Act → World → Prop) (l : List (Bool × Nat)) (a : Act) (w : World) : Prop where
  out : wpMix P ops I Q l a w
theorem mxw_quiet {Q : Act → World → Prop} {k : Nat} {o : Oper} {os : List Oper} {l : List (Bool × Nat)} {a : Act} {w : World} {v : Value} (ho : os[k]? = some o)
    (h : ∀ w', I w' → ∀ K : Value → Prop, K v → if Region.wanted o (yielded os.toArray a.tmps) then quietV P a w' o K ((execOp a.eval o).run P w') else K undef)
    (hn : MxW P os.toArray I Q l (a.put o.dst v) w) : MxW P os.toArray I Q ((true, k) :: l) a w := ⟨mix_quiet ho h hn.out⟩
theorem mxw_loud {Q : Act → World → Prop} {k : Nat} {o : Oper} {os : List Oper} {l : List (Bool × Nat)} {a : Act} {w : World} (ho : os[k]? = some o)
    (h : ∀ K : Act → World → Prop, (∀ a w, MxW P os.toArray I Q l a w → K a w) → if Region.wanted o (yielded os.toArray a.tmps) then loudUpon P o a I K ((execOp a.eval o).run P w) else I w ∧ K (a.put o.dst undef) w) : MxW P os.toArray I Q ((false, k) :: l) a w :=
  ⟨mix_loud ho fun K hK => h K fun a w hm => hK a w hm.out⟩
theorem mxw_val {Q : Act → World → Prop} {k : Nat} {o : Oper} {os : List Oper} {l : List (Bool × Nat)} {a : Act} {w w' : World} {v : Value} (ho : os[k]? = some o) (hg : o.guard = none)
    (hr : (execOp a.eval o).run P w = .ok (.value v) w') (hI : I w') (h : MxW P os.toArray I Q l (a.put o.dst v) w') : MxW P os.toArray I Q ((false, k) :: l) a w :=
  mxw_loud ho fun K hK => by
    rw [if_pos (by simp [Region.wanted, hg]), hr]
    exact ⟨hI, hK _ _ h⟩
theorem mxw_nil {ops : Array Oper} {Q : Act → World → Prop} {a : Act} {w : World} (h : Q a w) : MxW P ops I Q [] a w := ⟨mix_nil h⟩
theorem region_mxw {id : Nat} {Q : Exit → Act → World → Prop} {a : Act} {w : World} {l : List Oper} (σ : List (Bool × Nat)) (I : World → Prop) (hm : P.follows .mixedOrders = true) (hB : Region.mixOk .any l.toArray σ = true)
    (h : ∀ w', w' = w.drew → I w' ∧ MxW P l.toArray I (fun a' w' => Q .normal a' w') σ a w') : (Code.region id l.toArray true).wp P Q a w :=
  region_mix σ I hm hB fun w' hw' => ⟨(h w' hw').1, (h w' hw').2.out⟩
end
end Go.Proofs.YtabebkffcmajkaaGreatDoor

/-! A region that draws, whose last operation T writes what the quiet ones have read: as Mx, but T need not keep I (every other operation waits to be listed before T). No program in it. -/
namespace Go.Proofs.YtabebkffcmajkaaGreatDoor
open Go.RowKit Go.Maps

section
variable {P : Program} {ops : Array Oper} {md : Region.Mode} {I : World → Prop} {T : Nat}
def wpAnyT (P : Program) (md : Region.Mode) (ops : Array Oper) (I : World → Prop) (T : Nat) (Q : Act → World → Prop) : Nat → Array Bool → Act → World → Prop
  | 0, listed, a, w => Region.ready md ops listed = [] ∧ Q a w
  | fuel + 1, listed, a, w =>
    (Region.ready md ops listed = [] → Q a w) ∧
    ∀ i ∈ Region.ready md ops listed, lOp P ops (fun w' => i ≠ T → I w') i (wpAnyT P md ops I T Q fuel (listed.setIfInBounds i true)) a w
theorem wpAny_of_T {Q : Act → World → Prop} {Q' : Exit → Act → World → Prop} (hQ : ∀ a w, Q a w → Q' .normal a w) : ∀ (fuel : Nat) (listed : Array Bool) (a : Act) (w : World),
    wpAnyT P md ops I T Q fuel listed a w → wpAny P md ops Q' fuel listed a w
  | 0, _, _, _, h => ⟨h.1, hQ _ _ h.2⟩
  | fuel + 1, _, _, _, h => ⟨fun h0 => hQ _ _ (h.1 h0), fun i hi => wpOp_of_lOp (fun a' w' => wpAny_of_T hQ fuel _ a' w') (h.2 i hi)⟩

theorem lOp_weak {J : World → Prop} {i : Nat} {K : Act → World → Prop} {a : Act} {w : World} (hJ : ∀ w, I w → J w) (h : lOp P ops I i K a w) : lOp P ops J i K a w := by
  unfold lOp at *
  split
  · rename_i ho; simp only [ho] at h; exact ⟨hJ _ h.1, h.2⟩
  · rename_i o ho
    simp only [ho] at h
    split
    · rename_i hw
      simp only [hw, if_true] at h
      unfold loud at *
      generalize (execOp a.eval o).run P w = r at *
      cases r with
      | ok n w' =>
        cases n <;> simp only [loudUpon] at h ⊢
        case enter f args => exact h.mono fun e w'' ⟨v, he, hi, hn⟩ => ⟨v, he, hJ _ hi, hn⟩
        all_goals exact ⟨hJ _ h.1, h.2⟩
      | halt x w' => simp only [loudUpon] at h
    · rename_i hw; simp only [hw] at h; exact ⟨hJ _ h.1, h.2⟩

theorem wpAnyT_first {Q : Act → World → Prop} {i : Nat} {oi : Oper} {v : Value} (hi : ops[i]? = some oi) (hsel : ∀ (j : Nat) (o : Oper) cs b, ops[j]? = some o → o.op ≠ .select cs b)
    (hs : Region.sinkB md ops T = true) (hc : Region.chainB md ops T = true) (hT : T + 1 = ops.size) (hiT : i < T) :
    ∀ (fuel : Nat) (listed : Array Bool) (a : Act) (w : World), I w → HeadInv md ops T listed →
      (∀ j oj, ops[j]? = some oj → j ≠ i → listed.getD j true = false → (∀ e ∈ oj.after, Region.binds md e = true → e.on ≠ i) → oi.apart ops oj = true) →
      i ∈ Region.ready md ops listed → Always P ops I oi v a →
      wpAnyT P md ops I T Q fuel (listed.setIfInBounds i true) (a.put oi.dst v) w → wpAnyT P md ops I T Q (fuel + 1) listed a w := by
  intro fuel
  induction fuel with
  | zero =>
    intro listed a w hw inv _ hr hy H
    refine ⟨fun h => (by rw [h] at hr; cases hr), fun j hj => ?_⟩
    by_cases hji : j = i
    · subst hji; exact lOp_weak (fun _ h _ => h) (hy.lOp hi hw H)
    · have := ready_mono hj hji
      rw [H.1] at this
      cases this
  | succ fuel ih =>
    intro listed a w hw inv hfree hr hy H
    refine ⟨fun h => (by rw [h] at hr; cases hr), fun j hj => ?_⟩
    by_cases hji : j = i
    · subst hji; exact lOp_weak (fun _ h _ => h) (hy.lOp hi hw H)
    · have h1 := H.2 j (ready_mono hj hji)
      obtain ⟨hjun, oj, hoj, hall⟩ := mem_ready.1 hj
      have hjlt : j < ops.size := (Array.getElem?_eq_some_iff.1 hoj).1
      have hjT : j ≠ T := fun e => tail_waits hs hc (by omega) inv (T - i) i rfl hiT (mem_ready.1 hr).1 j (by omega) hj
      have hnot : ∀ e ∈ oj.after, Region.binds md e = true → e.on ≠ i := fun e he hb heq => by
        have h1 := hall e he hb
        have h0 := (mem_ready.1 hr).1
        rw [heq] at h1
        rcases Nat.lt_or_ge i listed.size with h' | h'
        · simp [h'] at h0 h1; rw [h0] at h1; cases h1
        · simp [Array.getElem?_eq_none h'] at h1
      have h1' : lOp P ops I j (wpAnyT P md ops I T Q fuel ((listed.setIfInBounds i true).setIfInBounds j true)) (a.put oi.dst v) w := lOp_weak (fun _ h => h hjT) h1
      have h2 := lOp_put hoj (hfree j oj hoj hji hjun hnot) (fun cs b => hsel i oi cs b hi) (fun cs b => hsel j oj cs b hoj) hy h1'
      have hfree' : ∀ k ok, ops[k]? = some ok → k ≠ i → (listed.setIfInBounds j true).getD k true = false →
          (∀ e ∈ ok.after, Region.binds md e = true → e.on ≠ i) → oi.apart ops ok = true := fun k ok hk hki hun hno => by
        refine hfree k ok hk hki ?_ hno
        by_cases hjk : j = k
        · subst hjk; exact hjun
        · rw [getD_set_ne true hjk] at hun; exact hun
      refine lOp_weak (I := I) (fun _ h _ => h) (lOp_mono (fun a' w' hw' h3 => ih (listed.setIfInBounds j true) a' w' hw' (inv.set hj (by omega)) hfree' (ready_mono hr (Ne.symm hji)) h3.1 ?_) h2)
      rw [Array.setIfInBounds_comm _ _ hji]
      exact h3.2

def wpMixT (P : Program) (ops : Array Oper) (I : World → Prop) (T : Nat) (Q : Act → World → Prop) : List (Bool × Nat) → Act → World → Prop
  | [], a, w => Q a w
  | (true, k) :: l, a, w => ∃ o v, ops[k]? = some o ∧ Always P ops I o v a ∧ wpMixT P ops I T Q l (a.put o.dst v) w
  | (false, k) :: l, a, w => lOp P ops (fun w' => k ≠ T → I w') k (wpMixT P ops I T Q l) a w
def mixTB (md : Region.Mode) (ops : Array Oper) (T : Nat) : List (Bool × Nat) → Array Bool → Bool
  | [], listed => (Region.ready md ops listed).isEmpty
  | (true, k) :: l, listed => (Region.ready md ops listed).contains k && Region.free md ops listed k && decide (k < T) && mixTB md ops T l (listed.setIfInBounds k true)
  | (false, k) :: l, listed => decide (Region.ready md ops listed = [k]) && (decide (k < T) || l.isEmpty) && mixTB md ops T l (listed.setIfInBounds k true)
theorem wpAnyT_mix {Q : Act → World → Prop} (hsl : Region.noSelect ops = true) (hs : Region.sinkB md ops T = true) (hc : Region.chainB md ops T = true) (hT : T + 1 = ops.size) :
    ∀ (l : List (Bool × Nat)) (listed : Array Bool) (a : Act) (w : World), (l ≠ [] → I w) → (l ≠ [] → HeadInv md ops T listed) → mixTB md ops T l listed = true → wpMixT P ops I T Q l a w →
    wpAnyT P md ops I T Q l.length listed a w
  | [], _, _, _, _, _, hB, h => ⟨by simpa [mixTB] using hB, h⟩
  | (true, k) :: l, listed, a, w, hw, inv, hB, ⟨o, v, ho, hy, h⟩ => by
    simp only [mixTB, Bool.and_eq_true, decide_eq_true_eq] at hB
    have hr : k ∈ Region.ready md ops listed := by simpa using hB.1.1.1
    have inv' := inv (by simp)
    exact wpAnyT_first ho (Region.noSelect_spec hsl) hs hc hT hB.1.2 l.length listed a w (hw (by simp)) inv' (Region.free_spec ho hB.1.1.2) hr hy
      (wpAnyT_mix hsl hs hc hT l _ _ _ (fun _ => hw (by simp)) (fun _ => inv'.set hr hB.1.2) hB.2 h)
  | (false, k) :: l, listed, a, w, hw, inv, hB, h => by
    simp only [mixTB, Bool.and_eq_true, decide_eq_true_eq, Bool.or_eq_true] at hB
    refine ⟨fun h1 => (by rw [hB.1.1] at h1; cases h1), fun i hi => ?_⟩
    have hi2 := hi
    rw [hB.1.1] at hi
    have hik : i = k := by simpa using hi
    subst hik
    rcases hB.1.2 with hk | hl
    · exact lOp_mono (fun a' w' hw' h' => wpAnyT_mix hsl hs hc hT l _ a' w' (fun _ => hw' (by omega)) (fun _ => (inv (by simp)).set hi2 hk) hB.2 h') h
    · have hl' : l = [] := by simpa using hl
      exact lOp_mono (fun a' w' hw' h' => wpAnyT_mix hsl hs hc hT l _ a' w' (fun e => absurd hl' e) (fun e => absurd hl' e) hB.2 h') h
def mixTOk (md : Region.Mode) (ops : Array Oper) (T : Nat) (l : List (Bool × Nat)) : Bool :=
  Region.noSelect ops && decide (l.length = ops.size) && Region.sinkB md ops T && Region.chainB md ops T && decide (T + 1 = ops.size) && mixTB md ops T l (Array.replicate ops.size false)
theorem headInv_start : HeadInv md ops T (Array.replicate ops.size false) :=
  ⟨by simp, (fun j oj hj hl => by rw [getD_replicate_false] at hl; cases hl), fun t _ ht => by simp [ht]⟩

structure TxW (P : Program) (ops : Array Oper) (I : World → Prop) (T : Nat) (Q : Act → World → Prop) (l : List (Bool × Nat)) (a : Act) (w : World) : Prop where
  out : wpMixT P ops I T Q l a w
theorem region_txw {id : Nat} {Q : Exit → Act → World → Prop} {a : Act} {w : World} {l : List Oper} (T : Nat) (σ : List (Bool × Nat)) (I : World → Prop) (hm : P.follows .mixedOrders = true) (hB : mixTOk .any l.toArray T σ = true)
    (h : ∀ w', w' = w.drew → I w' ∧ TxW P l.toArray I T (fun a' w' => Q .normal a' w') σ a w') : (Code.region id l.toArray true).wp P Q a w := by
  simp only [mixTOk, Bool.and_eq_true, decide_eq_true_eq] at hB
  obtain ⟨⟨⟨⟨⟨h1, h2⟩, h3⟩, h4⟩, h5⟩, h6⟩ := hB
  obtain ⟨hI, hx⟩ := h _ rfl
  refine wp_region_any hm (wpAny_of_T (I := I) (T := T) (Q := fun a' w' => Q .normal a' w') (fun _ _ h => h) _ _ _ _ ?_)
  have := wpAnyT_mix (md := .any) h1 h3 h4 h5 σ _ a _ (fun _ => hI) (fun _ => headInv_start) h6 hx.out
  rw [h2] at this
  exact this
theorem txw_quiet {Q : Act → World → Prop} {k : Nat} {o : Oper} {os : List Oper} {l : List (Bool × Nat)} {a : Act} {w : World} {v : Value} (ho : os[k]? = some o)
    (h : ∀ w', I w' → ∀ K : Value → Prop, K v → if Region.wanted o (yielded os.toArray a.tmps) then quietV P a w' o K ((execOp a.eval o).run P w') else K undef)
    (hn : TxW P os.toArray I T Q l (a.put o.dst v) w) : TxW P os.toArray I T Q ((true, k) :: l) a w := by
  obtain ⟨o', v', h1, h2, h3⟩ := mix_quiet (l := []) (Q := fun a' _ => a' = a.put o.dst v) (w := w) ho h rfl
  refine ⟨⟨o', v', h1, h2, ?_⟩⟩
  have h3 : a.put o'.dst v' = a.put o.dst v := h3
  rw [h3]
  exact hn.out
theorem txw_loud {Q : Act → World → Prop} {k : Nat} {o : Oper} {os : List Oper} {l : List (Bool × Nat)} {a : Act} {w : World} (ho : os[k]? = some o)
    (h : ∀ K : Act → World → Prop, (∀ a w, TxW P os.toArray I T Q l a w → K a w) → if Region.wanted o (yielded os.toArray a.tmps) then loudUpon P o a (fun w' => k ≠ T → I w') K ((execOp a.eval o).run P w) else (k ≠ T → I w) ∧ K (a.put o.dst undef) w) : TxW P os.toArray I T Q ((false, k) :: l) a w := by
  have h1 := h _ (fun _ _ h => h.out)
  have ho' : os.toArray[k]? = some o := by simpa using ho
  refine ⟨?_⟩
  unfold wpMixT lOp loud
  rw [ho']
  exact h1
theorem txw_nil {Q : Act → World → Prop} {a : Act} {w : World} (h : Q a w) : TxW P ops I T Q [] a w := ⟨h⟩
end
end Go.Proofs.YtabebkffcmajkaaGreatDoor

/-! Ranges over functions: what bodies keep; regions that draw in a round. No program in it. -/
namespace Go.Proofs.YtabebkffcmajkaaGreatDoor
open Go.RowKit Go.Maps Go.Shelf

theorem Mod.of_grown {w w' : World} {row : Option Nat} (h : w.grownBy w' row) : Mod (fun k => some k = row) w w' := ⟨h.os, h.tape, h.output, h.size, fun k hk hs => h.block k hk hs⟩
/-- whatever is cells from block B on stays -/
structure KpR (B : Nat) (W W' : World) : Prop where
  size : W.heap.size ≤ W'.heap.size
  same : ∀ k cs t fr, B ≤ k → W.heap[k]? = some (.cells cs t fr) → W'.heap[k]? = some (.cells cs t fr)
theorem KpR.refl (B : Nat) (W : World) : KpR B W W := ⟨Nat.le_refl _, fun _ _ _ _ _ h => h⟩
theorem KpR.trans {B : Nat} {A C D : World} (h : KpR B A C) (k : KpR B C D) : KpR B A D := ⟨Nat.le_trans h.size k.size, fun i cs t fr hB hi => k.same i cs t fr hB (h.same i cs t fr hB hi)⟩
theorem KpR.putObj {B : Nat} (W : World) (l : Nat) (o o' : Obj) (hl : W.heap[l]? = some o) (ho : o.isCells = false) : KpR B W (W.putObj l o') :=
  ⟨by simp, fun k cs t fr _ hk => by
    by_cases e : k = l
    · subst e; rw [hk] at hl; cases hl; simp [Obj.isCells] at ho
    · exact (World.putObj_heap_other e).trans hk⟩
theorem Mod.grownBy {w w' : World} (h : Mod None_ w w') : w.grownBy w' Option.none := ⟨h.os, h.tape, h.output, h.size, fun k hk _ => h.block k hk id⟩
theorem Mod.kpR {S : Nat → Prop} {B : Nat} {w w' : World} (h : Mod S w w') (hs : ∀ k, B ≤ k → k < w.heap.size → ¬ S k) : KpR B w w' :=
  ⟨h.size, fun k cs t fr hB hk => by
    have hlt := (Array.getElem?_eq_some_iff.1 hk).1
    exact (h.block k hlt (hs k hB hlt)).trans hk⟩
theorem KpR.cell {B : Nat} {W W' : World} (h : KpR B W W') {g i : Nat} {v : Value} (hg : B ≤ g) (hc : W.cell? ⟨g, i, none⟩ = some v) : W'.cell? ⟨g, i, none⟩ = some v := by
  obtain ⟨o, ho, hoc⟩ := cells_of_cell hc
  cases o <;> simp [Obj.isCells] at hoc
  exact (World.cell?_of_block ((h.same g _ _ _ hg ho).trans ho.symm)).trans hc

/-- the block that the slice in a variable lies in -/
def ownerAt (W : World) (bl : Nat) : Option Nat := match W.cell? ⟨bl, 0, none⟩ with | some v => v.ownBlock | none => none
/-- whatever is cells from block B on stays, but for the row of the slice in the variable bl, which may be a new one -/
structure KpO (B bl : Nat) (W W' : World) : Prop where
  size : W.heap.size ≤ W'.heap.size
  same : ∀ k cs t fr, B ≤ k → W.heap[k]? = some (.cells cs t fr) → some k ≠ ownerAt W bl → W'.heap[k]? = some (.cells cs t fr)
  own : ∀ k, ownerAt W' bl = some k → ownerAt W bl = some k ∨ W.heap.size ≤ k
theorem KpO.refl (B bl : Nat) (W : World) : KpO B bl W W := ⟨Nat.le_refl _, fun _ _ _ _ _ h _ => h, fun _ h => .inl h⟩
theorem KpO.trans {B bl : Nat} {A C D : World} (h : KpO B bl A C) (k : KpO B bl C D) : KpO B bl A D :=
  ⟨Nat.le_trans h.size k.size, fun i cs t fr hB hi hne => k.same i cs t fr hB (h.same i cs t fr hB hi hne) (fun e => by
      rcases h.own i e.symm with e2 | e2
      · exact hne e2.symm
      · have := (Array.getElem?_eq_some_iff.1 hi).1; omega),
   fun i hi => by
    rcases k.own i hi with e | e
    · exact h.own i e
    · exact .inr (Nat.le_trans h.size e)⟩
theorem ownerAt_block {W W' : World} {bl : Nat} (h : W'.heap[bl]? = W.heap[bl]?) : ownerAt W' bl = ownerAt W bl := by
  unfold ownerAt; rw [World.cell?_of_block h]
theorem KpO.of_mod {S : Nat → Prop} {B bl : Nat} {W W' : World} (h : Mod S W W') (hbl : bl < W.heap.size) (hs : ¬ S bl) (hB : ∀ k, B ≤ k → k < W.heap.size → ¬ S k) : KpO B bl W W' :=
  ⟨h.size, fun k cs t fr hBk hk _ => by
      have hlt := (Array.getElem?_eq_some_iff.1 hk).1
      exact (h.block k hlt (hB k hBk hlt)).trans hk, fun k hk => .inl ((ownerAt_block (h.block bl hbl hs)).symm.trans hk)⟩
theorem KpO.putObj {B bl : Nat} (W : World) (l : Nat) (o o' : Obj) (hbl : bl ≠ l) (hl : W.heap[l]? = some o) (ho : o.isCells = false) : KpO B bl W (W.putObj l o') :=
  ⟨by simp, fun k cs t fr _ hk _ => by
    by_cases e : k = l
    · subst e; rw [hk] at hl; cases hl; simp [Obj.isCells] at ho
    · exact (World.putObj_heap_other e).trans hk, fun k hk => .inl ((ownerAt_block (World.putObj_heap_other hbl)).symm.trans hk)⟩
theorem KpO.alloc {B bl : Nat} (W : World) (o : Obj) (hbl : bl < W.heap.size) : KpO B bl W (W.alloc o) := KpO.of_mod ((Mod.refl None_ W).alloc o) hbl id (fun _ _ _ f => f)
/-- the iterator's word, where the variable held no row of its own when the loop began -/
theorem KpO.keep {w : World} {bl : Nat} (hbl : bl < w.heap.size) (hno : ownerAt w bl = none) : ∀ W0 W1 W' g j v, Below w.heap.size w W0 → Mod None_ W0 W1 → W0.heap.size ≤ g → KpO w.heap.size bl W1 W' → W1.cell? ⟨g, j, none⟩ = some v → W'.cell? ⟨g, j, none⟩ = some v := by
  intro W0 W1 W' g j v hb hm hg hk hc
  obtain ⟨o, ho, hoc⟩ := cells_of_cell hc
  have e : ownerAt W1 bl = none := by
    rw [ownerAt_block (hm.block bl (by have := hb.size; omega) id), ownerAt_block (hb.block bl hbl)]; exact hno
  cases o <;> simp [Obj.isCells] at hoc
  exact (World.cell?_of_block ((hk.same g _ _ _ (by have := hb.size; omega) ho (by rw [e]; simp)).trans ho.symm)).trans hc

theorem own_blk {w : World} {base e size n : Nat} {v : Value} {xs : List Value} (h : w.ownsRow base e size v n xs) {g : Nat} (hg : v.ownBlock = some g) : base ≤ g ∧ ∃ cur, w.heap[g]? = some (.cells cur e (0, 0)) := by
  rcases h.2 with ⟨rfl, _⟩ | ⟨g', cap, cur, rfl, hb, hh, _⟩
  · cases hg
  · have : g' = g := by simpa [Value.ownBlock] using hg
    subst this
    exact ⟨hb, cur, hh⟩
theorem own_mod {S : Nat → Prop} {w w' : World} {base e size n : Nat} {v : Value} {xs : List Value} (h : w.ownsRow base e size v n xs) (hm : Mod S w w') (hs : ∀ g, v.ownBlock = some g → ¬ S g) : w'.ownsRow base e size v n xs := by
  refine ⟨h.1, ?_⟩
  rcases h.2 with h2 | ⟨g, cap, cur, rfl, hb, hh, r⟩
  · exact .inl h2
  · refine .inr ⟨g, cap, cur, rfl, hb, ?_, r⟩
    rw [hm.block g (Array.getElem?_eq_some_iff.1 hh).1 (hs g rfl)]
    exact hh
theorem own_slice {w : World} {base e size n : Nat} {v : Value} {xs : List Value} (h : w.ownsRow base e size v n xs) : ∃ A c, v = .slice A n c := by
  rcases h.2 with ⟨rfl, rfl⟩ | ⟨g, cap, cur, rfl, _⟩
  · exact ⟨_, _, rfl⟩
  · exact ⟨_, _, rfl⟩
theorem at_slotIn {F : Fence} {m : Nat} {P : Program} {ops : Array Oper} {rest : List Oper} {a : Act} {w : World} {Q : Exit → Act → World → Prop} (n : Nat) {op : Op} {ty : TypeId} {pos : String} {after : Array Edge} {g : Option (Nat × Bool)}
    (h : wpListIn F m P ops Q (⟨some n, op, ty, pos, after, g⟩ :: rest) a w) : wpListIn F m P ops Q (⟨some n, op, ty, pos, after, g⟩ :: rest) a w := h
/-- what a round does that appends to a slice of its own in the variable bl -/
theorem grown_keeps (tS tE sz : Nat) {B bl : Nat} {U w1 : World} {A A2 : Option Addr} {n c n2 c2 : Nat} {xs xs2 : List Value} (hbl : bl < B) (_hB : B ≤ U.heap.size) (hv : Blk U bl tS #[.slice A n c]) (hown : U.ownsRow B tE sz (.slice A n c) n xs) (hown2 : w1.ownsRow B tE sz (.slice A2 n2 c2) n2 xs2)
    (hm : Mod (fun k => some k = (Value.slice A n c).ownBlock) U w1) (hat : (Value.slice A2 n2 c2).ownBlock = (Value.slice A n c).ownBlock ∨ (Value.slice A2 n2 c2).ownBlock = some (U.heap.size + 1)) :
    KeepsFrom B U (w1.setCell ⟨bl, 0, none⟩ (.slice A2 n2 c2)) ∧ KpO B bl U (w1.setCell ⟨bl, 0, none⟩ (.slice A2 n2 c2)) ∧ Blk (w1.setCell ⟨bl, 0, none⟩ (.slice A2 n2 c2)) bl tS #[.slice A2 n2 c2] ∧ (w1.setCell ⟨bl, 0, none⟩ (.slice A2 n2 c2)).ownsRow B tE sz (.slice A2 n2 c2) n2 xs2 ∧
      Mod (fun k => B ≤ k ∨ k = bl) U (w1.setCell ⟨bl, 0, none⟩ (.slice A2 n2 c2)) := by
  have hob : ∀ g, (Value.slice A n c).ownBlock = some g → B ≤ g ∧ ∃ cur, U.heap[g]? = some (.cells cur tE (0, 0)) := fun g hg => own_blk hown hg
  have hv1 := hv.mod hm (fun e => by have := (hob _ e.symm).1; omega)
  have hv2 : Blk (w1.setCell ⟨bl, 0, none⟩ (.slice A2 n2 c2)) bl tS #[.slice A2 n2 c2] := by simpa using hv1.set_ 0 (.slice A2 n2 c2)
  refine ⟨⟨by simpa [World.setCell] using hm.size, fun k o hk ho hoc => ?_⟩, ⟨by simpa [World.setCell] using hm.size, fun k cs t fr hk hc hne => ?_, fun k hk => ?_⟩, hv2, own_mod hown2 ((Mod.refl (· = bl) w1).setCell (p := ⟨bl, 0, none⟩) (.inr rfl) _) (fun g hg e => by have := (own_blk hown2 hg).1; omega), ?_⟩
  · have hlt := (Array.getElem?_eq_some_iff.1 ho).1
    refine (Below.heap_setCell w1 _ _ k (by simp; omega)).trans ((hm.block k hlt (fun e => ?_)).trans ho)
    obtain ⟨_, cur, hh⟩ := hob k e.symm
    rw [hh] at ho; cases ho; simp [Obj.isCells] at hoc
  · have hlt := (Array.getElem?_eq_some_iff.1 hc).1
    refine (Below.heap_setCell w1 _ _ k (by simp; omega)).trans ((hm.block k hlt (fun e => ?_)).trans hc)
    apply hne
    rw [e]; unfold ownerAt; rw [hv.cell 0]; rfl
  · have e1 : ownerAt (w1.setCell ⟨bl, 0, none⟩ (.slice A2 n2 c2)) bl = (Value.slice A2 n2 c2).ownBlock := by unfold ownerAt; rw [hv2.cell 0]; rfl
    have e2 : ownerAt U bl = (Value.slice A n c).ownBlock := by unfold ownerAt; rw [hv.cell 0]; rfl
    rw [e1] at hk
    rcases hat with h | h
    · left; rw [e2, ← h]; exact hk
    · right; rw [h] at hk; injection hk with hk; omega
  · exact Mod.setCell (S := fun k => B ≤ k ∨ k = bl) (hm.mono fun k _ e => .inl (hob k e.symm).1) (.inr (.inr rfl)) _
/-- the contract from the body, walked in the usual form -/
theorem calls_of_wp_marks (n : Nat) {P : Program} {f : FuncId} {fn : Func} {c : Code} {args : Array Value} {w : World} {R : Ending → World → Prop} (hf : P.funcs[f]? = some fn) (hb : fn.body = some c)
    (h : c.wp P (bodyPostM Fence.wide n P fn R) { tmps := args ++ Array.replicate (fn.ntmps - args.size) undef, defers := [] } w) : Calls P f args w R :=
  (callsIn_wide (n := n)).1 (callsIn_of_wp_marks hf hb trivial (wpIn_wide.2 h) rfl)

/-- a range over an iterator that has its contract, walked in the usual form: F is what holds behind it, however it was left (at its end, or by the exit id) -/
theorem wp_range_mid {α : Type} {P : Program} {g : Operand} {ps : Array Tmp} {assign body : Code} {Q : Exit → Act → World → Prop} {a : Act} {w : World} (n : Nat) (h1 : 1 ≤ n) {gf : Nat} {lb : Array Value}
    (hg : a.eval g = .func (.func gf) #[] lb) (eg : ∀ args w, (callFunc gf args).run P w = .ok (.enter gf args) w) {encs : α → Array Value} {Kp : World → World → Prop} {S Sp : List α → Prop} {N : Nat} {w0 : World}
    (hseq : SeqStopsK Fence.wide (n - 1) P gf lb encs Kp S Sp N w0) (hKt : ∀ {A B C : World}, Kp A B → Kp B C → Kp A C)
    (hKb : ∀ (W : World) (l : Nat) (o o' : Obj), w.heap.size ≤ l → W.heap[l]? = some o → o.isCells = false → o.isWalk = false → Kp W (W.putObj l o')) (hb0 : Below w0.heap.size w0 w) (hps : ∀ x, (encs x).size = ps.size)
    (I : List α → World → Prop) (Ix : Code → List α → World → Prop) (id : Nat) (F : World → Prop) (hI : OwnFrom w.heap.size I) (hIx : ∀ c, OwnFrom w.heap.size (Ix c)) (h0 : I [] w)
    (hdone : ∀ xs W, S xs → I xs W → F W) (hstop : ∀ c pre W, Sp pre → Ix c pre W → c = .exit id ∧ F W)
    (h : ∃ a₁ : α → Act, (∀ (l : Nat) (x : α) (W : World) (K : Act → World → Prop), K (a₁ x) W → assign.wpIn (Fence.wide.inRound l) (n - 1 - 1) P (Exit.then K (fun _ _ _ => False)) { tmps := (ps.zip (encs x)).foldl (fun t (p, v) => t.setIfInBounds p v) a.tmps, defers := [] } W) ∧
      ∀ (l : Nat) (pre : List α) (x : α) (W : World), I pre W → pre.length < N → body.wpIn (Fence.wide.inRound l) (n - 1 - 1) P (ownPostG w.heap.size Kp I Ix (pre ++ [x]) W) (a₁ x) W)
    (hQ : ∀ (D : Nat) (W : World), w.heap.size ≤ D → F W → W.heap[D]? = some (.deferred (some [])) → Q .normal { tmps := a.tmps, defers := { target := .collected D, args := #[] } :: a.defers } W) :
    (Code.rangeFunc g ps assign body).wp P (Exit.inBlock id Q) a w := by
  obtain ⟨a₁, ha, hbd⟩ := h
  refine wpIn_wide.1 (wpIn_rangeFunc_ownG (F := Fence.wide) (n := n) rfl h1 hg trivial eg hseq (fun h k => hKt h k) hKb hb0 hps I Ix hI hIx h0 a₁ ha hbd (fun D xs W hD hs hi hk => hQ D W hD (hdone xs W hs hi) hk) (fun D c pre W hD hs hi hk => ?_))
  obtain ⟨rfl, hF⟩ := hstop c pre W hs hi
  exact wpIn_wide.2 (wp_exit (by show (if id = id then _ else _); rw [if_pos rfl]; exact hQ D W hD hF hk))
/-- the same, where the body may return as well: G is what holds then -/
theorem wp_range_two {α : Type} {P : Program} {g : Operand} {ps : Array Tmp} {assign body : Code} {Q : Exit → Act → World → Prop} {a : Act} {w : World} (n : Nat) (h1 : 1 ≤ n) {gf : Nat} {lb : Array Value}
    (hg : a.eval g = .func (.func gf) #[] lb) (eg : ∀ args w, (callFunc gf args).run P w = .ok (.enter gf args) w) {encs : α → Array Value} {Kp : World → World → Prop} {S Sp : List α → Prop} {N : Nat} {w0 : World}
    (hseq : SeqStopsK Fence.wide (n - 1) P gf lb encs Kp S Sp N w0) (hKt : ∀ {A B C : World}, Kp A B → Kp B C → Kp A C)
    (hKb : ∀ (W : World) (l : Nat) (o o' : Obj), w.heap.size ≤ l → W.heap[l]? = some o → o.isCells = false → o.isWalk = false → Kp W (W.putObj l o')) (hb0 : Below w0.heap.size w0 w) (hps : ∀ x, (encs x).size = ps.size)
    (I : List α → World → Prop) (Ix : Code → List α → World → Prop) (id : Nat) (F G : World → Prop) (hI : OwnFrom w.heap.size I) (hIx : ∀ c, OwnFrom w.heap.size (Ix c)) (h0 : I [] w)
    (hdone : ∀ xs W, S xs → I xs W → F W) (hstop : ∀ c pre W, Sp pre → Ix c pre W → (c = .exit id ∧ F W) ∨ (c = .ret ∧ G W))
    (h : ∃ a₁ : α → Act, (∀ (l : Nat) (x : α) (W : World) (K : Act → World → Prop), K (a₁ x) W → assign.wpIn (Fence.wide.inRound l) (n - 1 - 1) P (Exit.then K (fun _ _ _ => False)) { tmps := (ps.zip (encs x)).foldl (fun t (p, v) => t.setIfInBounds p v) a.tmps, defers := [] } W) ∧
      ∀ (l : Nat) (pre : List α) (x : α) (W : World), I pre W → pre.length < N → body.wpIn (Fence.wide.inRound l) (n - 1 - 1) P (ownPostG w.heap.size Kp I Ix (pre ++ [x]) W) (a₁ x) W)
    (hQ : ∀ (D : Nat) (W : World), w.heap.size ≤ D → F W → W.heap[D]? = some (.deferred (some [])) → Q .normal { tmps := a.tmps, defers := { target := .collected D, args := #[] } :: a.defers } W)
    (hQ2 : ∀ (D : Nat) (W : World), w.heap.size ≤ D → G W → W.heap[D]? = some (.deferred (some [])) → Exit.inBlock id Q .ret { tmps := a.tmps, defers := { target := .collected D, args := #[] } :: a.defers } W) :
    (Code.rangeFunc g ps assign body).wp P (Exit.inBlock id Q) a w := by
  obtain ⟨a₁, ha, hbd⟩ := h
  refine wpIn_wide.1 (wpIn_rangeFunc_ownG (F := Fence.wide) (n := n) rfl h1 hg trivial eg hseq (fun h k => hKt h k) hKb hb0 hps I Ix hI hIx h0 a₁ ha hbd (fun D xs W hD hs hi hk => hQ D W hD (hdone xs W hs hi) hk) (fun D c pre W hD hs hi hk => ?_))
  rcases hstop c pre W hs hi with ⟨rfl, hF⟩ | ⟨rfl, hG⟩
  · exact wpIn_wide.2 (wp_exit (by show (if id = id then _ else _); rw [if_pos rfl]; exact hQ D W hD hF hk))
  · exact wpIn_wide.2 (wp_ret (hQ2 D W hD hG hk))
theorem KeepsFrom.of_mod {S : Nat → Prop} {B : Nat} {w w' : World} (h : Mod S w w') (hs : ∀ k, B ≤ k → k < w.heap.size → ¬ S k) : KeepsFrom B w w' :=
  ⟨h.size, fun k o hB hk _ => by
    have hlt := (Array.getElem?_eq_some_iff.1 hk).1
    exact (h.block k hlt (hs k hB hlt)).trans hk⟩
/-- what stays over a growth that touches no cells -/
theorem mod_of_grown_own {S : Nat → Prop} {w A B : World} {row : Option Nat} {lo : Nat} (h : Mod S w A) (hg : A.grownBy B row) (hr : ∀ r, row = some r → lo ≤ r ∧ ∃ o : Obj, A.heap[r]? = some o ∧ o.isCells = false) (hlo : w.heap.size ≤ lo) : Mod S w B :=
  h.trans' (Mod.of_grown hg) fun k hk e => by have := (hr k e.symm).1; omega
theorem blk_of_grown_own {A B : World} {row : Option Nat} {lo g : Nat} {t : TypeId} {cs : Array Value} (h : Blk A g t cs) (hg : A.grownBy B row) (hr : ∀ r, row = some r → lo ≤ r ∧ ∃ o : Obj, A.heap[r]? = some o ∧ o.isCells = false) (hlo : g < lo) : Blk B g t cs :=
  h.mod (Mod.of_grown hg) fun e => by have := (hr g e.symm).1; omega

/-! ### A region that draws and only reads, in a round -/
section
variable {P : Program} {ops : Array Oper} {w : World} {l n : Nat}
def noDefer (ops : List Oper) : Bool := ops.all fun o => match o.op with | .defer _ => false | _ => true
theorem noDefer_spec {os : List Oper} (h : noDefer os = true) {i : Nat} {o : Oper} (ho : os.toArray[i]? = some o) : ∀ c, o.op ≠ .defer c := fun c e => by
  have hm : o ∈ os := List.mem_of_getElem? (by simpa using ho)
  have := List.all_eq_true.1 h o hm
  rw [e] at this
  cases this
theorem wpIn_of_still {o : Oper} {a : Act} {K : Act → Prop} {K' : Act → World → Prop} {Q' : Exit → Act → World → Prop} (hd : ∀ c, o.op ≠ .defer c) (h : ∀ a, K a → K' a w) (hh : o.still P a w K) : o.wpIn (Fence.wide.inRound l) n P a w K' Q' := by
  refine ⟨fun f _ => trivial, ?_⟩
  rw [Oper.semAt_plain (Fence.wide.inRound l) _ _ hd]
  unfold Oper.still at hh
  generalize (execOp a.eval o).run P w = r at *
  cases r with
  | ok x w' =>
    cases x <;> simp only [Oper.stillUpon] at hh <;> simp only [Oper.uponIn]
    case enter f args =>
      obtain ⟨rfl, v, hc, hn⟩ := hh
      refine ⟨fun e => (by cases e), CallsIn.inRound l (callsIn_wide.2 (hc.mono fun e w'' ⟨he, hw⟩ => ?_))⟩
      subst he
      subst hw
      exact h _ hn
    all_goals (obtain ⟨rfl, h2⟩ := hh; exact h _ h2)
  | halt x w' => simp only [Oper.stillUpon] at hh
theorem wpOpIn_of_stOp {os : List Oper} (hnd : noDefer os = true) {i : Nat} {a : Act} {K : Act → Prop} {K' : Act → World → Prop} {Q' : Exit → Act → World → Prop} (h : ∀ a, K a → K' a w) (hh : stOp P os.toArray w i K a) : wpOpIn (Fence.wide.inRound l) n P os.toArray Q' i K' a w := by
  unfold stOp at hh
  unfold wpOpIn
  split
  · rename_i ho; simp only [ho] at hh; exact h _ hh
  · rename_i o ho
    simp only [ho] at hh
    split
    · rename_i hw; simp only [hw, if_true] at hh; exact wpIn_of_still (noDefer_spec hnd ho) h hh
    · rename_i hw; simp only [hw] at hh; exact ⟨fun f _ => trivial, h _ hh⟩
theorem wpAnyIn_of_still {os : List Oper} (hnd : noDefer os = true) {Q : Act → Prop} {Q' : Exit → Act → World → Prop} (hQ : ∀ a, Q a → Q' .normal a w) : ∀ (fuel : Nat) (listed : Array Bool) (a : Act),
    wpAnyS P .any os.toArray w Q fuel listed a → wpAnyIn (Fence.wide.inRound l) n P .any os.toArray Q' fuel listed a w
  | 0, _, _, h => ⟨h.1, hQ _ h.2⟩
  | fuel + 1, _, _, h => ⟨fun h0 => hQ _ (h.1 h0), fun i hi => wpOpIn_of_stOp hnd (fun a' => wpAnyIn_of_still hnd hQ fuel _ a') (h.2 i hi)⟩
theorem region_stw_in {id : Nat} {Q : Exit → Act → World → Prop} {a : Act} {os : List Oper} (hm : P.follows .mixedOrders = true) (hB : Region.lexB .any os.toArray = true) (hnd : noDefer os = true)
    (h : ∀ w', w' = w.drew → StW P os.toArray w' (fun a' => Q .normal a' w') os a) : (Code.region id os.toArray true).wpIn (Fence.wide.inRound l) n P Q a w := by
  simp only [Region.lexB, Bool.and_eq_true] at hB
  refine wpIn_region_any hm (wpAnyIn_of_still hnd (Q := fun a' => Q .normal a' w.drew) (fun _ h => h) _ _ _ ?_)
  have := wpAnyS_lex (P := P) (md := .any) (w := w.drew) hB.1 os 0 (Array.replicate os.toArray.size false) a (by simp) (by simpa using hB.2) (h _ rfl).out
  simpa using this
end
end Go.Proofs.YtabebkffcmajkaaGreatDoor

/-! Walks: List. -/
namespace Go.Proofs.YtabebkffcmajkaaGreatDoor
open Go.RowKit Go.Maps

def namesIn (rows : List Row) (d : Int) : List ByteArray := (rows.filter (fun r => decide (r.dir = d))).map (·.name)
def listNames (rows : List Row) (d : Int) : List ByteArray := sortNames (namesIn rows d)
theorem namesIn_length (rows : List Row) (d : Int) : (namesIn rows d).length = cntDir rows d := by simp [namesIn, cntDir]
theorem namesIn_perm {rows rows' : List Row} (h : rows.Perm rows') (d : Int) : (namesIn rows d).Perm (namesIn rows' d) := (h.filter _).map _

theorem own_lt {w : World} {base e size n : Nat} {v : Value} {xs : List Value} (h : w.ownsRow base e size v n xs) {g : Nat} (hg : v.ownBlock = some g) : g < w.heap.size := by
  obtain ⟨_, cur, hh⟩ := own_blk h hg
  exact (Array.getElem?_eq_some_iff.1 hh).1

theorem map_perm_cons {lrows : List Row} {p : Value × Value} {left' : List (Value × Value)} (h : (lrows.map Row.kv).Perm (p :: left')) :
    ∃ r lrows', lrows.Perm (r :: lrows') ∧ p = r.kv ∧ left'.Perm (lrows'.map Row.kv) := by
  have hm : p ∈ lrows.map Row.kv := h.mem_iff.2 (by simp)
  obtain ⟨r, hr, rfl⟩ := List.mem_map.1 hm
  obtain ⟨lrows', hl⟩ := mem_perm hr
  refine ⟨r, lrows', hl, rfl, ?_⟩
  have := h.symm.trans (hl.map Row.kv)
  rw [List.map_cons] at this
  exact this.cons_inv

theorem info36 : (Tryz.prog.info? 75).map (fun i => (i.zero, i.size, i.bytes)) = some (some (.agg #[.string ByteArray.empty, .int .i64 0]), 2, 24) := by kernel_rfl

theorem eq_of_perm_pairwise {α : Type} {le : α → α → Prop} (anti : ∀ a b, le a b → le b a → a = b) : ∀ {l l' : List α}, l.Perm l' → l.Pairwise le → l'.Pairwise le → l = l'
  | [], l', hp, _, _ => (hp.symm.eq_nil).symm
  | a :: l, [], hp, _, _ => hp.eq_nil
  | a :: l, b :: l', hp, h1, h2 => by
    obtain ⟨h1a, h1b⟩ := List.pairwise_cons.1 h1
    obtain ⟨h2a, h2b⟩ := List.pairwise_cons.1 h2
    have hab : a = b := by
      rcases List.mem_cons.1 (hp.mem_iff.1 (List.mem_cons_self (a := a) (l := l))) with e | ha
      · exact e
      · rcases List.mem_cons.1 (hp.mem_iff.2 (List.mem_cons_self (a := b) (l := l'))) with e | hb
        · exact e.symm
        · exact anti a b (h1a b hb) (h2a a ha)
    subst hab
    rw [eq_of_perm_pairwise anti hp.cons_inv h1b h2b]
theorem sortNames_sorted (l : List ByteArray) : (sortNames l).Pairwise (fun x y => (!strLt y x) = true) := by
  refine List.pairwise_mergeSort ?_ ?_ l
  · intro x y z h1 h2
    simp only [Bool.not_eq_true'] at *
    cases h : strLt z x
    · rfl
    · cases h3 : strLt x y
      · have := strLt_tri h3 h1
        subst this
        rw [h] at h2; cases h2
      · have := strLt_trans h h3
        rw [this] at h2; cases h2
  · intro x y
    cases h : strLt y x
    · rfl
    · rw [strLt_asymm h]; rfl
theorem sortNames_perm {l l' : List ByteArray} (h : l.Perm l') : sortNames l = sortNames l' :=
  eq_of_perm_pairwise (le := fun x y => (!strLt y x) = true) (fun a b h1 h2 => by
      simp only [Bool.not_eq_true'] at h1 h2
      exact strLt_tri h2 h1) ((List.mergeSort_perm _ _).trans (h.trans (List.mergeSort_perm _ _).symm)) (sortNames_sorted l) (sortNames_sorted l')

theorem kv_inj {r r' : Row} (h : r.kv = r'.kv) : r = r' := by
  simp only [Row.kv, Prod.mk.injEq, keyV, Value.agg.injEq, Value.int.injEq, true_and] at h
  obtain ⟨h1, h2⟩ := keyA_inj h.1
  cases r; cases r'; simp_all
theorem mem_of_kv {rows : List Row} {r : Row} (h : r.kv ∈ rows.map Row.kv) : r ∈ rows := by
  obtain ⟨r', hr, e⟩ := List.mem_map.1 h
  rw [← kv_inj e]; exact hr
theorem own_ne_iter {P : Program} {k : Nat} {w : World} {r b base e size n : Nat} {v : Value} {xs : List Value} {l left : List (Value × Value)} (h : w.ownsRow base e size v n xs) (hr : Ranging P k w r b l left) : ∀ g, v.ownBlock = some g → g ≠ r := by
  rintro g hg rfl
  obtain ⟨_, cur, hh⟩ := own_blk h hg
  obtain ⟨_, _, _, _, h2, _⟩ := hr.ex
  rw [hh] at h2; cases h2
theorem namesIn_cons_eq (r : Row) (l : List Row) : namesIn (r :: l) r.dir = r.name :: namesIn l r.dir := by
  unfold namesIn; rw [List.filter_cons_of_pos (by simp)]; rfl
theorem namesIn_cons_ne {r : Row} {l : List Row} {d : Int} (h : r.dir ≠ d) : namesIn (r :: l) d = namesIn l d := by
  unfold namesIn; rw [List.filter_cons_of_neg (by simpa using h)]
theorem dentCells_snoc (f : ByteArray → Int) (l : List ByteArray) (x : ByteArray) : dentCells f (l ++ [x]) = dentCells f l ++ [.string x, .int .i64 (f x)] := by
  unfold dentCells; rw [List.flatMap_append]; rfl

/-- the loop of List: rows that are still to come, names that were collected -/
def ListRel (w : World) (b r : Nat) (rows : List Row) (d : Int) (n : Nat) (v : Value) (wr : World) : Prop :=
  ∃ lrows acc, lrows.length ≤ n ∧ Ranging Tryz.prog 133 wr r b (rows.map Row.kv) (lrows.map Row.kv) ∧ (acc ++ namesIn lrows d).Perm (namesIn rows d) ∧
    wr.ownsRow w.heap.size 75 2 v acc.length (dentCells (findIno rows d) acc) ∧ Mod None_ w wr ∧ w.heap.size ≤ r

def ListPost (w : World) (rows : List Row) (d : Int) : Ending → World → Prop :=
  fun e w' => ∃ v, e = .returned v ∧ w'.ownsRow w.heap.size 75 2 v (listNames rows d).length (dentCells (findIno rows d) (listNames rows d)) ∧ Mod None_ w w'

set_option maxRecDepth 100000 in
set_option maxHeartbeats 400000 in
theorem list_none (w : World) (b : Nat) (rows : List Row) (d : Int) (hd : (Lit.int .i64 d).wf = true) (h : IndexAt w b rows) (h0 : cntDir rows d = 0) :
    Calls Tryz.prog 41 #[.pointer (some ⟨b + 3, 0, none⟩), .int .i64 d] w (ListPost w rows d) := by
  obtain ⟨c0, c1, c2⟩ := h.cells
  have hl := h.names.look d hd
  have hnil : listNames rows d = [] := by
    have : namesIn rows d = [] := List.eq_nil_of_length_eq_zero (by rw [namesIn_length]; exact h0)
    unfold listNames sortNames
    rw [this]; exact List.mergeSort_nil
  have HN := hide hnil
  rw [h0] at hl
  clear hnil h0
  go_enter Tryz.func41, Tryz.ntmps41
  go_wp2
  go_ret
  exact ⟨_, rfl, by rw [HN.out]; exact ⟨rfl, .inl ⟨rfl, rfl⟩⟩, Mod.refl _ _⟩

set_option maxRecDepth 100000 in
set_option maxHeartbeats 2000000 in
theorem list_some (w : World) (b : Nat) (rows : List Row) (d : Int) (hlen : rows.length ≤ 5000000000000) (hd : (Lit.int .i64 d).wf = true) (h : IndexAt w b rows) (h0 : cntDir rows d ≠ 0) :
    Calls Tryz.prog 41 #[.pointer (some ⟨b + 3, 0, none⟩), .int .i64 d] w (ListPost w rows d) := by
  obtain ⟨i0, hi, hz, hsz, hby⟩ := info_parts info36
  obtain ⟨c0, c1, c2⟩ := h.cells
  have hl := h.names.look d hd
  have hcb : cntDir rows d ≤ 5000000000000 := Nat.le_trans (cntDir_le rows d) hlen
  have HI := hide h
  obtain ⟨c, hc⟩ : ∃ c, c = cntDir rows d := ⟨_, rfl⟩
  rw [← hc] at hl h0 hcb
  clear h hc
  have h0' : ((c : Int) == 0) = false := by rw [beq_eq_false_iff_ne]; omega
  go_enter Tryz.func41, Tryz.ntmps41
  go_wp2_with (first
    | ((with_reducible refine at_slot 21 ?_); refine wpList_make_own _ rfl _ _ 31 rfl w.heap.size 75 i0 _ 2 Tryz.underlying31 hi hz hsz .i64 .i64 (c : Int) c rfl rfl rfl (by rw [hby]; omega) (by simp only [maxLen]; omega) (Nat.le_refl _) ?_; intro w1 hown1 hg1; go_frame
       have hm1 : Mod None_ w w1 := (Mod.of_grown hg1).mono (fun _ _ e => by cases e)
       have hI1 := HI.out.kept hm1
       obtain ⟨o, hrn, hrg⟩ := hI1.inos.range Tryz.underlying127
       have hm2 : Mod None_ w (w1.alloc o) := hm1.alloc o
       have hown2 := own_mod hown1 ((Mod.refl None_ w1).alloc o) (fun _ _ f => f)
       have hge : w.heap.size ≤ w1.heap.size := hm1.size
       obtain ⟨d0, d1, d2⟩ := hI1.cells
       clear c0 c1 c2 hl hown1 hg1 hm1 hI1
       generalize w1.alloc o = w2 at hrn hrg hm2 hown2)
    | ((with_reducible refine at_slot 26 ?_); refine wpList_val rfl (ex_range rfl hrn) ?_; go_frame))
  generalize w1.heap.size = r at *
  clear d0 d1 d2
  have hrel0 : ListRel w b r rows d rows.length (.slice (some ⟨w.heap.size, 0, none⟩) 0 c) w2 :=
    ⟨rows, [], Nat.le_refl _, hrg, List.Perm.refl _, hown2, hm2, hge⟩
  have HR := hide hrel0
  clear hrel0 hrg hown2 hm2 hge hrn
  go_loopg [5] rows.length (fun n v wr => ListRel w b r rows d n v wr)
  case atStart => exact HR.out
  case round =>
    clear HR
    obtain ⟨lrows, acc, hn, hrg, hacc, hown, hm, hge⟩ := hrel
    cases lrows with
    | nil =>
      have hx := hrg.next_end
      have hperm : acc.Perm (namesIn rows d) := by simpa [namesIn] using hacc
      have hal : acc.length ≤ 5000000000000 := by
        rw [hperm.length_eq, namesIn_length]
        exact Nat.le_trans (cntDir_le rows d) hlen
      have HS := hide (sort_any wr w.heap.size (findIno rows d) u5 acc hown (by omega))
      have HP := hide hperm
      clear hperm hrg hacc hown hn
      go_wp2_with ((with_reducible refine at_slot 27 ?_); refine wpList_val rfl (ex_next rfl (hx _)) ?_; go_frame)
      refine Calls.mono HS.out ?_
      rintro e w3 ⟨rfl, hown3, hm3⟩
      have hfin : ListPost w rows d (.returned u5) w3 := by
        refine ⟨u5, rfl, ?_, hm.trans' hm3 (fun k hk e => ?_)⟩
        · unfold listNames
          rw [← sortNames_perm HP.out, sortNames_length]
          exact hown3
        · omega
      have HF := hide hfin
      clear hfin hown3 hm3
      go_wp2
      go_ret
      exact HF.out
    | cons r0 lr0 =>
      obtain ⟨p, left', w3, hnx, hpm, hrg1, hcur, hmr, hsz1⟩ := hrg.next_some (by simp)
      obtain ⟨r1, lr', hlp, rfl, hlp'⟩ := map_perm_cons hpm
      have hr1 : r1 ∈ rows := mem_of_kv (hrg.sub _ (hpm.mem_iff.2 (by simp)))
      replace hnx : ∀ ty, (Instr.next (.pointer (some ⟨r, 0, none⟩)) false ty).run Tryz.prog wr = .ok (.tuple #[.bool true, keyV r1.dir r1.name, .int .i64 r1.ino]) w3 := hnx
      have hok := HI.out.ok r1 hr1
      have hfi : findIno rows r1.dir r1.name = r1.ino := findIno_mem HI.out.nodup hr1
      have hen : (Instr.entry (.pointer (some ⟨r, 0, none⟩))).run Tryz.prog w3 = .ok (.tuple #[keyV r1.dir r1.name, .int .i64 r1.ino]) w3 := Cur.entry (P := Tryz.prog) hcur
      have hne := own_ne_iter hown hrg
      have hown1 := own_mod hown hmr (fun g hg e => hne g hg e)
      have hm1 : Mod None_ w w3 := hm.trans' hmr (fun k hk e => by omega)
      have hrg2 : Ranging Tryz.prog 133 w3 r b (rows.map Row.kv) (lr'.map Row.kv) := hrg1.perm_left hlp'
      have hsub : (acc ++ namesIn (r1 :: lr') d).Perm (namesIn rows d) := ((namesIn_perm hlp d).symm.append_left acc).trans hacc
      have hn' : lr'.length + 1 ≤ gk := by
        have := hlp.length_eq
        simp only [List.length_cons] at this hn
        omega
      have hlt := hrg.map.lt
      have hk := keyA_size r1.dir r1.name hok.size
      have HK := hide hk
      have HO := hide hok
      have HF := hide hfi
      have HS := hide hsub
      have HR := hide hr1
      have hal : acc.length + 1 ≤ 5000000000000 + 1 := by
        have h1 := hsub.length_eq
        rw [List.length_append, namesIn_length] at h1
        have h2 := Nat.le_trans (cntDir_le rows d) hlen
        rw [← namesIn_length] at h2
        omega
      clear hpm hlp hlp' hrg hacc hrg1 hcur hown hm hn hok hfi hk hsub hr1 hsz1 hmr hne r0 lr0 left'
      have hM4 : Mod None_ w3 (w3.alloc (.cells (keyA r1.dir r1.name) 133)) := (Mod.refl _ w3).alloc _
      have hB4 : Blk (w3.alloc (.cells (keyA r1.dir r1.name) 133)) w3.heap.size 133 (keyA r1.dir r1.name) := Blk.new _ _ _
      have hw4 : ∃ w4, w4 = w3.alloc (.cells (keyA r1.dir r1.name) 133) := ⟨_, rfl⟩
      obtain ⟨w4, hw4⟩ := hw4
      rw [← hw4] at hM4 hB4
      have hge3 : w.heap.size ≤ w3.heap.size := hm1.size
      have hk0 : (keyA r1.dir r1.name)[0]? = some (.int .i64 r1.dir) := by simp [keyA, keyCells]
      have ck : w4.cell? ⟨w3.heap.size, 0, none⟩ = some (.int .i64 r1.dir) := (hB4.cell 0).trans hk0
      have HW := hide hw4
      obtain ⟨g4, hg4⟩ : ∃ g4, g4 = w3.heap.size := ⟨_, rfl⟩
      have HG := hide hg4
      rw [← hg4] at hB4 ck hge3
      clear hw4 hk0 hg4
      by_cases hd1 : r1.dir = d
      · have ht : ((r1.dir : Int) == d) = true := by rw [hd1]; exact beq_self_eq_true d
        have HD := hide hd1
        clear hd1
        go_wp2_with (first
          | ((with_reducible refine at_slot 27 ?_); refine wpList_val rfl (ex_next rfl (hnx _)) ?_; go_frame)
          | ((with_reducible refine at_slot 29 ?_); refine wpList_val rfl (ex_entry rfl hen) ?_; go_frame)
          | ((with_reducible refine at_slot 6 ?_); refine wpList_declare rfl rfl 133 6 (.tmp 30) rfl rfl rfl zeroK (keyA r1.dir r1.name) zero55 (size55' HK.out) (zeroK_size.trans HK.out.symm) (keyA_one _ _) (by simp) rfl ?_; go_frame; rw [← HW.out, ← HG.out])
          | ((with_reducible refine at_slot 37 ?_); refine wpList_val rfl (ex_load rfl (run_loadRow hB4 Tryz.underlying133 rfl (size55' HK.out))) ?_; go_frame))
        refine (name_any w4 r1.dir r1.name HO.out.size).mono ?_
        rintro e w5 ⟨rfl, hm5⟩
        have hm35 : Mod None_ w3 w5 := hM4.trans hm5
        have hown5 := own_mod hown1 (hm35.alloc (.cells #[.string r1.name, .int .i64 r1.ino] 75)) (fun _ _ f => f)
        have hb5 : w.heap.size ≤ (w5.alloc (.cells #[.string r1.name, .int .i64 r1.ino] 75)).heap.size := by
          have := hm1.size; have := hm35.size; rw [alloc_size]; omega
        have hnb : Blk (w5.alloc (.cells #[.string r1.name, .int .i64 r1.ino] 75)) w5.heap.size 75 #[.string r1.name, .int .i64 r1.ino] := Blk.new _ _ _
        have hnews : ∀ (j : Nat) (u : Value), ([.string r1.name, .int .i64 r1.ino] : List Value)[j]? = some u → (w5.alloc (.cells #[.string r1.name, .int .i64 r1.ino] 75)).cell? ((⟨w5.heap.size, 0, none⟩ : Addr).add j) = some u := by
          intro j u hj
          have hadd : (⟨w5.heap.size, 0, none⟩ : Addr).add j = ⟨w5.heap.size, j, none⟩ := by unfold Addr.add; split <;> simp_all
          rw [hadd, hnb.cell]
          simpa using hj
        have h1c : ∀ u ∈ ([.string r1.name, .int .i64 r1.ino] : List Value), u.oneCell' = true := by
          intro u hu
          simp only [List.mem_cons, List.not_mem_nil, or_false] at hu
          rcases hu with rfl | rfl <;> rfl
        have HN := hide hnews
        have H1 := hide h1c
        clear hnews h1c hnb
        go_wp2_with ((with_reducible refine at_slot 42 ?_); refine wpList_append_own _ rfl (.tmp 36) (.tmp 41) 31 rfl w.heap.size 75 i0 _ 2 24 Tryz.underlying31 hi hz hsz hby rfl (by decide) u5 acc.length _ rfl hown5 ⟨w5.heap.size, 0, none⟩ 1 1 _ rfl rfl HN.out H1.out (by simp only [maxLen]; omega) (by omega) hb5 ?_; intro v' w6 hown6 hg6 _; go_frame)
        go_roundg (gk - 1)
        case measure => omega
        case rel =>
          have hne2 := own_ne_iter hown1 hrg2
          have hm36 : Mod (fun k => some k = u5.ownBlock) w3 w6 := (hm35.alloc _).none.trans' (Mod.of_grown hg6) (fun _ _ e => e)
          have hbl := HI.out.lt
          refine ⟨lr', acc ++ [r1.name], by omega, hrg2.mod hm36 (fun e => ?_) (fun e => hne2 r e.symm rfl), ?_, ?_, hm1.trans' hm36 (fun k hk e => ?_), hge⟩
          · have := (own_blk hown1 e.symm).1; omega
          · have := HS.out
            rw [← HD.out, namesIn_cons_eq] at this
            rw [← HD.out, List.append_assoc]
            exact this
          · rw [dentCells_snoc, List.length_append]
            have e : findIno rows d r1.name = r1.ino := by rw [← HD.out]; exact HF.out
            rw [e]
            exact hown6
          · have := (own_blk hown1 e.symm).1; omega
      · have ht : ((r1.dir : Int) == d) = false := by rw [beq_eq_false_iff_ne]; exact hd1
        have HD := hide hd1
        clear hd1
        go_wp2_with (first
          | ((with_reducible refine at_slot 27 ?_); refine wpList_val rfl (ex_next rfl (hnx _)) ?_; go_frame)
          | ((with_reducible refine at_slot 29 ?_); refine wpList_val rfl (ex_entry rfl hen) ?_; go_frame)
          | ((with_reducible refine at_slot 6 ?_); refine wpList_declare rfl rfl 133 6 (.tmp 30) rfl rfl rfl zeroK (keyA r1.dir r1.name) zero55 (size55' HK.out) (zeroK_size.trans HK.out.symm) (keyA_one _ _) (by simp) rfl ?_; go_frame; rw [← HW.out, ← HG.out]))
        go_roundg (gk - 1)
        case measure => omega
        case rel =>
          refine ⟨lr', acc, by omega, hrg2.mod hM4 id id, ?_, own_mod hown1 hM4 (fun _ _ f => f), hm1.trans hM4, hge⟩
          have := HS.out
          rw [namesIn_cons_ne HD.out] at this
          exact this

theorem list_any (w : World) (b : Nat) (rows : List Row) (d : Int) (hlen : rows.length ≤ 5000000000000) (hd : (Lit.int .i64 d).wf = true) (h : IndexAt w b rows) :
    Calls Tryz.prog 41 #[.pointer (some ⟨b + 3, 0, none⟩), .int .i64 d] w (ListPost w rows d) := by
  by_cases h0 : cntDir rows d = 0
  · exact list_none w b rows d hd h h0
  · exact list_some w b rows d hlen hd h h0
end Go.Proofs.YtabebkffcmajkaaGreatDoor
