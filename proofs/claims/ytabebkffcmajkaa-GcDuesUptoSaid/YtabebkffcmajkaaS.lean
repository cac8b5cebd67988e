import Derived.Test.YtabebkffcmajkaaW9
/-! The sort of a directory's entries, by the shelf's contract. -/
namespace Go.Proofs.Ytabebkffcmajkaa
open Go.RowKit Go.Maps Go.Lib Go.Sort Go.Shelf

def encD (f : ByteArray → Int) (s : ByteArray) : List Value := [.string s, .int .i64 (f s)]
def dentCells (f : ByteArray → Int) (ns : List ByteArray) : List Value := ns.flatMap (encD f)
def sortNames (ns : List ByteArray) : List ByteArray := ns.mergeSort fun x y => !strLt y x

theorem dentCells_length (f : ByteArray → Int) (ns : List ByteArray) : (dentCells f ns).length = ns.length * 2 := by
  unfold dentCells
  induction ns with
  | nil => rfl
  | cons x l ih => rw [List.flatMap_cons, List.length_append, ih]; simp [encD]; omega
theorem dentCells_get (f : ByteArray → Int) : ∀ (ns : List ByteArray) (t : Nat) (h : t < ns.length * 2), (dentCells f ns)[t]? = (encD f (ns[t / 2]'(by omega)))[t % 2]?
  | x :: l, 0, _ => by simp [dentCells, encD]
  | x :: l, 1, _ => by simp [dentCells, encD]
  | x :: l, t + 2, h => by
    have ih := dentCells_get f l t (by simp at h; omega)
    have e1 : (t + 2) / 2 = t / 2 + 1 := by omega
    have e2 : (t + 2) % 2 = t % 2 := by omega
    have : (dentCells f (x :: l))[t + 2]? = (dentCells f l)[t]? := by
      unfold dentCells
      rw [List.flatMap_cons]
      simp [encD]
    rw [this, ih]
    simp only [e1, e2, List.getElem_cons_succ]
theorem flatK_dents (f : ByteArray → Int) (ns : List ByteArray) : (flatK (encD f) 2 ns.toArray).toList = dentCells f ns := by
  apply List.ext_getElem?
  intro t
  by_cases h : t < ns.length * 2
  · rw [dentCells_get f ns t h]
    have h2 : t / 2 < ns.length := by omega
    have h3 : t < (flatK (encD f) 2 ns.toArray).size := by simpa using h
    rw [Array.getElem?_toList, Array.getElem?_eq_getElem h3]
    have := get_flatK (encD f) 2 ns.toArray t (by simpa using h)
    rw [getElem!_pos _ t h3] at this
    rw [this]
    have h4 : t / 2 < ns.toArray.size := by simpa using h2
    rw [getElem!_pos ns.toArray (t / 2) h4]
    have h5 : t % 2 < (encD f ns.toArray[t / 2]).length := by simp [encD]; omega
    rw [getElem!_pos _ (t % 2) h5]
    simp
  · rw [List.getElem?_eq_none (by simp; omega), List.getElem?_eq_none (by rw [dentCells_length]; omega)]

set_option maxRecDepth 100000 in
set_option maxHeartbeats 400000 in
theorem closure36 (x y : ByteArray) (i j : Int) (W : World) : Calls Try.prog 60 #[.agg #[.string x, .int .i64 i], .agg #[.string y, .int .i64 j]] W fun e w' => e = .returned (.int .i64 (cmpStr x y)) ∧ ∃ q os', w' = grow (W.drewN q) os' := by
  go_enter Try.func60, Try.ntmps60
  go_wp2_with (go_at_call 61; refine (compare_str _ _ _).mono ?_; rintro e w1 ⟨rfl, rfl⟩)
  go_ret
  exact ⟨rfl, 0, #[.cells #[.string x, .int .i64 i] 49, .cells #[.string y, .int .i64 j] 49], by
    rw [show W.drewN 0 = W from rfl, alloc_eq_grow, alloc_eq_grow, grow_grow]; rfl⟩

theorem cmpLays36 (f : ByteArray → Int) (blk off size : Nat) (w : World) : CmpLays Try.prog 60 #[] (encD f) 2 cmpStr blk off size w :=
  fun _ _ _ _ x y => closure36 x y (f x) (f y) _

theorem isAgg36 (w : World) : (isAgg 49).run Try.prog w = .ok true w := by kernel_rfl
theorem sizeOf36 (w : World) : (Go.sizeOf 49).run Try.prog w = .ok 2 w := by kernel_rfl

theorem heap_sortK {w : World} {g n : Nat} {os : Array Obj} {cur : Array Value} {e : TypeId} {fr : Nat × Nat} (f : ByteArray → Int) (d : Array ByteArray) (hb : w.heap[g]? = some (.cells cur e fr)) :
    (sortWorldK (encD f) 2 w g 0 n d os).heap[g]? = some (.cells (putCells id 0 (flatK (encD f) 2 d) cur) e fr) := by
  have hg : g < w.heap.size := (Array.getElem?_eq_some_iff.1 hb).1
  unfold sortWorldK putRowK
  rw [heap_grow_old _ _ (by simpa using hg)]
  simp [putRow, mapBlock, Sort.ahead, Array.getElem?_modify, hb, onCells]
theorem mod_sortK {w : World} {g n : Nat} {os : Array Obj} (f : ByteArray → Int) (d : Array ByteArray) : Mod (· = g) w (sortWorldK (encD f) 2 w g 0 n d os) := by
  refine ⟨rfl, rfl, rfl, by simp [sortWorldK, putRowK], fun k hk hne => ?_⟩
  unfold sortWorldK putRowK
  rw [heap_grow_old _ _ (by simpa using hk)]
  have : g ≠ k := fun e => hne e.symm
  simp [putRow, mapBlock, Sort.ahead, Array.getElem?_modify, this]
theorem take_putK (cur : Array Value) (xs : Array Value) (h : xs.size ≤ cur.size) : (putCells id 0 xs cur).toList.take xs.size = xs.toList := by
  apply List.ext_getElem?
  intro j
  by_cases hj : j < xs.size
  · rw [List.getElem?_take_of_lt hj, Array.getElem?_toList]
    simp [putCells, hj, show j < cur.size by omega]
  · rw [List.getElem?_take_eq_none (by omega), List.getElem?_eq_none (by simp; omega)]

theorem sortNames_length (ns : List ByteArray) : (sortNames ns).length = ns.length := List.length_mergeSort _

theorem sort_any (w : World) (B : Nat) (f : ByteArray → Int) (v : Value) (ns : List ByteArray) (hown : w.ownsRow B 49 2 v ns.length (dentCells f ns)) (hlen : ns.length < 4611686018427387904) :
    Calls Try.prog 59 #[v, .func (.func 60) #[] #[]] w fun e w' => e = .returned (.tuple #[]) ∧ w'.ownsRow B 49 2 v ns.length (dentCells f (sortNames ns)) ∧ Mod (fun k => B ≤ k ∧ some k = v.ownBlock) w w' := by
  rcases hown.2 with ⟨rfl, h0⟩ | ⟨g, cap, cur, rfl, hbase, hb, h1, h2, h3, h4⟩
  · have hn : ns = [] := List.eq_nil_of_length_eq_zero h0
    subst hn
    have hS := AnyF.slices_SortFunc_none (P := Try.prog) (ρ := Try.sortL_ren) { Try.sortL with } none 0 (.func (.func 60) #[] #[]) w
    change Calls Try.prog 59 _ _ _ at hS
    exact hS.mono fun e w' ⟨he, hw⟩ => ⟨he, by rw [hw]; simpa [sortNames] using hown, by rw [hw]; exact Mod.refl _ _⟩
  · have hH : HoldsK (encD f) 2 w g 0 ns.toArray := by
      intro j hj
      refine ⟨?_, by simp [World.frozen?, hb]⟩
      have hj' : j < ns.length * 2 := by simpa using hj
      have e1 : (cur.toList.take (ns.length * 2))[j]? = (flatK (encD f) 2 ns.toArray).toList[j]? := by rw [h4, flatK_dents]
      rw [List.getElem?_take_of_lt hj'] at e1
      simp only [World.cell?, hb, Nat.zero_add]
      simp only [Option.isSome_none, Bool.false_eq_true, if_false]
      rw [← Array.getElem?_toList, e1, Array.getElem?_toList, Array.getElem?_eq_getElem hj, getElem!_pos _ j hj]
      rfl
    have eg : ∀ args w, (callFunc 60 args).run Try.prog w = .ok (.enter 60 args) w := enters_of Try.func60 (by kernel_rfl) rfl
    have hcon := AnyQ.slices_SortFunc_total Try.sortL 2 isAgg36 sizeOf36 (encD f) (fun _ => rfl) (fun x v hv => by simp [encD] at hv; rcases hv with rfl | rfl <;> rfl) cmpStr swoStr 60 #[] g 0 cap ns.toArray w eg (cmpLays36 f g 0 _ w) hH
      (Array.getElem?_eq_some_iff.1 hb).1 (by simpa using hlen) (fun x y h1 h2 => by rw [ltOf_cmp] at h1 h2; exact strLt_tri h1 h2)
    change Calls Try.prog 59 _ _ _ at hcon
    have hfn : (fun x y => !ltOf cmpStr y x) = fun x y => !strLt y x := by funext x y; rw [ltOf_cmp]
    rw [hfn] at hcon
    simp only [List.size_toArray] at hcon
    refine hcon.mono fun e w' ⟨he, n, os, hw⟩ => ⟨he, ?_, ?_⟩
    · rw [hw]
      refine ⟨by rw [dentCells_length, sortNames_length], .inr ⟨g, cap, _, rfl, hbase, heap_sortK f _ hb, h1, h2, by simp [putCells, h3], ?_⟩⟩
      have hs : (flatK (encD f) 2 (sortNames ns).toArray).size = ns.length * 2 := by simp [sortNames_length]
      have := take_putK cur (flatK (encD f) 2 (sortNames ns).toArray) (by rw [hs, h3]; exact Nat.mul_le_mul_right 2 h1)
      rw [hs, flatK_dents] at this
      exact this
    · rw [hw]
      exact (mod_sortK f _).mono fun k _ e => ⟨by omega, by simp [Value.ownBlock, e]⟩
end Go.Proofs.Ytabebkffcmajkaa
