import Derived.Lib.BufferRead
import Derived.Test.YtabebkffcmajkaaDoorG2
import Derived.Test.YtabebkffcmajkaaDoorG10
import Derived.Test.YtabebkffcmajkaaDoorG6
import Derived.Test.YtabebkffcmajkaaDoorG7
set_option linter.unusedVariables false
set_option linter.unusedSimpArgs false
/-! A region that draws its order in which two operations that make new memory are in no order among themselves: a walk with forks. No program in it. -/
namespace Go.Proofs.YtabebkffcmajkaaDoor
open Go.RowKit Go.Maps

/-- orders: q k: operation k only reads; l k: k is the only one that is ready; two: two are ready: both ways -/
inductive Sch where
  | nil
  | q (k : Nat) (n : Sch)
  | l (k : Nat) (n : Sch)
  | two (k : Nat) (n : Sch) (k' : Nat) (n' : Sch)
def Sch.len : Sch → Nat
  | .nil => 0
  | .q _ n => n.len + 1
  | .l _ n => n.len + 1
  | .two _ n _ _ => n.len + 1
def Sch.of : List (Bool × Nat) → Sch → Sch
  | [], s => s
  | (true, k) :: r, s => .q k (Sch.of r s)
  | (false, k) :: r, s => .l k (Sch.of r s)
section
variable {P : Program} {ops : Array Oper} {md : Region.Mode} {I : World → Prop}
def wpSch (P : Program) (ops : Array Oper) (I : World → Prop) (Q : Act → World → Prop) : Sch → Act → World → Prop
  | .nil, a, w => Q a w
  | .q k n, a, w => ∃ o v, ops[k]? = some o ∧ Always P ops I o v a ∧ wpSch P ops I Q n (a.put o.dst v) w
  | .l k n, a, w => lOp P ops I k (wpSch P ops I Q n) a w
  | .two k n k' n', a, w => lOp P ops I k (wpSch P ops I Q n) a w ∧ lOp P ops I k' (wpSch P ops I Q n') a w
def schB (md : Region.Mode) (ops : Array Oper) : Sch → Array Bool → Bool
  | .nil, listed => (Region.ready md ops listed).isEmpty
  | .q k n, listed => (Region.ready md ops listed).contains k && Region.free md ops listed k && schB md ops n (listed.setIfInBounds k true)
  | .l k n, listed => decide (Region.ready md ops listed = [k]) && schB md ops n (listed.setIfInBounds k true)
  | .two k n k' n', listed => decide (Region.ready md ops listed = [k, k']) && decide (n.len = n'.len) && schB md ops n (listed.setIfInBounds k true) && schB md ops n' (listed.setIfInBounds k' true)
theorem wpAnyI_sch {Q : Act → World → Prop} (hs : Region.noSelect ops = true) : ∀ (l : Sch) (listed : Array Bool) (a : Act) (w : World), I w → schB md ops l listed = true → wpSch P ops I Q l a w →
    wpAnyI P md ops I Q l.len listed a w
  | .nil, _, _, _, _, hB, h => ⟨by simpa [schB] using hB, h⟩
  | .q k n, listed, a, w, hw, hB, ⟨o, v, ho, hy, h⟩ => by
    simp only [schB, Bool.and_eq_true] at hB
    exact wpAnyI_first ho (Region.noSelect_spec hs) n.len listed a w hw (Region.free_spec ho hB.1.2) (by simpa using hB.1.1) hy (wpAnyI_sch hs n _ _ _ hw hB.2 h)
  | .l k n, listed, a, w, hw, hB, h => by
    simp only [schB, Bool.and_eq_true, decide_eq_true_eq] at hB
    refine ⟨fun h1 => (by rw [hB.1] at h1; cases h1), fun i hi => ?_⟩
    rw [hB.1] at hi
    have hik : i = k := by simpa using hi
    subst hik
    exact lOp_mono (fun a' w' hw' h' => wpAnyI_sch hs n _ a' w' hw' hB.2 h') h
  | .two k n k' n', listed, a, w, hw, hB, h => by
    simp only [schB, Bool.and_eq_true, decide_eq_true_eq] at hB
    obtain ⟨⟨⟨h1, h2⟩, h3⟩, h4⟩ := hB
    refine ⟨fun h5 => (by rw [h1] at h5; cases h5), fun i hi => ?_⟩
    rw [h1] at hi
    have hik : i = k ∨ i = k' := by simpa using hi
    rcases hik with rfl | rfl
    · exact lOp_mono (fun a' w' hw' h' => wpAnyI_sch hs n _ a' w' hw' h3 h') h.1
    · refine lOp_mono (fun a' w' hw' h' => ?_) h.2
      have := wpAnyI_sch hs n' _ a' w' hw' h4 h'
      rw [← h2] at this
      exact this
def schOk (md : Region.Mode) (ops : Array Oper) (l : Sch) : Bool :=
  Region.noSelect ops && decide (l.len = ops.size) && schB md ops l (Array.replicate ops.size false)
/-- (a structure: so that Lean's elaborator does not look into it) -/
structure ScW (P : Program) (ops : Array Oper) (I : World → Prop) (Q : Act → World → Prop) (l : Sch) (a : Act) (w : World) : Prop where
  h : wpSch P ops I Q l a w
theorem region_sch {id : Nat} {Q : Exit → Act → World → Prop} {a : Act} {w : World} {l : List Oper} (σ : Sch) (I : World → Prop) (hm : P.follows .mixedOrders = true) (hB : schOk .any l.toArray σ = true)
    (h : ∀ w', w' = w.drew → I w' ∧ ScW P l.toArray I (fun a' w' => Q .normal a' w') σ a w') : (Code.region id l.toArray true).wp P Q a w := by
  simp only [schOk, Bool.and_eq_true, decide_eq_true_eq] at hB
  obtain ⟨hI, ⟨hx⟩⟩ := h _ rfl
  refine wp_region_any hm (wpAny_of_I (I := I) (Q := fun a' w' => Q .normal a' w') (fun _ _ h => h) _ _ _ _ ?_)
  have := wpAnyI_sch (md := .any) hB.1.1 σ _ a _ hI hB.2 hx
  rw [hB.1.2] at this
  exact this
theorem scw_quiet {Q : Act → World → Prop} {k : Nat} {o : Oper} {os : List Oper} {l : Sch} {a : Act} {w : World} {v : Value} (ho : os[k]? = some o)
    (h : ∀ w', I w' → ∀ K : Value → Prop, K v → if Region.wanted o (yielded os.toArray a.tmps) then quietV P a w' o K ((execOp a.eval o).run P w') else K undef)
    (hn : ScW P os.toArray I Q l (a.put o.dst v) w) : ScW P os.toArray I Q (.q k l) a w := by
  refine ⟨o, v, by simpa using ho, fun w' hw' => ?_, hn.h⟩
  have h1 := h w' hw' (· = v) rfl
  unfold YieldsAt
  by_cases hwn : Region.wanted o (yielded os.toArray a.tmps) = true
  · rw [if_pos hwn] at h1
    refine .inl ⟨hwn, ?_⟩
    generalize (execOp a.eval o).run P w' = r at h1 ⊢
    cases r with
    | ok n w2 =>
      cases n <;> simp only [quietV] at h1
      case value u => obtain ⟨rfl, rfl⟩ := h1; exact .inl rfl
      case skip => obtain ⟨rfl, h2⟩ := h1; exact .inr (.inl ⟨rfl, h2.symm⟩)
      case enter f args => obtain ⟨rfl, u, hc, rfl⟩ := h1; exact .inr (.inr ⟨f, args, rfl, hc⟩)
    | halt x w2 => simp only [quietV] at h1
  · rw [if_neg hwn] at h1
    exact .inr ⟨by simpa using hwn, h1.symm⟩
theorem scw_qval {Q : Act → World → Prop} {k : Nat} {o : Oper} {os : List Oper} {l : Sch} {a : Act} {w : World} {v : Value} (ho : os[k]? = some o) (hg : o.guard = none)
    (h : ∀ w', I w' → (execOp a.eval o).run P w' = .ok (.value v) w') (hn : ScW P os.toArray I Q l (a.put o.dst v) w) : ScW P os.toArray I Q (.q k l) a w :=
  scw_quiet ho (fun w' hw' K hK => by rw [if_pos (by simp [Region.wanted, hg]), h w' hw']; exact ⟨rfl, hK⟩) hn
theorem lOp_of {Q : Act → World → Prop} {k : Nat} {o : Oper} {os : List Oper} {l : Sch} {a : Act} {w : World} (ho : os[k]? = some o)
    (h : ∀ K : Act → World → Prop, (∀ a w, ScW P os.toArray I Q l a w → K a w) → if Region.wanted o (yielded os.toArray a.tmps) then loudUpon P o a I K ((execOp a.eval o).run P w) else I w ∧ K (a.put o.dst undef) w) : lOp P os.toArray I k (wpSch P os.toArray I Q l) a w := by
  have h1 := h (wpSch P os.toArray I Q l) (fun _ _ h => h.h)
  have ho' : os.toArray[k]? = some o := by simpa using ho
  unfold lOp loud
  rw [ho']
  exact h1
theorem scw_loud {Q : Act → World → Prop} {k : Nat} {o : Oper} {os : List Oper} {l : Sch} {a : Act} {w : World} (ho : os[k]? = some o)
    (h : ∀ K : Act → World → Prop, (∀ a w, ScW P os.toArray I Q l a w → K a w) → if Region.wanted o (yielded os.toArray a.tmps) then loudUpon P o a I K ((execOp a.eval o).run P w) else I w ∧ K (a.put o.dst undef) w) : ScW P os.toArray I Q (.l k l) a w := ⟨lOp_of ho h⟩
theorem scw_val {Q : Act → World → Prop} {k : Nat} {o : Oper} {os : List Oper} {l : Sch} {a : Act} {w w' : World} {v : Value} (ho : os[k]? = some o) (hg : o.guard = none) (hi : I w')
    (h : (execOp a.eval o).run P w = .ok (.value v) w') (hn : ScW P os.toArray I Q l (a.put o.dst v) w') : ScW P os.toArray I Q (.l k l) a w :=
  scw_loud ho fun K hK => by rw [if_pos (by simp [Region.wanted, hg]), h]; exact ⟨hi, hK _ _ hn⟩
theorem scw_two {Q : Act → World → Prop} {k k' : Nat} {os : List Oper} {n n' : Sch} {a : Act} {w : World} (h : ScW P os.toArray I Q (.l k n) a w) (h' : ScW P os.toArray I Q (.l k' n') a w) : ScW P os.toArray I Q (.two k n k' n') a w := ⟨⟨h.h, h'.h⟩⟩
theorem scw_nil {Q : Act → World → Prop} {os : List Oper} {a : Act} {w : World} (h : Q a w) : ScW P os.toArray I Q .nil a w := ⟨h⟩
end
end Go.Proofs.YtabebkffcmajkaaDoor

/-! Plain law: Apply on a file of the laws; cuts. -/
namespace Go.Proofs.YtabebkffcmajkaaDoor
open Go.RowKit Go.Maps Go.Shelf

theorem file_step {z : Int} {f : Nat → Int} {e : EntD} (he : FileE e) : stepErr (.file z f) e = 0 := by
  unfold stepErr
  rw [if_neg (by rw [he.good]; decide), if_neg (show ¬ onOk e (.file z f) = false from by rw [show onOk e (.file z f) = decide (e.kind = 1 ∨ e.kind = 2) from rfl, decide_eq_true he.kind]; decide)]
structure GoodFile (z : Int) (f : Nat → Int) : Prop where
  wf : WfD (.file z f)
  fit : FitD (.file z f)
theorem GoodFile.size {z : Int} {f : Nat → Int} (h : GoodFile z f) : 0 ≤ z ∧ z ≤ 262144 := h.wf.1
theorem GoodFile.page {z : Int} {f : Nat → Int} (h : GoodFile z f) : PageF f := h.wf.2
theorem GoodFile.next {z : Int} {f : Nat → Int} (h : GoodFile z f) {e : EntD} (he : FileE e) : GoodFile e.size (nextF e f) :=
  ⟨step_wf h.wf (file_step he), fit_step _ e h.wf (file_step he)⟩
theorem GoodFile.apply {z : Int} {f : Nat → Int} (h : GoodFile z f) {e : EntD} (he : FileE e) {j : Nat} (hj : j ≤ 1000000) : applyErr (nodeOf (.file z f) j) e = 0 ∧ applyN (nodeOf (.file z f) j) e = nodeOf (.file e.size (nextF e f)) (j + 1) :=
  ⟨by rw [applyErr_node h.wf h.fit, file_step he], applyN_node h.wf h.fit (file_step he) hj⟩
def sizeE (s q : Int) : EntD := ⟨2, q, 0, 0, 0, s, 0, ⟨#[]⟩⟩
theorem sizeE_file {s q : Int} (h : 0 ≤ s ∧ s ≤ 262144) : FileE (sizeE s q) :=
  ⟨file_size_ent h, .inr rfl, h, ⟨Int.le_refl _, by show (0 : Int) ≤ 512; omega⟩, ⟨Int.le_refl _, by show (0 : Int) ≤ 16; omega⟩, ⟨Int.le_refl _, by show (0 : Int) ≤ 1024; omega⟩, fun h => by simp [sizeE] at h⟩
theorem GoodFile.cutG {z : Int} {f : Nat → Int} (h : GoodFile z f) {s q : Int} (hs : 0 ≤ s ∧ s ≤ 262144) : GoodFile s (nextF (sizeE s q) f) := h.next (sizeE_file hs)
theorem GoodFile.cut {z : Int} {f : Nat → Int} (h : GoodFile z f) {s q : Int} (hs : 0 ≤ s ∧ s ≤ 262144) {j : Nat} (hj : j ≤ 1000000) : applyErr (nodeOf (.file z f) j) (sizeE s q) = 0 ∧ applyN (nodeOf (.file z f) j) (sizeE s q) = nodeOf (.file s (nextF (sizeE s q) f)) (j + 1) := h.apply (sizeE_file hs) hj
theorem sizeE_at {s q : Int} (h : 0 ≤ s ∧ s ≤ 262144) (f : Nat → Int) (x : Nat) : nextF (sizeE s q) f x = if endOf s ≤ x then 0 else f x := by
  rw [nextF_at (sizeE_file h)]
  show (if endOf s ≤ x then 0 else if (2 : Int) = 1 ∧ _ then _ else f x) = _
  split
  · rfl
  · exact if_neg (fun h => absurd h.1 (by decide))
theorem cuts_same {s t q r : Int} (hs : 0 ≤ s ∧ s ≤ 262144) (ht : s ≤ t ∧ t ≤ 262144) (f : Nat → Int) (x : Nat) : nextF (sizeE t r) (nextF (sizeE s q) f) x = nextF (sizeE s q) f x := by
  rw [sizeE_at (by omega), sizeE_at hs]
  by_cases h : endOf t ≤ x
  · rw [if_pos h]
    have : endOf s ≤ x := by unfold endOf at *; omega
    rw [if_pos this]
  · rw [if_neg h]
theorem node_map_congr {z z2 : Int} {f g : Nat → Int} {j j2 : Nat} (h : ∀ x, f x = g x) : (nodeOf (.file z f) j).map = (nodeOf (.file z2 g) j2).map := by
  rw [nodeOf_map, nodeOf_map]; exact runsT_congr fun i _ => h i
/-- the pages of a file's first so many places -/
def pagesTo (f : Nat → Int) (k : Nat) : List Int := (itemsTo f k).map Prod.snd
theorem pagesTo_zero (f : Nat → Int) : pagesTo f 0 = [] := rfl
theorem pagesTo_no {f : Nat → Int} {k : Nat} (h : f k = 0) : pagesTo f (k + 1) = pagesTo f k := by unfold pagesTo; rw [itemsTo_zero h]
theorem pagesTo_yes {f : Nat → Int} {k : Nat} (h : f k ≠ 0) : pagesTo f (k + 1) = pagesTo f k ++ [f k] := by unfold pagesTo; rw [itemsTo_some h, List.map_append]; rfl
theorem pagesTo_length (f : Nat → Int) (k : Nat) : (pagesTo f k).length ≤ k := by unfold pagesTo; rw [List.length_map]; exact itemsOf_length f 0 k 0
set_option maxRecDepth 100000 in
theorem pages_file {z : Int} {f : Nat → Int} {j : Nat} (h : GoodFile z f) : pagesOf (nodeOf (.file z f) j) = pagesTo f 512 := by
  rw [pagesOf_good (node_good h.wf h.fit), mapPages_eq, nodeOf_map]
  have hi := (runs_items h.page.inr 512 (Nat.le_refl _)).1
  unfold pagesTo
  rw [← hi, List.map_flatMap]
  rfl
end Go.Proofs.YtabebkffcmajkaaDoor

/-! Walk of the law's own: name. -/
namespace Go.Proofs.YtabebkffcmajkaaDoor
open Go.RowKit Go.Maps Go.Shelf
attribute [local go_sem] quietV loudUpon Oper.semAt_some

def enc8 (b : UInt8) : List Value := [.int .u8 (b.toNat : Int)]
theorem one8 : ∀ (s : UInt8), ∀ u ∈ enc8 s, u.oneCell' = true := by
  intro s u hu
  simp only [enc8, List.mem_singleton] at hu
  subst hu; rfl
theorem infoU8 : (Tryd.prog.info? 5).map (fun i => (i.zero, i.size, i.bytes)) = some (some (.int .u8 0), 1, 1) := by kernel_rfl
def nameTo (s : ByteArray) (k : Nat) : List UInt8 := (s.data.toList.take k).filter okByte
theorem nameTo_snoc {s : ByteArray} {k : Nat} (h : k < s.data.toList.length) : nameTo s (k + 1) = if okByte s.data.toList[k] = true then nameTo s k ++ [s.data.toList[k]] else nameTo s k := by
  unfold nameTo
  generalize s.data.toList = L at h ⊢
  rw [List.take_succ_eq_append_getElem h, List.filter_append]
  by_cases h2 : okByte L[k] = true
  · rw [if_pos h2]; simp [h2]
  · rw [if_neg h2]; simp [h2]
theorem nameTo_end {s : ByteArray} {k : Nat} (hk : k ≤ s.data.toList.length) (h28 : (nameTo s k).length ≤ 28) (h : ¬ (k < s.data.toList.length ∧ (nameTo s k).length < 28)) : nameTo s k = nameL s := by
  unfold nameTo nameL at *
  by_cases e : k = s.data.toList.length
  · rw [e, List.take_length] at h28 ⊢
    rw [List.take_of_length_le h28]
  · have hl : ((s.data.toList.take k).filter okByte).length = 28 := by omega
    conv => rhs; rw [← List.take_append_drop k s.data.toList, List.filter_append, ← hl, List.take_left']
theorem str_of_row {w : World} {base : Nat} {v : Value} {l : List UInt8} (h : w.ownsRow base 5 1 v l.length (rowOf enc8 l)) : ∃ A c, v = .slice A l.length c ∧ (convert 81 9 v).run Tryd.prog w = .ok (.string ⟨l.toArray⟩) w := by
  obtain ⟨A, c, rfl, _, _, hcell⟩ := list_of_ownRow (enc := enc8) (fun _ => rfl) h
  refine ⟨A, c, rfl, ?_⟩
  cases l with
  | nil =>
    have h2 := h.2
    rcases h2 with ⟨h2, _⟩ | ⟨g, cap, cur, h2, _⟩
    · simp only [Value.slice.injEq] at h2
      obtain ⟨rfl, _, rfl⟩ := h2
      exact Go.Lib.run_convert_nil_bytes w 81 9 5 0 Tryd.underlying81 Tryd.underlying5 Tryd.underlying9
    · simp only [Value.slice.injEq] at h2
      obtain ⟨rfl, _, rfl⟩ := h2
      exact Go.run_convert_bytes_back w 81 9 5 ⟨g, 0, none⟩ c [] Tryd.underlying81 Tryd.underlying5 Tryd.underlying9 (fun j hj => by simp at hj)
  | cons x l =>
    obtain ⟨g, o, rfl, hg, hc⟩ := hcell (by simp)
    refine Go.run_convert_bytes_back w 81 9 5 ⟨g, o, none⟩ c (x :: l) Tryd.underlying81 Tryd.underlying5 Tryd.underlying9 (fun j hj => ?_)
    have := hc j hj 0 _ rfl
    have hadd : (⟨g, o, none⟩ : Addr).add j = ⟨g, o + j, none⟩ := by unfold Addr.add; split <;> simp_all
    rw [hadd]
    simpa using this

set_option maxRecDepth 100000 in
set_option maxHeartbeats 2000000 in
theorem lawName_any (w : World) (s : ByteArray) (hsz : s.size ≤ 9223372036854775807) : Calls Tryd.prog 26 #[.string s] w fun e w' => e = .returned (.string (nameOf s)) ∧ Mod None_ w w' := by
  have hlen : s.data.toList.length = s.size := by simp
  have HL := hide hlen
  clear hlen
  have hlb : ∀ w A (n c : Nat), (Builtin.len_ #[81] 3 #[.slice A n c]).run Tryd.prog w = .ok (.int .i64 n) w := fun w A n c => by simp [Builtin.len_, run_underlying Tryd.underlying81]; rfl
  go_enter Tryd.func26, Tryd.ntmps26
  go_wp2_with fail
  go_loopw [4, 3] (fun s4 s3 wr => ∃ (k : Nat) (A : Option Addr) (c : Nat), k ≤ s.size ∧ s4 = .int .i64 k ∧ s3 = .slice A (nameTo s k).length c ∧ (nameTo s k).length ≤ 28 ∧ wr.ownsRow w.heap.size 5 1 (.slice A (nameTo s k).length c) (nameTo s k).length (rowOf enc8 (nameTo s k)) ∧ Mod None_ w wr) (fun s4 _ _ => s.size - (intOf s4).toNat)
  case atStart => exact ⟨0, none, 0, Nat.zero_le _, rfl, rfl, Nat.zero_le _, ⟨rfl, .inl ⟨rfl, rfl⟩⟩, Mod.refl _ _⟩
  obtain ⟨k, A, c, hk, rfl, rfl, h28, hown, hM⟩ := hrel
  by_cases hlt : k < s.size ∧ (nameTo s k).length < 28
  · obtain ⟨hlt, hl28⟩ := hlt
    have hki : (k : Int) < s.size := by omega
    have hl28i : ((nameTo s k).length : Int) < 28 := by omega
    have hkl : k < s.data.toList.length := by rw [HL.out]; exact hlt
    have hsn := nameTo_snoc hkl
    obtain ⟨b, hb⟩ : ∃ b, b = s.data.toList[k] := ⟨_, rfl⟩
    have hix : ∀ w, (Instr.index 9 (.string s) (.int .i64 k)).run Tryd.prog w = .ok (.int .u8 (b.toNat : Int)) w := fun w => by
      rw [run_index_string _ 9 s .i64 k Tryd.underlying9, dif_pos ⟨by omega, hki⟩]
      have : s[(k : Int).toNat]'(by omega) = b := by rw [hb]; simp [ByteArray.getElem_eq_getElem_data]
      rw [this]
    rw [← hb] at hsn
    have hbl := b.toNat_lt
    obtain ⟨E, hE⟩ : ∃ E, E = nameTo s k := ⟨_, rfl⟩
    rw [← hE] at hsn hown hl28 hl28i ⊢
    have HSN := hide hsn
    clear hsn hb hE hkl h28
    have hbz := hM.size
    by_cases hok : okByte b = true
    · rw [if_pos hok] at HSN
      have hk2 : ((b.toNat : Int) != 0) = true ∧ ((b.toNat : Int) != 47) = true := by
        simp only [okByte, Bool.and_eq_true, bne_iff_ne] at hok
        refine ⟨?_, ?_⟩ <;> (rw [bne_iff_ne]; intro e)
        · exact hok.1 (UInt8.toNat_inj.1 (by have : b.toNat = 0 := by omega
                                             rw [this]; rfl))
        · exact hok.2 (UInt8.toNat_inj.1 (by have : b.toNat = 47 := by omega
                                             rw [this]; rfl))
      obtain ⟨k1, k2⟩ := hk2
      have hEl : E.length ≤ 28 := by omega
      go_wp2_with ((with_reducible refine at_slot 32 ?_); refine wpList_append_row enc8 81 5 (.int .u8 0) 1 1 Tryd.underlying81 infoU8 rfl (by decide) (fun _ => rfl) one8 rfl (.tmp 27) (.tmp 31) rfl wr w.heap.size (.slice A E.length c) E b rfl rfl wr.heap.size rfl rfl hown hbz (by unfold maxLen; omega) (by omega) ?_; intro v8 w8 hown8 hm8 hat8; have hM8 := hM.trans' hm8 (fun g hg e => by have := (own_blk hown e.symm).1; omega); obtain ⟨A8, c8, hv8⟩ := own_slice hown8; subst hv8; have L1 := hide hown8; have L2 := hide hM8; clear hown8 hm8 hat8 hM8 hown hM; go_frame)
      go_roundw
      case rel => exact ⟨k + 1, A8, c8, by omega, by simp, by rw [HSN.out], by rw [HSN.out, List.length_append]; simp; omega, by rw [HSN.out]; exact L1.out, L2.out⟩
      case measure => simp [intOf]; omega
    · rw [if_neg hok] at HSN
      have hcase : ((b.toNat : Int) != 0) = false ∨ (((b.toNat : Int) != 0) = true ∧ ((b.toNat : Int) != 47) = false) := by
        by_cases e0 : b.toNat = 0
        · exact .inl (by rw [e0]; rfl)
        · by_cases e1 : b.toNat = 47
          · exact .inr ⟨by rw [bne_iff_ne]; omega, by rw [e1]; rfl⟩
          · exfalso
            apply hok
            simp only [okByte, Bool.and_eq_true, bne_iff_ne]
            exact ⟨fun e => e0 (by rw [e]; rfl), fun e => e1 (by rw [e]; rfl)⟩
      rcases hcase with k1 | ⟨k1, k2⟩
      all_goals (
        clear hok
        go_wp2_with fail
        go_roundw
        case rel => exact ⟨k + 1, A, c, by omega, by simp, by rw [HSN.out], by rw [HSN.out]; omega, by rw [HSN.out]; exact hown, hM⟩
        case measure => simp [intOf]; omega)
  · have HT : Hid (nameTo s k = nameL s) := hide (nameTo_end (by rw [HL.out]; exact hk) h28 (by rw [HL.out]; exact hlt))
    obtain ⟨A', c', hv, hcv⟩ := str_of_row hown
    simp only [Value.slice.injEq, true_and] at hv
    obtain ⟨rfl, rfl⟩ := hv
    have hno : nameOf s = if nameTo s k = [] ∨ nameTo s k = [46] ∨ nameTo s k = [46, 46] then ⟨#[97]⟩ else ⟨(nameTo s k).toArray⟩ := by rw [HT.out]; rfl
    have hcase : (¬ (k : Int) < s.size) ∨ ((k : Int) < s.size ∧ ¬ ((nameTo s k).length : Int) < 28) := by
      by_cases e : k < s.size
      · exact .inr ⟨by omega, by omega⟩
      · exact .inl (by omega)
    obtain ⟨E, hE⟩ : ∃ E, E = nameTo s k := ⟨_, rfl⟩
    rw [← hE] at hno hcv hcase ⊢
    have htl := toList_mk E
    obtain ⟨t, ht⟩ : ∃ t : ByteArray, t = ⟨E.toArray⟩ := ⟨_, rfl⟩
    rw [← ht] at hno hcv htl
    have HNO := hide hno
    clear hlt h28 hown hE HT hno ht hsz hk
    by_cases h : E = [] ∨ E = [46] ∨ E = [46, 46]
    · have HF : Hid (nameOf s = ⟨#[97]⟩) := hide (by rw [HNO.out, if_pos h])
      clear HNO
      have h3 : t.toList.isEmpty = true ∨ (t.toList.isEmpty = false ∧ (t.toList == [46]) = true) ∨ (t.toList.isEmpty = false ∧ (t.toList == [46]) = false ∧ (t.toList == [46, 46]) = true) := by
        rw [htl]
        rcases h with rfl | rfl | rfl
        · exact .inl rfl
        · exact .inr (.inl ⟨rfl, rfl⟩)
        · exact .inr (.inr ⟨rfl, rfl, rfl⟩)
      clear h htl
      rcases hcase with c1 | ⟨c1, c2⟩ <;> rcases h3 with k1 | ⟨k1, k2⟩ | ⟨k1, k2, k3⟩
      all_goals (
        go_wp2
        go_ret
        exact ⟨by rw [HF.out]; rfl, hM⟩)
    · have HF : Hid (nameOf s = t) := hide (by rw [HNO.out, if_neg h])
      clear HNO
      have h3 : t.toList.isEmpty = false ∧ (t.toList == [46]) = false ∧ (t.toList == [46, 46]) = false := by
        rw [htl]
        refine ⟨?_, ?_, ?_⟩
        · rw [Bool.eq_false_iff]; intro e; exact h (.inl (List.isEmpty_iff.1 e))
        · rw [beq_eq_false_iff_ne]; exact fun e => h (.inr (.inl e))
        · rw [beq_eq_false_iff_ne]; exact fun e => h (.inr (.inr e))
      obtain ⟨k1, k2, k3⟩ := h3
      clear h htl
      rcases hcase with c1 | ⟨c1, c2⟩
      all_goals (
        go_wp2
        go_ret
        exact ⟨by rw [HF.out]; rfl, hM⟩)
end Go.Proofs.YtabebkffcmajkaaDoor

/-! Walk of the law's own: named. -/
namespace Go.Proofs.YtabebkffcmajkaaDoor
open Go.RowKit Go.Maps Go.Shelf
attribute [local go_sem] quietV loudUpon Oper.semAt_some

section
variable {P : Program} {I : World → Prop} {Q : Act → World → Prop} {k : Nat} {o : Oper} {os : List Oper} {l : Sch} {a : Act} {w : World}
theorem scw_alloc (ho : os[k]? = some o) (hg : o.guard = none) (t : TypeId) (h1 : o.op = .alloc t) (z : Value) (hz : ∀ w, (zeroValue t).run P w = .ok z w) (hi : I (w.alloc (.cells z.cells t)))
    (h : ScW P os.toArray I Q l (a.put o.dst (.pointer (some ⟨w.heap.size, 0, none⟩))) (w.alloc (.cells z.cells t))) : ScW P os.toArray I Q (.l k l) a w := by
  refine scw_val ho hg hi (v := .pointer (some ⟨w.heap.size, 0, none⟩)) ?_ h
  unfold execOp
  simp only [h1, Instr.alloc, newVar, newRow, newObj, Sem.run_bind, hz, Result.andThen_ok, Sem.run, Sem.run_pure]
  rfl
theorem scw_storeRow (ho : os[k]? = some o) (hgd : o.guard = none) (ty : TypeId) (x y : Operand) (hop : o.op = .store ty x y) (g : Nat) (cells : Array Value) (hx : a.eval x = .pointer (some ⟨g, 0, none⟩)) (hy : a.eval y = .agg cells)
    (t : TypeId) (old : Array Value) (hg : w.heap[g]? = some (.cells old t (0, 0))) (hi : (P.info? ty).map (·.size) = some cells.size) (hold : old.size = cells.size) (h1 : cells.all (·.oneCell') = true)
    (hI : I (w.setRow g cells)) (hn : ScW P os.toArray I Q l (a.put o.dst undef) (w.setRow g cells)) : ScW P os.toArray I Q (.l k l) a w :=
  scw_loud ho fun K hK => by
    have hrun : (execOp a.eval o).run P w = .ok .skip (w.setRow g cells) := by
      refine ex_store hop ?_
      rw [hx, hy]
      simp only [Instr.storeAt, Instr.sureAddr, Sem.run_bind, Sem.run_pure, Result.andThen_ok, run_storeVar_row w g t ty old cells hg hi hold h1]
    rw [if_pos (by simp [Region.wanted, hgd]), hrun]
    exact ⟨hI, hK _ _ hn⟩
end
theorem nFold_take {l : List SeedD} {k : Nat} (h : k < l.length) : nFold [] (l.take (k + 1)) = nFold [] (l.take k) ++ [nEnt (nFold [] (l.take k)) l[k]] := by
  rw [List.take_succ_eq_append_getElem h, nFold_snoc]
def sig24 : Sch := .of [(true, 0), (true, 1), (true, 2), (true, 3), (true, 4), (true, 5), (true, 6), (true, 7), (true, 9), (true, 10), (true, 11), (true, 12), (true, 13)]
  (.two 8 (.q 14 (.q 15 (.q 16 (.l 17 (.l 18 .nil))))) 17 (.l 8 (.q 14 (.q 15 (.q 16 (.l 18 .nil))))))

set_option maxRecDepth 100000 in
set_option maxHeartbeats 4000000 in
theorem named_any (w : World) (v : Value) (l : List SeedD) (h : ListAt encSeed 6 w v l) (hO : ∀ x ∈ l, x.Ok) : Calls Tryd.prog 24 #[v] w (EntsPost w (namedL l)) := by
  obtain ⟨A, c, rfl, hc1, hc2, hA⟩ := h
  unfold maxLen at hc2
  have hll : ∀ w, (Builtin.len_ #[38] 3 #[.slice A l.length c]).run Tryd.prog w = .ok (.int .i64 l.length) w := fun w => by simp [Builtin.len_, run_underlying Tryd.underlying38]; rfl
  have hle : ∀ w A (n c : Nat), (Builtin.len_ #[22] 3 #[.slice A n c]).run Tryd.prog w = .ok (.int .i64 n) w := fun w A n c => by simp [Builtin.len_, run_underlying Tryd.underlying22]; rfl
  have HA := hide hA
  have HO := hide hO
  clear hA hO
  go_enter Tryd.func24, Tryd.ntmps24
  go_wp2_with fail
  go_loopw [4, 3] (fun s4 s3 wr => ∃ (k : Nat) (v3 : Value), v3 = s3 ∧ k ≤ l.length ∧ k ≤ 60 ∧ s4 = .int .i64 k ∧ OwnE w wr v3 (nFold [] (l.take k)) ∧ Mod None_ w wr) (fun s4 _ _ => l.length - (intOf s4).toNat)
  case atStart => exact ⟨0, _, rfl, Nat.zero_le _, Nat.zero_le _, rfl, ⟨rfl, .inl ⟨rfl, rfl⟩⟩, Mod.refl _ _⟩
  obtain ⟨k, v3, rfl, hk, hk60, rfl, hown, hM⟩ := hrel
  by_cases hlt : k < l.length ∧ k < 60
  · obtain ⟨hlt, hlt60⟩ := hlt
    have hki : (k : Int) < l.length := by omega
    have hki60 : (k : Int) < 60 := by omega
    have hsn := nFold_take hlt
    have hEl := nFold_length (l.take k) []
    rw [List.length_take, Nat.min_eq_left hk, List.length_nil, Nat.zero_add] at hEl
    obtain ⟨g, o, rfl, hg, hc⟩ := HA.out (by omega)
    have hx := hc k hlt
    have hok := HO.out l[k] (List.getElem_mem hlt)
    obtain ⟨x, he⟩ : ∃ x, x = l[k] := ⟨_, rfl⟩
    obtain ⟨E, hE⟩ : ∃ E, E = nFold [] (l.take k) := ⟨_, rfl⟩
    rw [← he] at hx hok hsn
    rw [← hE] at hsn hEl hown
    obtain ⟨oN, _, oA, _, _, _⟩ := hok
    have HSN := hide hsn
    have HEL := hide hEl
    have ewk : IntKind.u64.wrap ((k : Int) + 1) = k + 1 := IntWalk.u64_in _ (by omega)
    have ewk1 : IntKind.i64.wrap ((k : Int) + 1) = k + 1 := IntWalk.i64_in _ (by omega)
    have hgr : g < wr.heap.size := Nat.lt_of_lt_of_le hg hM.size
    have x1 : wr.cell? ⟨g, o + k * 6 + 1, none⟩ = some (.int .i64 x.a) := (World.cell?_of_block (hM.block g hg id)).trans (hx 1 _ rfl)
    have x5 : wr.cell? ⟨g, o + k * 6 + 5, none⟩ = some (.string x.name) := (World.cell?_of_block (hM.block g hg id)).trans (hx 5 _ rfl)
    clear hc hx he hE hsn hEl
    obtain ⟨nm, hnm⟩ : ∃ nm, nm = nameOf x.name := ⟨_, rfl⟩
    have HNC : Hid (∀ w, Calls Tryd.prog 26 #[.string x.name] w fun e w' => e = .returned (.string nm) ∧ Mod None_ w w') := hide fun w => by rw [hnm]; exact lawName_any w x.name oN
    have haa : 0 ≤ x.a % 255 ∧ x.a % 255 < 255 := by omega
    obtain ⟨aa, hae⟩ : ∃ aa, aa = x.a % 255 := ⟨_, rfl⟩
    have HMC : Hid (∀ w, Calls Tryd.prog 27 #[.int .i64 x.a, .int .i64 255] w fun e w' => e = .returned (.int .i64 aa) ∧ w = w') := hide fun w => by rw [hae]; exact mod_any x.a 255 w oA (by omega) (by omega)
    rw [← hae] at haa
    obtain ⟨ha0, ha1⟩ := haa
    have ewa : IntKind.i64.wrap (2 + aa) = 2 + aa := IntWalk.i64_in _ (by omega)
    have HNM := hide hnm
    have HAA := hide hae
    clear hnm hae
    go_upto_region 5 with fail
    refine region_sch sig24 (fun w' => w'.cell? ⟨g, o + k * 6 + 1, none⟩ = some (.int .i64 x.a) ∧ w'.cell? ⟨g, o + k * 6 + 5, none⟩ = some (.string x.name)) (by kernel_rfl) (by kernel_rfl) ?_
    rintro w1 hw1
    have hm1 : Mod None_ wr w1 := by rw [hw1]; exact (Mod.refl _ wr).drew
    replace x1 := (World.cell?_of_block (hm1.block g hgr id)).trans x1
    replace x5 := (World.cell?_of_block (hm1.block g hgr id)).trans x5
    replace hgr : g < w1.heap.size := Nat.lt_of_lt_of_le hgr hm1.size
    have hown1 := own_mod hown hm1 (fun _ _ f => f)
    have hM1 := hM.trans hm1
    clear hw1 hm1 hown hM
    refine ⟨⟨x1, x5⟩, ?_⟩
    unfold sig24 Sch.of
    simp only [Sch.of]
    iterate 13 (refine scw_quiet rfl (fun w' i1 K hK => by obtain ⟨i1, i2⟩ := i1; go_simp; exact hK) ?_; go_frame)
    refine scw_two ?_ ?_
    · refine scw_loud rfl (fun K hK => ?_)
      go_simp
      refine Calls.mono (HNC.out w1) ?_
      rintro e w2 ⟨rfl, hm2⟩
      replace x1 := (World.cell?_of_block (hm2.block g hgr id)).trans x1
      replace x5 := (World.cell?_of_block (hm2.block g hgr id)).trans x5
      have hgr2 : g < w2.heap.size := Nat.lt_of_lt_of_le hgr hm2.size
      have hown2 := own_mod hown1 hm2 (fun _ _ f => f)
      have hM2 := hM1.trans hm2
      refine ⟨_, rfl, ⟨x1, x5⟩, hK _ _ ?_⟩
      clear hK K hown1 hM1 hgr
      try go_frame
      refine scw_quiet rfl (fun w' i1 K hK => by go_simp; exact ⟨_, (HMC.out w').mono fun e w'' h => ⟨h.1, h.2.symm⟩, hK⟩) ?_
      go_frame
      iterate 2 (refine scw_quiet rfl (fun w' i1 K hK => by go_simp; exact hK) ?_; go_frame)
      obtain ⟨m, hm⟩ : ∃ m, m = w2.heap.size := ⟨_, rfl⟩
      obtain ⟨w3, hw3⟩ : ∃ w3, w3 = w2.alloc (.cells zeroEnt 26) := ⟨_, rfl⟩
      have hm3 : Mod None_ w2 w3 := by rw [hw3]; exact (Mod.refl _ w2).alloc _
      have b3 : Blk w3 m 26 zeroEnt := by rw [hw3, hm]; exact Blk.new w2 _ _
      have hown3 := own_mod hown2 hm3 (fun _ _ f => f)
      have HNE : Hid (∀ g, v3.ownBlock = some g → g < m) := hide fun g hg => by
        obtain ⟨_, cur, hh⟩ := own_blk hown2 hg
        rw [hm]; exact (Array.getElem?_eq_some_iff.1 hh).1
      have hM3 := hM2.trans hm3
      have hgem : w.heap.size ≤ m := by rw [hm]; exact hM2.size
      have hgm : g < m := by omega
      refine scw_alloc rfl rfl 26 rfl (.agg zeroEnt) zeroEntV ?_ ?_
      · rw [show (Value.agg zeroEnt).cells = zeroEnt from rfl, ← hw3]
        exact ⟨(World.cell?_of_block (hm3.block g hgr2 id)).trans x1, (World.cell?_of_block (hm3.block g hgr2 id)).trans x5⟩
      rw [show (Value.agg zeroEnt).cells = zeroEnt from rfl, ← hw3, ← hm]
      try go_frame
      replace x1 := (World.cell?_of_block (hm3.block g hgr2 id)).trans x1
      replace x5 := (World.cell?_of_block (hm3.block g hgr2 id)).trans x5
      have hgr3 : g < w3.heap.size := Nat.lt_of_lt_of_le hgr2 hm3.size
      clear hw3 hm hm3 hown2 hM2 hgr2
      have hm4 : Mod (· = m) w3 (w3.setRow m (encEntry (⟨3, k + 1, 0, 0, 0, 0, 2 + aa, nm⟩ : EntD)).toArray) := (Mod.refl (· = m) w3).setRow (.inr rfl) _
      refine scw_storeRow rfl rfl 26 (.tmp 5) (.tmp 32) rfl m (encEntry (⟨3, k + 1, 0, 0, 0, 0, 2 + aa, nm⟩ : EntD)).toArray rfl rfl 26 zeroEnt b3 (infoEnt _) rfl (oneEnt _) ?_ ?_
      · exact ⟨(World.cell?_of_block (hm4.block g hgr3 (by show ¬ g = m; omega))).trans x1, (World.cell?_of_block (hm4.block g hgr3 (by show ¬ g = m; omega))).trans x5⟩
      refine scw_nil ?_
      try go_frame
      have b4' := b3.row (encEntry (⟨3, k + 1, 0, 0, 0, 0, 2 + aa, nm⟩ : EntD)).toArray
      have hM4' : Mod None_ w (w3.setRow m (encEntry (⟨3, k + 1, 0, 0, 0, 0, 2 + aa, nm⟩ : EntD)).toArray) := hM3.trans' hm4 (fun g hg e => by omega)
      have hown4' := own_mod hown3 hm4 (fun g hg e => by have := HNE.out g hg; omega)
      obtain ⟨w4, hw4⟩ : ∃ w4, w4 = w3.setRow m (encEntry (⟨3, k + 1, 0, 0, 0, 0, 2 + aa, nm⟩ : EntD)).toArray := ⟨_, rfl⟩
      rw [← hw4] at b4' hM4' hown4' ⊢
      have b4 := b4'
      have hM4 := hM4'
      have hown4 := hown4'
      clear b4' hM4' hown4' hw4 hm4 b3 hM3 hown3 x1 x5 ewa
      obtain ⟨A3, c3, rfl⟩ := own_slice hown4
      have hli := list_of_ownRow (enc := encEntry) (fun _ => rfl) hown4
      have y7 : w4.cell? ⟨m, 7, none⟩ = some (.string nm) := b4.cell 7
      go_wp2_with fail
      refine Calls.mono (find_any w4 _ E nm hli) ?_
      rintro e w5 ⟨rfl, hm5⟩
      have b5 := b4.mod hm5 id
      have hown5 := own_mod hown4 hm5 (fun _ _ f => f)
      have hM5 := hM4.trans hm5
      clear b4 hown4 hM4 hm5 hli y7
      obtain ⟨fd, hfd⟩ : ∃ fd, fd = findR E.reverse nm := ⟨_, rfl⟩
      rw [← hfd]
      have HFD := hide hfd
      clear hfd
      by_cases hf0 : 0 < fd
      · have d0 : decide (0 < fd) = true := decide_eq_true hf0
        have HF0 := hide hf0
        have f0 : w5.frozen? ⟨m, 0, none⟩ = false := b5.frozen _
        have g0 : w5.cell? ⟨m, 0, none⟩ = some (.int .i64 3) := b5.cell 0
        clear hf0
        go_upto_region 7 with fail
        go_upto_region 8 with fail
        obtain ⟨w6, hw6⟩ : ∃ y, y = w5.setCell ⟨m, 0, none⟩ (.int .i64 4) := ⟨_, rfl⟩
        rw [← hw6]
        have hs6 : Mod (· = m) w5 w6 := by rw [hw6]; exact (Mod.refl (· = m) w5).setCell (p := ⟨m, 0, none⟩) (.inr rfl) _
        have b6 : Blk w6 m 26 (encEntry (⟨4, k + 1, 0, 0, 0, 0, 2 + aa, nm⟩ : EntD)).toArray := by
          have := b5.set_ 0 (.int .i64 4)
          rw [← hw6] at this
          exact this
        have hM6 : Mod None_ w w6 := hM5.trans' hs6 (fun g hg e => by omega)
        have hown6 := own_mod hown5 hs6 (fun g hg e => by have := HNE.out g hg; omega)
        clear hw6 hs6 b5 hM5 hown5 f0 g0
        have f6 : w6.frozen? ⟨m, 6, none⟩ = false := b6.frozen _
        have g6 : w6.cell? ⟨m, 6, none⟩ = some (.int .i64 (2 + aa)) := b6.cell 6
        go_upto_region 9 with fail
        obtain ⟨w7, hw7⟩ : ∃ y, y = w6.setCell ⟨m, 6, none⟩ (.int .i64 0) := ⟨_, rfl⟩
        rw [← hw7]
        have hs7 : Mod (· = m) w6 w7 := by rw [hw7]; exact (Mod.refl (· = m) w6).setCell (p := ⟨m, 6, none⟩) (.inr rfl) _
        have b7 : Blk w7 m 26 (encEntry (⟨4, k + 1, 0, 0, 0, 0, 0, nm⟩ : EntD)).toArray := by
          have := b6.set_ 6 (.int .i64 0)
          rw [← hw7] at this
          exact this
        have hM7 : Mod None_ w w7 := hM6.trans' hs7 (fun g hg e => by omega)
        have hown7 := own_mod hown6 hs7 (fun g hg e => by have := HNE.out g hg; omega)
        clear hw7 hs7 b6 hM6 hown6 f6 g6
        have HY : Hid ((⟨4, k + 1, 0, 0, 0, 0, 0, nm⟩ : EntD) = nEnt E x) := hide (by unfold nEnt; rw [← HNM.out, ← HFD.out, if_pos HF0.out, HEL.out])
        have HI := hide (infoEnt (⟨4, k + 1, 0, 0, 0, 0, 0, nm⟩ : EntD))
        have hbz := hM7.size
        have hEl : E.length ≤ 100 := by have := HEL.out; omega
        generalize (⟨4, k + 1, 0, 0, 0, 0, 0, nm⟩ : EntD) = y at b7 HI HY
        have hy8 : (encEntry y).length = 8 := rfl
        go_wp2_with (first
          | ((with_reducible refine at_slot 43 ?_); refine wpList_val rfl (ex_load rfl (run_loadRow b7 Tryd.underlying26 rfl HI.out)) ?_; go_frame)
          | ((with_reducible refine at_slot 45 ?_); refine wpList_append_row encEntry 22 26 (.agg #[.int .i64 0, .int .u64 0, .int .i64 0, .int .i64 0, .int .i64 0, .int .i64 0, .int .i64 0, .string ⟨#[]⟩]) 8 72 Tryd.underlying22 infoEntry rfl (by decide) (fun _ => rfl) oneEntry rfl (.tmp 42) (.tmp 44) rfl w7 w.heap.size (.slice A3 E.length c3) E y rfl rfl w7.heap.size rfl rfl hown7 hbz (by unfold maxLen; omega) (by omega) ?_; intro v8 w8 hown8 hm8 hat8; have hM8 := hM7.trans' hm8 (fun k hk e => by have := (own_blk hown7 e.symm).1; omega); have L1 := hide hown8; have L2 := hide hM8; clear hown8 hm8 hat8 hM8 hown7 hM7; go_frame))
        go_roundw
        case rel => exact ⟨k + 1, _, rfl, by omega, by omega, by simp, by rw [HSN.out, ← HY.out]; exact L1.out, L2.out⟩
        case measure => simp [intOf]; omega
      · have d0 : decide (0 < fd) = false := decide_eq_false hf0
        have HY : Hid ((⟨3, k + 1, 0, 0, 0, 0, 2 + aa, nm⟩ : EntD) = nEnt E x) := hide (by unfold nEnt; rw [← HNM.out, ← HFD.out, if_neg hf0, HEL.out, HAA.out])
        clear hf0
        go_upto_region 9 with fail
        have HI := hide (infoEnt (⟨3, k + 1, 0, 0, 0, 0, 2 + aa, nm⟩ : EntD))
        have hbz := hM5.size
        have hEl : E.length ≤ 100 := by have := HEL.out; omega
        generalize (⟨3, k + 1, 0, 0, 0, 0, 2 + aa, nm⟩ : EntD) = y at b5 HI HY
        have hy8 : (encEntry y).length = 8 := rfl
        go_wp2_with (first
          | ((with_reducible refine at_slot 43 ?_); refine wpList_val rfl (ex_load rfl (run_loadRow b5 Tryd.underlying26 rfl HI.out)) ?_; go_frame)
          | ((with_reducible refine at_slot 45 ?_); refine wpList_append_row encEntry 22 26 (.agg #[.int .i64 0, .int .u64 0, .int .i64 0, .int .i64 0, .int .i64 0, .int .i64 0, .int .i64 0, .string ⟨#[]⟩]) 8 72 Tryd.underlying22 infoEntry rfl (by decide) (fun _ => rfl) oneEntry rfl (.tmp 42) (.tmp 44) rfl w5 w.heap.size (.slice A3 E.length c3) E y rfl rfl w5.heap.size rfl rfl hown5 hbz (by unfold maxLen; omega) (by omega) ?_; intro v8 w8 hown8 hm8 hat8; have hM8 := hM5.trans' hm8 (fun k hk e => by have := (own_blk hown5 e.symm).1; omega); have L1 := hide hown8; have L2 := hide hM8; clear hown8 hm8 hat8 hM8 hown5 hM5; go_frame))
        go_roundw
        case rel => exact ⟨k + 1, _, rfl, by omega, by omega, by simp, by rw [HSN.out, ← HY.out]; exact L1.out, L2.out⟩
        case measure => simp [intOf]; omega
    · obtain ⟨m, hm⟩ : ∃ m, m = w1.heap.size := ⟨_, rfl⟩
      obtain ⟨w2, hw2⟩ : ∃ w2, w2 = w1.alloc (.cells zeroEnt 26) := ⟨_, rfl⟩
      have hm2 : Mod None_ w1 w2 := by rw [hw2]; exact (Mod.refl _ w1).alloc _
      have b2 : Blk w2 m 26 zeroEnt := by rw [hw2, hm]; exact Blk.new w1 _ _
      have hown2 := own_mod hown1 hm2 (fun _ _ f => f)
      have HNE : Hid (∀ g, v3.ownBlock = some g → g < m) := hide fun g hg => by
        obtain ⟨_, cur, hh⟩ := own_blk hown1 hg
        rw [hm]; exact (Array.getElem?_eq_some_iff.1 hh).1
      have hM2 := hM1.trans hm2
      have hgem : w.heap.size ≤ m := by rw [hm]; exact hM1.size
      have hgm : g < m := by omega
      replace x1 := (World.cell?_of_block (hm2.block g hgr id)).trans x1
      replace x5 := (World.cell?_of_block (hm2.block g hgr id)).trans x5
      have hgr2 : g < w2.heap.size := Nat.lt_of_lt_of_le hgr hm2.size
      refine scw_alloc rfl rfl 26 rfl (.agg zeroEnt) zeroEntV ?_ ?_
      · rw [show (Value.agg zeroEnt).cells = zeroEnt from rfl, ← hw2]
        exact ⟨x1, x5⟩
      rw [show (Value.agg zeroEnt).cells = zeroEnt from rfl, ← hw2, ← hm]
      try go_frame
      clear hw2 hm hm2 hown1 hM1 hgr
      refine scw_loud rfl (fun K hK => ?_)
      go_simp
      refine Calls.mono (HNC.out w2) ?_
      rintro e w3 ⟨rfl, hm3⟩
      replace x1 := (World.cell?_of_block (hm3.block g hgr2 id)).trans x1
      replace x5 := (World.cell?_of_block (hm3.block g hgr2 id)).trans x5
      have hgr3 : g < w3.heap.size := Nat.lt_of_lt_of_le hgr2 hm3.size
      have hown3 := own_mod hown2 hm3 (fun _ _ f => f)
      have hM3 := hM2.trans hm3
      have b3 := b2.mod hm3 id
      refine ⟨_, rfl, ⟨x1, x5⟩, hK _ _ ?_⟩
      clear hK K hown2 hM2 hgr2 b2 hm3
      try go_frame
      refine scw_quiet rfl (fun w' i1 K hK => by go_simp; exact ⟨_, (HMC.out w').mono fun e w'' h => ⟨h.1, h.2.symm⟩, hK⟩) ?_
      go_frame
      iterate 2 (refine scw_quiet rfl (fun w' i1 K hK => by go_simp; exact hK) ?_; go_frame)
      have hm4 : Mod (· = m) w3 (w3.setRow m (encEntry (⟨3, k + 1, 0, 0, 0, 0, 2 + aa, nm⟩ : EntD)).toArray) := (Mod.refl (· = m) w3).setRow (.inr rfl) _
      refine scw_storeRow rfl rfl 26 (.tmp 5) (.tmp 32) rfl m (encEntry (⟨3, k + 1, 0, 0, 0, 0, 2 + aa, nm⟩ : EntD)).toArray rfl rfl 26 zeroEnt b3 (infoEnt _) rfl (oneEnt _) ?_ ?_
      · exact ⟨(World.cell?_of_block (hm4.block g hgr3 (by show ¬ g = m; omega))).trans x1, (World.cell?_of_block (hm4.block g hgr3 (by show ¬ g = m; omega))).trans x5⟩
      refine scw_nil ?_
      try go_frame
      have b4' := b3.row (encEntry (⟨3, k + 1, 0, 0, 0, 0, 2 + aa, nm⟩ : EntD)).toArray
      have hM4' : Mod None_ w (w3.setRow m (encEntry (⟨3, k + 1, 0, 0, 0, 0, 2 + aa, nm⟩ : EntD)).toArray) := hM3.trans' hm4 (fun g hg e => by omega)
      have hown4' := own_mod hown3 hm4 (fun g hg e => by have := HNE.out g hg; omega)
      obtain ⟨w4, hw4⟩ : ∃ w4, w4 = w3.setRow m (encEntry (⟨3, k + 1, 0, 0, 0, 0, 2 + aa, nm⟩ : EntD)).toArray := ⟨_, rfl⟩
      rw [← hw4] at b4' hM4' hown4' ⊢
      have b4 := b4'
      have hM4 := hM4'
      have hown4 := hown4'
      clear b4' hM4' hown4' hw4 hm4 b3 hM3 hown3 x1 x5 ewa
      obtain ⟨A3, c3, rfl⟩ := own_slice hown4
      have hli := list_of_ownRow (enc := encEntry) (fun _ => rfl) hown4
      have y7 : w4.cell? ⟨m, 7, none⟩ = some (.string nm) := b4.cell 7
      go_wp2_with fail
      refine Calls.mono (find_any w4 _ E nm hli) ?_
      rintro e w5 ⟨rfl, hm5⟩
      have b5 := b4.mod hm5 id
      have hown5 := own_mod hown4 hm5 (fun _ _ f => f)
      have hM5 := hM4.trans hm5
      clear b4 hown4 hM4 hm5 hli y7
      obtain ⟨fd, hfd⟩ : ∃ fd, fd = findR E.reverse nm := ⟨_, rfl⟩
      rw [← hfd]
      have HFD := hide hfd
      clear hfd
      by_cases hf0 : 0 < fd
      · have d0 : decide (0 < fd) = true := decide_eq_true hf0
        have HF0 := hide hf0
        have f0 : w5.frozen? ⟨m, 0, none⟩ = false := b5.frozen _
        have g0 : w5.cell? ⟨m, 0, none⟩ = some (.int .i64 3) := b5.cell 0
        clear hf0
        go_upto_region 7 with fail
        go_upto_region 8 with fail
        obtain ⟨w6, hw6⟩ : ∃ y, y = w5.setCell ⟨m, 0, none⟩ (.int .i64 4) := ⟨_, rfl⟩
        rw [← hw6]
        have hs6 : Mod (· = m) w5 w6 := by rw [hw6]; exact (Mod.refl (· = m) w5).setCell (p := ⟨m, 0, none⟩) (.inr rfl) _
        have b6 : Blk w6 m 26 (encEntry (⟨4, k + 1, 0, 0, 0, 0, 2 + aa, nm⟩ : EntD)).toArray := by
          have := b5.set_ 0 (.int .i64 4)
          rw [← hw6] at this
          exact this
        have hM6 : Mod None_ w w6 := hM5.trans' hs6 (fun g hg e => by omega)
        have hown6 := own_mod hown5 hs6 (fun g hg e => by have := HNE.out g hg; omega)
        clear hw6 hs6 b5 hM5 hown5 f0 g0
        have f6 : w6.frozen? ⟨m, 6, none⟩ = false := b6.frozen _
        have g6 : w6.cell? ⟨m, 6, none⟩ = some (.int .i64 (2 + aa)) := b6.cell 6
        go_upto_region 9 with fail
        obtain ⟨w7, hw7⟩ : ∃ y, y = w6.setCell ⟨m, 6, none⟩ (.int .i64 0) := ⟨_, rfl⟩
        rw [← hw7]
        have hs7 : Mod (· = m) w6 w7 := by rw [hw7]; exact (Mod.refl (· = m) w6).setCell (p := ⟨m, 6, none⟩) (.inr rfl) _
        have b7 : Blk w7 m 26 (encEntry (⟨4, k + 1, 0, 0, 0, 0, 0, nm⟩ : EntD)).toArray := by
          have := b6.set_ 6 (.int .i64 0)
          rw [← hw7] at this
          exact this
        have hM7 : Mod None_ w w7 := hM6.trans' hs7 (fun g hg e => by omega)
        have hown7 := own_mod hown6 hs7 (fun g hg e => by have := HNE.out g hg; omega)
        clear hw7 hs7 b6 hM6 hown6 f6 g6
        have HY : Hid ((⟨4, k + 1, 0, 0, 0, 0, 0, nm⟩ : EntD) = nEnt E x) := hide (by unfold nEnt; rw [← HNM.out, ← HFD.out, if_pos HF0.out, HEL.out])
        have HI := hide (infoEnt (⟨4, k + 1, 0, 0, 0, 0, 0, nm⟩ : EntD))
        have hbz := hM7.size
        have hEl : E.length ≤ 100 := by have := HEL.out; omega
        generalize (⟨4, k + 1, 0, 0, 0, 0, 0, nm⟩ : EntD) = y at b7 HI HY
        have hy8 : (encEntry y).length = 8 := rfl
        go_wp2_with (first
          | ((with_reducible refine at_slot 43 ?_); refine wpList_val rfl (ex_load rfl (run_loadRow b7 Tryd.underlying26 rfl HI.out)) ?_; go_frame)
          | ((with_reducible refine at_slot 45 ?_); refine wpList_append_row encEntry 22 26 (.agg #[.int .i64 0, .int .u64 0, .int .i64 0, .int .i64 0, .int .i64 0, .int .i64 0, .int .i64 0, .string ⟨#[]⟩]) 8 72 Tryd.underlying22 infoEntry rfl (by decide) (fun _ => rfl) oneEntry rfl (.tmp 42) (.tmp 44) rfl w7 w.heap.size (.slice A3 E.length c3) E y rfl rfl w7.heap.size rfl rfl hown7 hbz (by unfold maxLen; omega) (by omega) ?_; intro v8 w8 hown8 hm8 hat8; have hM8 := hM7.trans' hm8 (fun k hk e => by have := (own_blk hown7 e.symm).1; omega); have L1 := hide hown8; have L2 := hide hM8; clear hown8 hm8 hat8 hM8 hown7 hM7; go_frame))
        go_roundw
        case rel => exact ⟨k + 1, _, rfl, by omega, by omega, by simp, by rw [HSN.out, ← HY.out]; exact L1.out, L2.out⟩
        case measure => simp [intOf]; omega
      · have d0 : decide (0 < fd) = false := decide_eq_false hf0
        have HY : Hid ((⟨3, k + 1, 0, 0, 0, 0, 2 + aa, nm⟩ : EntD) = nEnt E x) := hide (by unfold nEnt; rw [← HNM.out, ← HFD.out, if_neg hf0, HEL.out, HAA.out])
        clear hf0
        go_upto_region 9 with fail
        have HI := hide (infoEnt (⟨3, k + 1, 0, 0, 0, 0, 2 + aa, nm⟩ : EntD))
        have hbz := hM5.size
        have hEl : E.length ≤ 100 := by have := HEL.out; omega
        generalize (⟨3, k + 1, 0, 0, 0, 0, 2 + aa, nm⟩ : EntD) = y at b5 HI HY
        have hy8 : (encEntry y).length = 8 := rfl
        go_wp2_with (first
          | ((with_reducible refine at_slot 43 ?_); refine wpList_val rfl (ex_load rfl (run_loadRow b5 Tryd.underlying26 rfl HI.out)) ?_; go_frame)
          | ((with_reducible refine at_slot 45 ?_); refine wpList_append_row encEntry 22 26 (.agg #[.int .i64 0, .int .u64 0, .int .i64 0, .int .i64 0, .int .i64 0, .int .i64 0, .int .i64 0, .string ⟨#[]⟩]) 8 72 Tryd.underlying22 infoEntry rfl (by decide) (fun _ => rfl) oneEntry rfl (.tmp 42) (.tmp 44) rfl w5 w.heap.size (.slice A3 E.length c3) E y rfl rfl w5.heap.size rfl rfl hown5 hbz (by unfold maxLen; omega) (by omega) ?_; intro v8 w8 hown8 hm8 hat8; have hM8 := hM5.trans' hm8 (fun k hk e => by have := (own_blk hown5 e.symm).1; omega); have L1 := hide hown8; have L2 := hide hM8; clear hown8 hm8 hat8 hM8 hown5 hM5; go_frame))
        go_roundw
        case rel => exact ⟨k + 1, _, rfl, by omega, by omega, by simp, by rw [HSN.out, ← HY.out]; exact L1.out, L2.out⟩
        case measure => simp [intOf]; omega
  · have HT : Hid (l.take k = l.take 60) := hide (take_60 hk hk60 hlt)
    have HF : Hid (EntsPost w (namedL l) (.returned v3) wr) := hide ⟨v3, rfl, by unfold namedL; rw [← HT.out]; exact hown, hM⟩
    clear HT hown hM
    by_cases h1 : k < l.length
    · have h2 : ¬ (k : Int) < 60 := by omega
      have h1i : (k : Int) < l.length := by omega
      clear hlt
      go_wp2
      go_ret
      exact HF.out
    · have h1i : ¬ (k : Int) < l.length := by omega
      clear hlt
      go_wp2
      go_ret
      exact HF.out
end Go.Proofs.YtabebkffcmajkaaDoor

/-! Plain law: directories of the laws: their names; what is refused. -/
namespace Go.Proofs.YtabebkffcmajkaaDoor
open Go.RowKit Go.Maps Go.Shelf

theorem dir_replay (l : List SeedD) : ∃ R nm, DirPlay (namedL l) R nm ∧ replayErr 2 (namedL l) = 0 ∧ replayN 2 (namedL l) = nodeOf (.dir R) (namedL l).length ∧ WfD (.dir R) := by
  obtain ⟨R, nm, h⟩ := named_replay l
  have hp : playD (zeroD 2) (namedL l) = (0, .dir R) := h.play
  obtain ⟨h1, h2, h3, _⟩ := replay_ok (k := 2) (.inr rfl) hp
  exact ⟨R, nm, h, h1, h2, h3⟩
theorem thereL_bound : ∀ (L : List EntD) (n : Int), n - L.length ≤ thereL n L ∧ thereL n L ≤ n + L.length
  | [], n => by show n - (0 : Nat) ≤ n ∧ n ≤ n + (0 : Nat); omega
  | e :: L, n => by
    have h := thereL_bound L (if e.kind = 3 then n + 1 else n - 1)
    have e1 : thereL n (e :: L) = thereL (if e.kind = 3 then n + 1 else n - 1) L := rfl
    rw [e1, List.length_cons]
    by_cases h3 : e.kind = 3
    · rw [if_pos h3] at h ⊢; push_cast; omega
    · rw [if_neg h3] at h ⊢; push_cast; omega
theorem thereL_take {L : List EntD} {k : Nat} (h : k < L.length) : thereL 0 (L.take (k + 1)) = if L[k].kind = 3 then thereL 0 (L.take k) + 1 else thereL 0 (L.take k) - 1 := by
  rw [List.take_succ_eq_append_getElem h]
  unfold thereL
  rw [List.foldl_append]; rfl
theorem DirPlay.len {L : List EntD} {R : List Row} {nm : List (ByteArray × Int)} (h : DirPlay L R nm) : nm.length ≤ L.length := by
  have := thereL_bound L 0
  have := h.count
  omega
theorem dir_names {R : List Row} {nm : List (ByteArray × Int)} {j : Nat} (h : DirIs R nm) : (nodeOf (.dir R) j).names = nm := h.names
theorem DirPlay.at {L : List EntD} {R : List Row} {nm : List (ByteArray × Int)} (h : DirPlay L R nm) {x : ByteArray × Int} (hx : x ∈ nm) : findR L.reverse x.1 = x.2 ∧ 2 ≤ x.2 ∧ x.2 ≤ 256 := by
  refine ⟨by rw [h.find, findP_mem h.is.rises hx], ?_⟩
  have := (goodDent_iff x).1 (h.is.good x hx)
  exact this.2
/-- what is to be refused -/
def badE (L : List EntD) (s : ByteArray) : EntD := if 0 < findR L.reverse s then ⟨3, 0, 0, 0, 0, 0, 2, s⟩ else ⟨4, 0, 0, 0, 0, 0, 0, s⟩
theorem bad_step {L : List EntD} {R : List Row} {nm : List (ByteArray × Int)} (h : DirPlay L R nm) {s : ByteArray} (hs : goodName s = true) : stepErr (.dir R) (badE L s) = 90 := by
  have hh := hadL_find h.is.good s
  have hg : goodEnt (one (badE L s)) = true := by
    unfold badE
    split
    · exact add_good _ _ hs ⟨Int.le_refl _, by omega⟩
    · exact drop_good _ hs
  have hok : onOk (badE L s) (.dir R) = false := by
    rw [dir_ok_eq (n := { zeroN with names := nm }) h.is hg]
    unfold dirOk
    show (!decide ((badE L s).kind ≤ 2) && (hadL nm (badE L s).name == decide ((badE L s).kind = 4))) = false
    unfold badE
    rw [h.find]
    by_cases h0 : 0 < findP nm s
    · rw [if_pos h0]
      show (!decide ((3 : Int) ≤ 2) && (hadL nm s == decide ((3 : Int) = 4))) = false
      rw [hh.2 h0]; decide
    · rw [if_neg h0]
      show (!decide ((4 : Int) ≤ 2) && (hadL nm s == decide ((4 : Int) = 4))) = false
      have : hadL nm s = false := by
        cases hb : hadL nm s
        · rfl
        · exact absurd (hh.1 hb) h0
      rw [this]; decide
  unfold stepErr
  rw [if_neg (by rw [hg]; decide), if_pos hok]
theorem names_rows {R : List Row} {nm : List (ByteArray × Int)} (h : DirIs R nm) : lenD (.dir R) ≤ nm.length := by
  show R.length ≤ nm.length
  rw [h.perm.length_eq]
  unfold dirList
  rw [List.length_reverse, List.length_map]
  exact Nat.le_refl _
theorem bad_apply {L : List EntD} {R : List Row} {nm : List (ByteArray × Int)} (h : DirPlay L R nm) (hw : WfD (.dir R)) {s : ByteArray} (hs : goodName s = true) (j : Nat) : applyErr (nodeOf (.dir R) j) (badE L s) = 90 ∧ applyN (nodeOf (.dir R) j) (badE L s) = zeroN := by
  have h1 : applyErr (nodeOf (.dir R) j) (badE L s) = 90 := by rw [applyErr_node hw trivial, bad_step h hs]
  exact ⟨h1, applyN_bad (by rw [h1]; decide)⟩
end Go.Proofs.YtabebkffcmajkaaDoor

/-! Law walk: InodeFiles. -/
namespace Go.Proofs.YtabebkffcmajkaaDoor
open Go.RowKit Go.Maps Go.Shelf
attribute [local go_sem] quietV loudUpon Oper.semAt_some

theorem file_replay (l : List SeedD) : ∃ z f, z = lastSize 0 (writtenL l) ∧ replayErr 1 (writtenL l) = 0 ∧ replayN 1 (writtenL l) = nodeOf (.file z f) (writtenL l).length ∧ PageF f ∧ (0 ≤ z ∧ z ≤ 262144) ∧ FitD (.file z f) ∧ (∀ x : Nat, f x = atR (writtenL l).reverse x) := by
  obtain ⟨f, hp, hf⟩ := written_replay l
  have hp' : playD (zeroD 1) (writtenL l) = (0, .file (lastSize 0 (writtenL l)) f) := hp
  obtain ⟨h1, h2, h3, h4⟩ := replay_ok (k := 1) (.inl rfl) hp'
  exact ⟨_, f, rfl, h1, h2, h3.2, h3.1, h4, hf⟩
theorem file_sep {z : Int} {f : Nat → Int} {j : Nat} (h : PageF f) : (nodeOf (.file z f) j).map.Pairwise Apart2 := by
  rw [nodeOf_map]; exact (runs_sep h.inr 512 (Nat.le_refl _)).apart
theorem file_runs {z : Int} {f : Nat → Int} {j : Nat} (h : PageF f) : ∀ r ∈ (nodeOf (.file z f) j).map, refRun r = true := by
  rw [nodeOf_map]; exact runs_good h

set_option maxRecDepth 100000 in
set_option maxHeartbeats 4000000 in
theorem lawFiles (w : World) (v : Value) (l : List SeedD) (hs : Steps w) (h : ListAt encSeed 6 w v l) (hO : ∀ x ∈ l, x.Ok) : Calls Tryd.prog 4 #[v] w (BoolPost w true) := by
  have hv1 : v.oneCell' = true := by obtain ⟨A, c, rfl, _⟩ := h; rfl
  have HW := hide (written_any w v l h hO)
  have HS := hide hs
  clear h hO hs
  go_enter Tryd.func4, Tryd.ntmps4
  go_wp2_with fail
  refine Calls.mono HW.out ?_
  rintro e w1 ⟨v1, rfl, hown1, hM1⟩
  obtain ⟨z, f, hz, hre, hrn, hpf, hzz, hfit, hat⟩ := file_replay l
  have hfile := written_file l
  have hlen := writtenL_length l
  obtain ⟨L, hL⟩ : ∃ L, L = writtenL l := ⟨_, rfl⟩
  rw [← hL] at hown1 hz hre hrn hat hfile hlen
  have hl60 : L.length ≤ 60 := by omega
  obtain ⟨A1, c1, rfl⟩ := own_slice hown1
  have hl1 := list_of_ownRow (enc := encEntry) (fun _ => rfl) hown1
  have HL1 := hide hl1
  have HZ := hide hz
  have HFI := hide hfile
  have HAT := hide hat
  clear HW hL hown1 hlen hz hfile hat
  go_wp2_with fail
  refine (copyEntries_any w1 _ L HL1.out (by omega)).mono ?_
  rintro e w2 ⟨v2, rfl, hown2, hM2⟩
  have hl2 := list_of_ownRow (enc := encEntry) (fun _ => rfl) hown2
  have hM2t := hM1.trans hM2
  have HRP := hide (replay_any w2 1 v2 L (HS.out.kept hM2t) hl2 (by omega))
  clear hown2 hl2
  go_wp2_with fail
  refine Calls.mono HRP.out ?_
  rintro e w3 ⟨vm, vn, vl, rfl, hO3, hM3⟩
  rw [hre, hrn]
  rw [hrn] at hO3
  obtain ⟨n, hn⟩ : ∃ n, n = nodeOf (.file z f) L.length := ⟨_, rfl⟩
  rw [← hn] at hO3 ⊢
  have n1 : n.kind = 1 := by rw [hn]; rfl
  have n3 : n.size = z := by rw [hn]; rfl
  have n9 : n.entries = L.length := by rw [hn]; rfl
  have n5 : n.names.length = 0 := by rw [hn]; rfl
  have hmap := list_of_ownRow (enc := encRun) (fun _ => rfl) hO3.map
  have hr : ∀ r ∈ n.map, refRun r = true := by rw [hn]; exact file_runs hpf
  have ha : n.map.Pairwise Apart2 := by rw [hn]; exact file_sep hpf
  have hma : ∀ x : Nat, x < 512 → mapGo n.map x 0 = (f x, true) := by rw [hn]; exact fun x hx => map_at hpf hx
  have hnn := hO3.names
  rw [n5] at hnn
  obtain ⟨An, cn, rfl⟩ := own_slice hnn
  have hv2 : vm.oneCell' = true := by obtain ⟨A, c, rfl, _⟩ := hmap; rfl
  have hv3 : vl.oneCell' = true := by obtain ⟨A, c, rfl, _⟩ := list_of_ownRow (enc := encInt) (fun _ => rfl) hO3.log; rfl
  have hM3t := hM2t.trans hM3
  obtain ⟨q, hq⟩ : ∃ q, q = w3.heap.size := ⟨_, rfl⟩
  obtain ⟨w4, hw4⟩ : ∃ w4, w4 = w3.alloc (.cells (nodeC n vm (.slice An 0 cn) vl) 31) := ⟨_, rfl⟩
  have hm4 : Mod None_ w3 w4 := by rw [hw4]; exact (Mod.refl _ w3).alloc _
  have b4 : Blk w4 q 31 (nodeC n vm (.slice An 0 cn) vl) := by rw [hw4, hq]; exact Blk.new w3 _ _
  have hM4 := hM3t.trans hm4
  have HM1 := hide hM1
  have HMA := hide (hmap.kept hm4)
  have HR := hide hr
  have HA := hide ha
  have HMG := hide hma
  have HI := hide (infoNode n vm (.slice An 0 cn) vl)
  have HO1 := hide (nodeC_one n vm (.slice An 0 cn) vl hv2 rfl hv3)
  have HW4 := hide hw4
  have HQ := hide hq
  have HPF := hide hpf
  have hLL1 := HL1.out.kept ((hM2.trans hM3).trans hm4)
  have HLL := hide hLL1
  clear HRP hre hrn hO3 hn hmap hr ha hma hnn hM1 hM2 hM3 hm4 hM2t hM3t hw4 hq hpf HL1 hLL1
  go_upto_region 3 with ((with_reducible refine at_slot 4 ?_); refine wpList_declare rfl rfl 31 4 (.tmp 16) rfl rfl rfl zeroNode (nodeC n vm (.slice An 0 cn) vl) zeroNodeV HI.out (nodeC_size _ _ _ _) HO1.out (by simp) rfl ?_; go_frame; rw [← HW4.out, ← HQ.out])
  have c1_ : w4.cell? ⟨q, 1, none⟩ = some (.int .i64 1) := by rw [← n1]; exact b4.cell 1
  have c3_ : w4.cell? ⟨q, 3, none⟩ = some (.int .i64 z) := by rw [← n3]; exact b4.cell 3
  have c4_ : w4.cell? ⟨q, 4, none⟩ = some vm := b4.cell 4
  have c5_ : w4.cell? ⟨q, 5, none⟩ = some (.slice An 0 cn) := b4.cell 5
  have c9_ : w4.cell? ⟨q, 9, none⟩ = some (.int .i64 L.length) := by rw [← n9]; exact b4.cell 9
  have hln : ∀ w A (n c : Nat), (Builtin.len_ #[22] 3 #[.slice A n c]).run Tryd.prog w = .ok (.int .i64 n) w := fun w A n c => by simp [Builtin.len_, run_underlying Tryd.underlying22]; rfl
  have hld : ∀ w A (n c : Nat), (Builtin.len_ #[28] 3 #[.slice A n c]).run Tryd.prog w = .ok (.int .i64 n) w := fun w A n c => by simp [Builtin.len_, run_underlying Tryd.underlying28]; rfl
  have hzs : L.length = 0 ∧ z = 0 ∨ 0 < L.length ∧ ∃ e : EntD, e.size = z ∧ L[L.length - 1]? = some e := by
    rw [HZ.out]
    by_cases h0 : L.length = 0
    · left; rw [List.length_eq_zero_iff.1 h0]; exact ⟨rfl, rfl⟩
    · right
      refine ⟨by omega, L[L.length - 1]'(by omega), ?_, List.getElem?_eq_getElem _⟩
      unfold lastSize
      rw [List.getLast?_eq_getElem?, List.getElem?_eq_getElem (by omega)]; rfl
  obtain ⟨_, _, hcv, hca, hcb, hcell⟩ := HLL.out
  simp only [Value.slice.injEq, true_and] at hcv
  obtain ⟨rfl, rfl⟩ := hcv
  have HLN := hide hln
  have hN : Hid (n.kind = 1 ∧ n.size = z ∧ n.entries = L.length) := hide ⟨n1, n3, n9⟩
  clear n1 n3 n9 hca hcb
  rcases hzs with ⟨h0, hz0⟩ | ⟨h0, e, hez, hel⟩
  · have h0i : decide (0 < L.length) = false := decide_eq_false (by omega)
    clear h0
    have c3_ : w4.cell? ⟨q, 3, none⟩ = some (.int .i64 0) := by rw [← hz0]; exact c3_
    go_upto_region 8 with fail
    clear hcell
    go_wp2_with fail
    refine Calls.mono (longest_any w4 vm n.map HMA.out HR.out HA.out) ?_
    rintro x w5 ⟨rfl, hm5⟩
    have b5 := b4.mod hm5 id
    have HM4 := hide hM4
    clear c1_ c3_ c4_ c5_ c9_ b4 hM4
    go_wp2_with fail
    go_loopw [7] (fun s7 wr => ∃ k : Nat, k ≤ 512 ∧ s7 = .int .i64 k ∧ Blk wr q 31 (nodeC n vm (.slice An 0 cn) vl) ∧ Mod None_ w4 wr) (fun s7 _ => 512 - (intOf s7).toNat)
    case atStart => exact ⟨0, Nat.zero_le _, rfl, b5, hm5⟩
    clear b5 hm5
    obtain ⟨k, hk, rfl, br, hMr⟩ := hrel
    by_cases hkl : k < 512
    · have hki : (k : Int) < 512 := by omega
      have c4_ : wr.cell? ⟨q, 4, none⟩ = some vm := br.cell 4
      go_wp2_with fail
      refine Calls.mono (mapped_any wr vm n.map (HMA.out.kept hMr) HR.out k (by omega) (by omega)) ?_
      rintro x w6 ⟨rfl, hm6⟩
      rw [HMG.out k hkl]
      have b6 := br.mod hm6 id
      have hM6 := hMr.trans hm6
      have HFX := hide (HAT.out k)
      obtain ⟨p, hp⟩ : ∃ p, p = f k := ⟨_, rfl⟩
      rw [← hp] at HFX ⊢
      clear br hMr hm6 hp c4_
      go_wp2_with fail
      refine Calls.mono (at_any w6 _ L (HLL.out.kept hM6) HFI.out k (by omega) (by omega)) ?_
      rintro x w7 ⟨rfl, hm7⟩
      rw [← HFX.out]
      have b7 := b6.mod hm7 id
      have hM7 := hM6.trans hm7
      clear b6 hM6 hm7
      go_wp2_with fail
      go_roundw
      case rel => exact ⟨k + 1, by omega, by simp, b7, hM7⟩
      case measure => simp [intOf]; omega
    · obtain rfl : k = 512 := by omega
      have HF := hide (HM4.out.trans hMr)
      clear br hMr
      go_wp2
      go_ret
      exact ⟨rfl, HF.out⟩
  · have h0i : decide (0 < L.length) = true := decide_eq_true (by omega)
    obtain ⟨g, o, rfl, hg, hc⟩ := hcell h0
    obtain ⟨hlt, hee⟩ := List.getElem?_eq_some_iff.1 hel
    have x5 : w4.cell? ⟨g, o + (L.length - 1) * 8 + 5, none⟩ = some (.int .i64 z) := by
      have := hc _ hlt 5 (.int .i64 z) (by rw [hee, ← hez]; rfl)
      exact this
    go_upto_region 8 with fail
    clear x5 hee hc
    clear hcell
    go_wp2_with fail
    refine Calls.mono (longest_any w4 vm n.map HMA.out HR.out HA.out) ?_
    rintro x w5 ⟨rfl, hm5⟩
    have b5 := b4.mod hm5 id
    have HM4 := hide hM4
    clear c1_ c3_ c4_ c5_ c9_ b4 hM4
    go_wp2_with fail
    go_loopw [7] (fun s7 wr => ∃ k : Nat, k ≤ 512 ∧ s7 = .int .i64 k ∧ Blk wr q 31 (nodeC n vm (.slice An 0 cn) vl) ∧ Mod None_ w4 wr) (fun s7 _ => 512 - (intOf s7).toNat)
    case atStart => exact ⟨0, Nat.zero_le _, rfl, b5, hm5⟩
    clear b5 hm5
    obtain ⟨k, hk, rfl, br, hMr⟩ := hrel
    by_cases hkl : k < 512
    · have hki : (k : Int) < 512 := by omega
      have c4_ : wr.cell? ⟨q, 4, none⟩ = some vm := br.cell 4
      go_wp2_with fail
      refine Calls.mono (mapped_any wr vm n.map (HMA.out.kept hMr) HR.out k (by omega) (by omega)) ?_
      rintro x w6 ⟨rfl, hm6⟩
      rw [HMG.out k hkl]
      have b6 := br.mod hm6 id
      have hM6 := hMr.trans hm6
      have HFX := hide (HAT.out k)
      obtain ⟨p, hp⟩ : ∃ p, p = f k := ⟨_, rfl⟩
      rw [← hp] at HFX ⊢
      clear br hMr hm6 hp c4_
      go_wp2_with fail
      refine Calls.mono (at_any w6 _ L (HLL.out.kept hM6) HFI.out k (by omega) (by omega)) ?_
      rintro x w7 ⟨rfl, hm7⟩
      rw [← HFX.out]
      have b7 := b6.mod hm7 id
      have hM7 := hM6.trans hm7
      clear b6 hM6 hm7
      go_wp2_with fail
      go_roundw
      case rel => exact ⟨k + 1, by omega, by simp, b7, hM7⟩
      case measure => simp [intOf]; omega
    · obtain rfl : k = 512 := by omega
      have HF := hide (HM4.out.trans hMr)
      clear br hMr
      go_wp2
      go_ret
      exact ⟨rfl, HF.out⟩
end Go.Proofs.YtabebkffcmajkaaDoor

/-! Law walk: InodeCuts. (Printed by mk_LC1.py.) -/
namespace Go.Proofs.YtabebkffcmajkaaDoor
open Go.RowKit Go.Maps Go.Shelf
attribute [local go_sem] quietV loudUpon Oper.semAt_some

theorem node_in {D : SenseD} {j : Nat} (hw : WfD D) {b : Nat} {w : World} {vm vn vl : Value} (h : NodeOwn b w (nodeOf D j) vm vn vl) : NodeIn w (nodeOf D j) vm vn vl :=
  ⟨list_of_ownRow (enc := encRun) (fun _ => rfl) h.map, list_of_ownRow (enc := encDent) (fun _ => rfl) h.names, list_of_ownRow (enc := encInt) (fun _ => rfl) h.log, node_ok hw, (node_i64 hw).1, (node_i64 hw).2⟩
theorem nodeIn_one {w : World} {n : NodeD} {vm vn vl : Value} (h : NodeIn w n vm vn vl) : (nodeC n vm vn vl).all (·.oneCell') = true := by
  obtain ⟨_, _, rfl, _⟩ := h.map
  obtain ⟨_, _, rfl, _⟩ := h.names
  obtain ⟨_, _, rfl, _⟩ := h.log
  exact nodeC_one _ _ _ _ rfl rfl rfl

set_option maxRecDepth 100000 in
set_option maxHeartbeats 8000000 in
theorem lawCuts (w : World) (v : Value) (l : List SeedD) (a b : Int) (hs : Steps w) (h : ListAt encSeed 6 w v l) (hO : ∀ x ∈ l, x.Ok) (ha : I64 a) (hb : I64 b) : Calls Tryd.prog 8 #[v, .int .i64 a, .int .i64 b] w (BoolPost w true) := by
  have hv1 : v.oneCell' = true := by obtain ⟨A, c, rfl, _⟩ := h; rfl
  have HW := hide (written_any w v l h hO)
  have HS := hide hs
  clear h hO hs
  go_enter Tryd.func8, Tryd.ntmps8
  go_wp2_with fail
  refine Calls.mono (HW.out) ?_
  rintro x w1 ⟨v1, rfl, hown1, hM⟩
  replace HS := hide (HS.out.kept hM)
  obtain ⟨z, f, hz, hre, hrn, hpf, hzz, hfit, hat⟩ := file_replay l
  have hlen := writtenL_length l
  obtain ⟨E, hE⟩ : ∃ E, E = writtenL l := ⟨_, rfl⟩
  rw [← hE] at hown1 hre hrn hlen
  have hG : GoodFile z f := ⟨⟨hzz, hpf⟩, hfit⟩
  have hl60 : E.length ≤ 60 := by omega
  obtain ⟨A1, c1, rfl⟩ := own_slice hown1
  have hl1 := list_of_ownRow (enc := encEntry) (fun _ => rfl) hown1
  have HG := hide hG
  clear HW hE hown1 hlen hz hat hpf hzz hfit hG
  go_wp2_with fail
  refine Calls.mono (copyEntries_any w1 _ E hl1 (by omega)) ?_
  rintro x w2 ⟨v2, rfl, hown2, hm2⟩
  have hl2 := list_of_ownRow (enc := encEntry) (fun _ => rfl) hown2
  clear hown2 hl1
  replace HS := hide (HS.out.kept hm2)
  replace hM := hM.trans hm2
  clear hm2
  go_wp2_with fail
  refine Calls.mono (replay_any w2 1 v2 E HS.out hl2 (by omega)) ?_
  rintro x w3 ⟨vm, vn, vl, rfl, hO3, hm3⟩
  rw [hre, hrn]
  rw [hrn] at hO3
  have HN := hide (node_in HG.out.wf hO3)
  clear hO3 hre hrn hl2
  replace HS := hide (HS.out.kept hm3)
  replace hM := hM.trans hm3
  clear hm3
  have HI1 := hide (infoNode (nodeOf (.file z f) E.length) vm vn vl)
  have HO1 := hide (nodeIn_one HN.out)
  obtain ⟨j, hj⟩ : ∃ j, j = E.length := ⟨_, rfl⟩
  rw [← hj] at HN HI1 HO1 hl60 ⊢
  obtain ⟨n, hn⟩ : ∃ n, n = nodeOf (.file z f) j := ⟨_, rfl⟩
  rw [← hn] at HN HI1 HO1 ⊢
  have HNE := hide hn
  have HJ := hide hj
  clear hn hj
  obtain ⟨q1_, hq⟩ : ∃ q, q = w3.heap.size := ⟨_, rfl⟩
  obtain ⟨w4, hw⟩ : ∃ y, y = w3.alloc (.cells (nodeC n vm vn vl) 31) := ⟨_, rfl⟩
  have hm5_ : Mod None_ w3 w4 := by rw [hw]; exact (Mod.refl _ w3).alloc _
  have b2_ := hide (show Blk w4 q1_ 31 (nodeC n vm vn vl) by rw [hw, hq]; exact Blk.new w3 _ _)
  have HW3_ := hide hw
  have HQ4_ := hide hq
  clear hw hq
  replace HS := hide (HS.out.kept hm5_)
  replace hM := hM.trans hm5_
  replace HN := hide (HN.out.kept hm5_)
  clear hm5_
  go_upto_region 3 with ((with_reducible refine at_slot 8 ?_); refine wpList_declare rfl rfl 31 8 (.tmp 26) rfl rfl rfl zeroNode (nodeC n vm vn vl) zeroNodeV HI1.out (nodeC_size _ _ _ _) HO1.out (by simp) rfl ?_; go_frame; rw [← HW3_.out, ← HQ4_.out])
  clear HW3_ HQ4_
  go_wp2_with fail
  refine Calls.mono (mod_any a 262145 w4 ha (by omega) (by omega)) ?_
  rintro x wx ⟨rfl, rfl⟩
  have hs1 : 0 ≤ a % 262145 ∧ a % 262145 ≤ 262144 := by omega
  obtain ⟨s, hse⟩ : ∃ s, s = a % 262145 := ⟨_, rfl⟩
  rw [← hse] at hs1 ⊢
  clear hse
  have HS1 := hide hs1
  obtain ⟨hs0, hs2⟩ := hs1
  have ews : IntKind.i64.wrap (262145 - s) = 262145 - s := IntWalk.i64_in _ (by omega)
  go_wp2_with fail
  refine Calls.mono (mod_any b (262145 - s) w4 hb (by omega) (by omega)) ?_
  rintro x wx ⟨rfl, rfl⟩
  have ht1 := Int.emod_nonneg b (b := 262145 - s) (by omega)
  have ht2 := Int.emod_lt_of_pos b (b := 262145 - s) (by omega)
  obtain ⟨u, hu⟩ : ∃ u, u = b % (262145 - s) := ⟨_, rfl⟩
  rw [← hu] at ht1 ht2 ⊢
  clear hu
  have ewt : IntKind.i64.wrap (s + u) = s + u := IntWalk.i64_in _ (by omega)
  have HT1 : Hid (s ≤ s + u ∧ s + u ≤ 262144) := hide (by omega)
  obtain ⟨t, hte⟩ : ∃ t, t = s + u := ⟨_, rfl⟩
  go_upto_region 5 with fail
  rw [← hte] at HT1 ⊢
  clear hte ewt ht1 ht2 ews
  have HTT : Hid (0 ≤ t ∧ t ≤ 262144) := hide (by have := HT1.out; omega)
  have HG1 := hide (HG.out.cutG (q := 0) HS1.out)
  have HG2 := hide (HG1.out.cutG (q := 0) HTT.out)
  go_wp2_with ((with_reducible refine at_slot 37 ?_); refine wpList_val rfl (ex_load rfl (run_loadRow b2_.out Tryd.underlying31 rfl HI1.out)) ?_; go_frame)
  refine Calls.mono (lawCopy w4 _ _ _ _ HN.out (by rw [HNE.out]; exact node_small (Nat.zero_le _))) ?_
  rintro x w5 ⟨uma, una, ula, rfl, hO, hm⟩
  have hNc := hO.in_ HN.out
  clear hO
  replace HS := hide (HS.out.kept hm)
  replace hM := hM.trans hm
  replace HN := hide (HN.out.kept hm)
  replace b2_ := hide (b2_.out.mod hm id)
  clear hm
  go_wp2_with fail
  refine Calls.mono (apply_any w5 n uma una ula (sizeE s 0) HS.out (hNc.at_ (by rw [HNE.out]; exact node_small (Nat.zero_le _))) (by rw [HNE.out]; exact Nat.zero_le _)) ?_
  rintro x w6 ⟨vma, vna, vla, rfl, hO, hm⟩
  have hap := HG.out.cut (q := 0) HS1.out (j := j) (by omega)
  rw [← HNE.out] at hap
  rw [hap.1, hap.2]
  rw [hap.2] at hO
  have HNa := hide (node_in HG1.out.wf hO)
  clear hO hap hNc
  replace HS := hide (HS.out.kept hm)
  replace hM := hM.trans hm
  replace HN := hide (HN.out.kept hm)
  replace b2_ := hide (b2_.out.mod hm id)
  clear hm
  have HIa := hide (infoNode (nodeOf (.file s (nextF (sizeE s 0) f)) (j + 1)) vma vna vla)
  have HOa := hide (nodeIn_one HNa.out)
  obtain ⟨na, hn⟩ : ∃ n, n = (nodeOf (.file s (nextF (sizeE s 0) f)) (j + 1)) := ⟨_, rfl⟩
  rw [← hn] at HNa HIa HOa ⊢
  have HNEa := hide hn
  clear hn
  obtain ⟨q6_, hq⟩ : ∃ q, q = w6.heap.size := ⟨_, rfl⟩
  obtain ⟨w7, hw⟩ : ∃ y, y = w6.alloc (.cells (nodeC na vma vna vla) 31) := ⟨_, rfl⟩
  have hm10_ : Mod None_ w6 w7 := by rw [hw]; exact (Mod.refl _ w6).alloc _
  have b7_ := hide (show Blk w7 q6_ 31 (nodeC na vma vna vla) by rw [hw, hq]; exact Blk.new w6 _ _)
  have HW8_ := hide hw
  have HQ9_ := hide hq
  clear hw hq
  replace HS := hide (HS.out.kept hm10_)
  replace hM := hM.trans hm10_
  replace HN := hide (HN.out.kept hm10_)
  replace b2_ := hide (b2_.out.mod hm10_ id)
  replace HNa := hide (HNa.out.kept hm10_)
  clear hm10_
  go_upto_region 6 with ((with_reducible refine at_slot 10 ?_); refine wpList_declare rfl rfl 31 10 (.tmp 42) rfl rfl rfl zeroNode (nodeC na vma vna vla) zeroNodeV HIa.out (nodeC_size _ _ _ _) HOa.out (by simp) rfl ?_; go_frame; rw [← HW8_.out, ← HQ9_.out])
  clear HW8_ HQ9_
  go_wp2_with ((with_reducible refine at_slot 45 ?_); refine wpList_val rfl (ex_load rfl (run_loadRow b7_.out Tryd.underlying31 rfl HIa.out)) ?_; go_frame)
  refine Calls.mono (lawCopy w7 _ _ _ _ HNa.out (by rw [HNEa.out]; exact node_small (Nat.zero_le _))) ?_
  rintro x w8 ⟨umb, unb, ulb, rfl, hO, hm⟩
  have hNc := hO.in_ HNa.out
  clear hO
  replace HS := hide (HS.out.kept hm)
  replace hM := hM.trans hm
  replace HN := hide (HN.out.kept hm)
  replace b2_ := hide (b2_.out.mod hm id)
  replace HNa := hide (HNa.out.kept hm)
  replace b7_ := hide (b7_.out.mod hm id)
  clear hm
  go_wp2_with fail
  refine Calls.mono (apply_any w8 na umb unb ulb (sizeE t 0) HS.out (hNc.at_ (by rw [HNEa.out]; exact node_small (Nat.zero_le _))) (by rw [HNEa.out]; exact Nat.zero_le _)) ?_
  rintro x w9 ⟨vmb, vnb, vlb, rfl, hO, hm⟩
  have hap := HG1.out.cut (q := 0) HTT.out (j := j + 1) (by omega)
  rw [← HNEa.out] at hap
  rw [hap.1, hap.2]
  rw [hap.2] at hO
  have HNb := hide (node_in HG2.out.wf hO)
  clear hO hap hNc
  replace HS := hide (HS.out.kept hm)
  replace hM := hM.trans hm
  replace HN := hide (HN.out.kept hm)
  replace b2_ := hide (b2_.out.mod hm id)
  replace HNa := hide (HNa.out.kept hm)
  replace b7_ := hide (b7_.out.mod hm id)
  clear hm
  have HIb := hide (infoNode (nodeOf (.file t (nextF (sizeE t 0) (nextF (sizeE s 0) f))) (j + 1 + 1)) vmb vnb vlb)
  have HOb := hide (nodeIn_one HNb.out)
  obtain ⟨nb, hn⟩ : ∃ n, n = (nodeOf (.file t (nextF (sizeE t 0) (nextF (sizeE s 0) f))) (j + 1 + 1)) := ⟨_, rfl⟩
  rw [← hn] at HNb HIb HOb ⊢
  have HNEb := hide hn
  clear hn
  obtain ⟨q11_, hq⟩ : ∃ q, q = w9.heap.size := ⟨_, rfl⟩
  obtain ⟨w10, hw⟩ : ∃ y, y = w9.alloc (.cells (nodeC nb vmb vnb vlb) 31) := ⟨_, rfl⟩
  have hm15_ : Mod None_ w9 w10 := by rw [hw]; exact (Mod.refl _ w9).alloc _
  have b12_ := hide (show Blk w10 q11_ 31 (nodeC nb vmb vnb vlb) by rw [hw, hq]; exact Blk.new w9 _ _)
  have HW13_ := hide hw
  have HQ14_ := hide hq
  clear hw hq
  replace HS := hide (HS.out.kept hm15_)
  replace hM := hM.trans hm15_
  replace HN := hide (HN.out.kept hm15_)
  replace b2_ := hide (b2_.out.mod hm15_ id)
  replace HNa := hide (HNa.out.kept hm15_)
  replace b7_ := hide (b7_.out.mod hm15_ id)
  replace HNb := hide (HNb.out.kept hm15_)
  clear hm15_
  go_upto_region 7 with ((with_reducible refine at_slot 12 ?_); refine wpList_declare rfl rfl 31 12 (.tmp 50) rfl rfl rfl zeroNode (nodeC nb vmb vnb vlb) zeroNodeV HIb.out (nodeC_size _ _ _ _) HOb.out (by simp) rfl ?_; go_frame; rw [← HW13_.out, ← HQ14_.out])
  clear HW13_ HQ14_
  have na3 : na.size = s := by rw [HNEa.out]; rfl
  have nb3 : nb.size = t := by rw [HNEb.out]; rfl
  have a3_ : w10.cell? ⟨q6_, 3, none⟩ = some (.int .i64 s) := by rw [← na3]; exact b7_.out.cell 3
  have a4_ : w10.cell? ⟨q6_, 4, none⟩ = some vma := b7_.out.cell 4
  have b3_ : w10.cell? ⟨q11_, 3, none⟩ = some (.int .i64 t) := by rw [← nb3]; exact b12_.out.cell 3
  have b4_ : w10.cell? ⟨q11_, 4, none⟩ = some vmb := b12_.out.cell 4
  have HF2 : Hid (∀ x : Nat, nextF (sizeE t 0) (nextF (sizeE s 0) f) x = nextF (sizeE s 0) f x) := hide (cuts_same HS1.out HT1.out f)
  have hmm : na.map = nb.map := by rw [HNEa.out, HNEb.out]; exact node_map_congr fun x => (HF2.out x).symm
  go_wp2_with fail
  have HSR := hide (lawSameRuns w10 vma vmb _ _ HNa.out.map HNb.out.map)
  rw [decide_eq_true hmm] at HSR
  clear na3 nb3 a3_ a4_ b3_ b4_
  refine Calls.mono (HSR.out) ?_
  rintro x w11 ⟨rfl, hm⟩
  clear HSR hmm
  replace HS := hide (HS.out.kept hm)
  replace hM := hM.trans hm
  replace HN := hide (HN.out.kept hm)
  replace b2_ := hide (b2_.out.mod hm id)
  replace HNa := hide (HNa.out.kept hm)
  replace b7_ := hide (b7_.out.mod hm id)
  replace HNb := hide (HNb.out.kept hm)
  replace b12_ := hide (b12_.out.mod hm id)
  clear hm
  go_wp2_with fail
  have HGf : Hid (∀ x : Nat, nextF (sizeE s 0) f x = if endOf s ≤ x then 0 else f x) := hide (sizeE_at HS1.out f)
  obtain ⟨f2, hf2⟩ : ∃ f2, f2 = nextF (sizeE t 0) (nextF (sizeE s 0) f) := ⟨_, rfl⟩
  rw [← hf2] at HF2 HG2
  have HNb2 : Hid (nb = nodeOf (.file t f2) (j + 1 + 1)) := hide (by rw [hf2]; exact HNEb.out)
  have hr1 : ∀ r ∈ n.map, refRun r = true := by rw [HNE.out]; exact file_runs HG.out.page
  have hr2 : ∀ r ∈ nb.map, refRun r = true := by rw [HNb2.out]; exact file_runs HG2.out.page
  have hma1 : ∀ x : Nat, x < 512 → mapGo n.map x 0 = (f x, true) := by rw [HNE.out]; exact fun x hx => map_at HG.out.page hx
  have hma2 : ∀ x : Nat, x < 512 → mapGo nb.map x 0 = (f2 x, true) := by rw [HNb2.out]; exact fun x hx => map_at HG2.out.page hx
  have HR1 := hide hr1
  have HR2 := hide hr2
  have HX1 := hide hma1
  have HX2 := hide hma2
  have HFS : Hid (∀ x : Nat, f2 x = if endOf s ≤ x then 0 else f x) := hide fun x => by rw [HF2.out x, HGf.out x]
  have HPG := hide HG2.out.page
  clear hr1 hr2 hma1 hma2 hf2 HF2 HGf HNEb HG1 HTT HT1 HNEa HNE
  obtain ⟨bl, hbl⟩ : ∃ bl, bl = w11.heap.size := ⟨_, rfl⟩
  have HBL := hide hbl
  clear hbl
  have HMZ := hide hM
  clear hM
  go_loopw [15, 14] (fun s15 s14 wr => ∃ (k : Nat) (v14 : Value), v14 = s14 ∧ k ≤ 512 ∧ s15 = .int .i64 k ∧ wr.ownsRow bl 3 1 v14 (pagesTo f2 k).length (rowOf encInt (pagesTo f2 k)) ∧ Blk wr q1_ 31 (nodeC n vm vn vl) ∧ Blk wr q11_ 31 (nodeC nb vmb vnb vlb) ∧ Mod None_ w11 wr) (fun s15 _ _ => 512 - (intOf s15).toNat)
  case atStart => exact ⟨0, _, rfl, Nat.zero_le _, rfl, ⟨rfl, .inl ⟨rfl, rfl⟩⟩, b2_.out, b12_.out, Mod.refl _ _⟩
  obtain ⟨k, v14, rfl, hk, rfl, hown, bn, bb, hMr⟩ := hrel
  by_cases hkl : k < 512
  · have hki : (k : Int) < 512 := by omega
    have x4_ : wr.cell? ⟨q1_, 4, none⟩ = some vm := bn.cell 4
    have y4_ : wr.cell? ⟨q11_, 4, none⟩ = some vmb := bb.cell 4
    go_wp2_with fail
    refine Calls.mono (mapped_any wr vm n.map (HN.out.map.kept hMr) HR1.out k (by omega) (by omega)) ?_
    rintro x wa ⟨rfl, hma⟩
    rw [HX1.out k hkl]
    replace bn := bn.mod hma id
    replace bb := bb.mod hma id
    replace hMr := hMr.trans hma
    replace hown := own_mod hown hma (fun _ _ f => f)
    have y4_ : wa.cell? ⟨q11_, 4, none⟩ = some vmb := bb.cell 4
    clear hma x4_
    have HFX := hide (HFS.out k)
    have HPY : Hid (f2 k ≠ 0 → pagesTo f2 (k + 1) = pagesTo f2 k ++ [f2 k]) := hide pagesTo_yes
    have HPN : Hid (f2 k = 0 → pagesTo f2 (k + 1) = pagesTo f2 k) := hide pagesTo_no
    have hPL := pagesTo_length f2 k
    have hpv := HPG.out k
    have HX2k := hide (HX2.out k hkl)
    obtain ⟨P, hP⟩ : ∃ P, P = pagesTo f2 k := ⟨_, rfl⟩
    rw [← hP] at HPY HPN hown hPL
    clear hP
    obtain ⟨y, hy⟩ : ∃ y, y = f2 k := ⟨_, rfl⟩
    obtain ⟨y0, hy0⟩ : ∃ y, y = f k := ⟨_, rfl⟩
    rw [← hy] at HFX HPY HPN HX2k hpv
    rw [← hy0] at HFX ⊢
    clear hy hy0
    go_wp2_with fail
    refine Calls.mono (mapped_any wa vmb nb.map (HNb.out.map.kept hMr) HR2.out k (by omega) (by omega)) ?_
    rintro x wb ⟨rfl, hma⟩
    rw [HX2k.out]
    replace bn := bn.mod hma id
    replace bb := bb.mod hma id
    replace hMr := hMr.trans hma
    replace hown := own_mod hown hma (fun _ _ f => f)
    clear hma y4_
    go_wp2_with fail
    refine Calls.mono (ends_any s wb hs0 hs2) ?_
    rintro x wx ⟨rfl, rfl⟩
    obtain ⟨en, hen⟩ : ∃ en, en = (s + 511) / 512 := ⟨_, rfl⟩
    have hFY : (en ≤ k ∧ y = 0) ∨ ((k : Int) < en ∧ y = y0) := by
      have h0 := HFX.out
      unfold endOf at h0
      rw [← hen] at h0
      by_cases hc : en ≤ (k : Int)
      · rw [if_pos hc] at h0; exact .inl ⟨hc, h0⟩
      · rw [if_neg hc] at h0; exact .inr ⟨by omega, h0⟩
    rw [← hen]
    clear hen HFX
    have hbz : bl ≤ wb.heap.size := by have := hMr.size; have := HBL.out; omega
    rcases hFY with ⟨hc, hyy⟩ | ⟨hc, hyy⟩
    · subst hyy
      have hnc : ¬ (k : Int) < en := by omega
      have HT := hide (HPN.out rfl)
      clear HPY HPN hpv hc
      go_wp2_with fail
      go_roundw
      case rel => exact ⟨k + 1, _, rfl, by omega, by simp, by rw [HT.out]; exact hown, bn, bb, hMr⟩
      case measure => simp [intOf]; omega
    · subst hyy
      by_cases hy0 : y = 0
      · subst hy0
        have HT := hide (HPN.out rfl)
        clear HPY HPN hpv
        go_wp2_with fail
        go_roundw
        case rel => exact ⟨k + 1, _, rfl, by omega, by simp, by rw [HT.out]; exact hown, bn, bb, hMr⟩
        case measure => simp [intOf]; omega
      · have HT := hide (HPY.out hy0)
        have hyp : 0 < y := by omega
        clear HPY HPN hpv hy0
        go_wp2_with ((with_reducible refine at_slot 120 ?_); refine wpList_append_row encInt 29 3 (.int .i64 0) 1 8 Tryd.underlying29 infoInt rfl (by decide) (fun _ => rfl) oneInt rfl (.tmp 117) (.tmp 119) rfl wb bl v14 P y rfl rfl wb.heap.size rfl rfl hown hbz (by unfold maxLen; omega) (by omega) ?_; intro v8 w8 hown8 hm8 hat8; have hM8 := hMr.trans' hm8 (fun g hg e => by have := (own_blk hown e.symm).1; have := HBL.out; omega); have L1 := hide hown8; have L2 := hide hM8; have L3 := hide (bn.mod hm8 (fun e => (own_ne hown bn (by decide) e.symm) rfl)); have L4 := hide (bb.mod hm8 (fun e => (own_ne hown bb (by decide) e.symm) rfl)); clear hown8 hm8 hat8 hM8 hown hMr bn bb; go_frame)
        go_roundw
        case rel => exact ⟨k + 1, _, rfl, by omega, by simp, by rw [HT.out]; exact L1.out, L3.out, L4.out, L2.out⟩
        case measure => simp [intOf]; omega
  · obtain rfl : k = 512 := by omega
    have hpg := list_of_ownRow (enc := encInt) (fun _ => rfl) hown
    have bb2 := hide bb
    clear hkl hown bn bb
    go_wp2_with ((with_reducible refine at_slot 121 ?_); refine wpList_val rfl (ex_load rfl (run_loadRow bb2.out Tryd.underlying31 rfl HIb.out)) ?_; go_frame)
    refine Calls.mono (pages_any wr nb vmb vnb vlb ((HNb.out.kept hMr).at_ (by rw [HNb2.out]; exact node_small (Nat.zero_le _)))) ?_
    rintro x wa ⟨v9, rfl, hpl, hma⟩
    rw [HNb2.out, pages_file HG2.out] at hpl
    replace hMr := hMr.trans hma
    replace hpg := hpg.kept hma
    have hv9 : v9.oneCell' = true := by obtain ⟨A, c, rfl, _⟩ := hpl; rfl
    clear hma bb2
    go_wp2_with fail
    refine Calls.mono (lawSameNumbers wa v9 v14 _ _ hpl hpg) ?_
    rintro x wb ⟨hx, hma⟩
    rw [decide_eq_true rfl] at hx
    subst hx
    have HF := hide (HMZ.out.trans (hMr.trans hma))
    clear hMr hma hpl hpg
    go_wp2
    go_ret
    exact ⟨rfl, HF.out⟩
end Go.Proofs.YtabebkffcmajkaaDoor

/-! Law walk: InodeDirectories. (Printed by mk_LD1.py.) -/
namespace Go.Proofs.YtabebkffcmajkaaDoor
open Go.RowKit Go.Maps Go.Shelf
attribute [local go_sem] quietV loudUpon Oper.semAt_some

/-- what the last part is after -/
def AfterApply (w0 wx : World) (n2 : NodeD) (er : Int) (s13 s14 : Value) : Prop := ∃ q vm vn vl, s13 = .pointer (some ⟨q, 0, none⟩) ∧ s14 = .int .i64 er ∧ Blk wx q 31 (nodeC n2 vm vn vl) ∧ NodeOwn 0 wx n2 vm vn vl ∧ Mod None_ w0 wx
theorem in_zero {w : World} {vm vn vl : Value} (h : NodeOwn 0 w zeroN vm vn vl) : NodeIn w zeroN vm vn vl :=
  ⟨list_of_ownRow (enc := encRun) (fun _ => rfl) h.map, list_of_ownRow (enc := encDent) (fun _ => rfl) h.names, list_of_ownRow (enc := encInt) (fun _ => rfl) h.log, (fun r hr => by cases hr), ⟨by decide, by decide⟩, ⟨by decide, by decide⟩⟩
theorem own_0 {b : Nat} {w : World} {n : NodeD} {vm vn vl : Value} (h : NodeOwn b w n vm vn vl) : NodeOwn 0 w n vm vn vl := ⟨own_base h.map (Nat.zero_le _), own_base h.names (Nat.zero_le _), own_base h.log (Nat.zero_le _)⟩
theorem nodeOwn_one {b : Nat} {w : World} {n : NodeD} {vm vn vl : Value} (h : NodeOwn b w n vm vn vl) : (nodeC n vm vn vl).all (·.oneCell') = true := by
  obtain ⟨_, _, rfl, _⟩ := list_of_ownRow (enc := encRun) (fun _ => rfl) h.map
  obtain ⟨_, _, rfl, _⟩ := list_of_ownRow (enc := encDent) (fun _ => rfl) h.names
  obtain ⟨_, _, rfl, _⟩ := list_of_ownRow (enc := encInt) (fun _ => rfl) h.log
  exact nodeC_one _ _ _ _ rfl rfl rfl
theorem NodeOwn.store {b : Nat} {w : World} {n : NodeD} {vm vn vl : Value} (h : NodeOwn b w n vm vn vl) {q : Nat} {cs cs' : Array Value} (hq : Blk w q 31 cs) : NodeOwn b (w.setRow q cs') n vm vn vl := by
  have hm : Mod (· = q) w (w.setRow q cs') := (Mod.refl (· = q) w).setRow (.inr rfl) _
  exact ⟨own_mod h.map hm (fun g hg e => own_ne h.map hq (by decide) hg e.symm), own_mod h.names hm (fun g hg e => own_ne h.names hq (by decide) hg e.symm), own_mod h.log hm (fun g hg e => own_ne h.log hq (by decide) hg e.symm)⟩
/-- the order of: load the node, copy it, load the entry, Apply, take its answers apart, a new variable, store, assign; the new variable comes when it likes -/
def sigApply : Sch := .q 0 (.q 2 (.two 1 (.two 3 (.q 4 (.q 5 (.q 6 (.l 7 (.l 8 (.q 9 .nil)))))) 7 (.l 3 (.q 4 (.q 5 (.q 6 (.l 8 (.q 9 .nil))))))) 7 (.l 1 (.l 3 (.q 4 (.q 5 (.q 6 (.l 8 (.q 9 .nil)))))))))

set_option maxRecDepth 100000 in
set_option maxHeartbeats 8000000 in
theorem lawDirectories (w : World) (v : Value) (l : List SeedD) (s : ByteArray) (hs : Steps w) (h : ListAt encSeed 6 w v l) (hO : ∀ x ∈ l, x.Ok) (hsz : s.size ≤ 9223372036854775807) : Calls Tryd.prog 6 #[v, .string s] w (BoolPost w true) := by
  have hv1 : v.oneCell' = true := by obtain ⟨A, c, rfl, _⟩ := h; rfl
  have HW := hide (named_any w v l h hO)
  have HS := hide hs
  clear h hO hs
  go_enter Tryd.func6, Tryd.ntmps6
  go_wp2_with fail
  refine Calls.mono (HW.out) ?_
  rintro x w1 ⟨v1, rfl, hown1, hM⟩
  replace HS := hide (HS.out.kept hM)
  obtain ⟨R, nm, hD, hre, hrn, hwf⟩ := dir_replay l
  have hlen := namedL_length l
  have hen := named_dir l
  obtain ⟨E, hE⟩ : ∃ E, E = namedL l := ⟨_, rfl⟩
  rw [← hE] at hown1 hre hrn hlen hD hen
  have hl60 : E.length ≤ 60 := by omega
  have hnl : nm.length ≤ 60 := by have := hD.len; omega
  obtain ⟨A1, c1, rfl⟩ := own_slice hown1
  have hl1 := list_of_ownRow (enc := encEntry) (fun _ => rfl) hown1
  have HD := hide hD
  have HWF := hide hwf
  have HL1 := hide hl1
  have HEN := hide hen
  clear HW hE hown1 hlen hD hwf hl1 hen
  go_wp2_with fail
  refine Calls.mono (copyEntries_any w1 _ E HL1.out (by omega)) ?_
  rintro x w2 ⟨v2, rfl, hown2, hm2⟩
  have hl2 := list_of_ownRow (enc := encEntry) (fun _ => rfl) hown2
  clear hown2
  replace HS := hide (HS.out.kept hm2)
  replace hM := hM.trans hm2
  replace HL1 := hide (HL1.out.kept hm2)
  clear hm2
  go_wp2_with fail
  refine Calls.mono (replay_any w2 2 v2 E HS.out hl2 (by omega)) ?_
  rintro x w3 ⟨vm, vn, vl, rfl, hO3, hm3⟩
  rw [hre, hrn]
  rw [hrn] at hO3
  have HN := hide (node_in HWF.out hO3)
  clear hO3 hre hrn hl2
  replace HS := hide (HS.out.kept hm3)
  replace hM := hM.trans hm3
  replace HL1 := hide (HL1.out.kept hm3)
  clear hm3
  have HI1 := hide (infoNode (nodeOf (.dir R) E.length) vm vn vl)
  have HO1 := hide (nodeIn_one HN.out)
  obtain ⟨n, hn⟩ : ∃ n, n = nodeOf (.dir R) E.length := ⟨_, rfl⟩
  rw [← hn] at HN HI1 HO1 ⊢
  have n1 : n.kind = 2 := by rw [hn]; rfl
  have n3 : n.size = 0 := by rw [hn]; rfl
  have n9 : n.entries = E.length := by rw [hn]; rfl
  have n4 : n.map.length = 0 := by rw [hn]; rfl
  have n5 : n.names = nm := by rw [hn]; exact dir_names HD.out.is
  have hlm := HN.out.map
  have hln := HN.out.names
  obtain ⟨Am, cm, rfl, _, _, _⟩ := hlm
  obtain ⟨An, cn, rfl, hcn1, hcn2, _⟩ := hln
  have HNE := hide hn
  clear hn
  have hsn : (Value.slice Am n.map.length cm) = .slice Am 0 cm := by rw [n4]
  have hsn2 : (Value.slice An n.names.length cn) = .slice An nm.length cn := by rw [n5]
  rw [hsn, hsn2] at HN HI1 HO1 ⊢
  clear hsn hsn2
  obtain ⟨q1_, hq⟩ : ∃ q, q = w3.heap.size := ⟨_, rfl⟩
  obtain ⟨w4, hw⟩ : ∃ y, y = w3.alloc (.cells (nodeC n (.slice Am 0 cm) (.slice An nm.length cn) vl) 31) := ⟨_, rfl⟩
  have hm5_ : Mod None_ w3 w4 := by rw [hw]; exact (Mod.refl _ w3).alloc _
  have b2_ := hide (show Blk w4 q1_ 31 (nodeC n (.slice Am 0 cm) (.slice An nm.length cn) vl) by rw [hw, hq]; exact Blk.new w3 _ _)
  have HW3_ := hide hw
  have HQ4_ := hide hq
  clear hw hq
  replace HS := hide (HS.out.kept hm5_)
  replace hM := hM.trans hm5_
  replace HL1 := hide (HL1.out.kept hm5_)
  replace HN := hide (HN.out.kept hm5_)
  clear hm5_
  go_upto_region 3 with ((with_reducible refine at_slot 6 ?_); refine wpList_declare rfl rfl 31 6 (.tmp 21) rfl rfl rfl zeroNode (nodeC n (.slice Am 0 cm) (.slice An nm.length cn) vl) zeroNodeV HI1.out (nodeC_size _ _ _ _) HO1.out (by simp) rfl ?_; go_frame; rw [← HW3_.out, ← HQ4_.out])
  clear HW3_ HQ4_
  have c1_ : w4.cell? ⟨q1_, 1, none⟩ = some (.int .i64 2) := by rw [← n1]; exact b2_.out.cell 1
  have c3_ : w4.cell? ⟨q1_, 3, none⟩ = some (.int .i64 0) := by rw [← n3]; exact b2_.out.cell 3
  have c4_ : w4.cell? ⟨q1_, 4, none⟩ = some (.slice Am 0 cm) := b2_.out.cell 4
  have c9_ : w4.cell? ⟨q1_, 9, none⟩ = some (.int .i64 E.length) := by rw [← n9]; exact b2_.out.cell 9
  have hle : ∀ w A (n c : Nat), (Builtin.len_ #[22] 3 #[.slice A n c]).run Tryd.prog w = .ok (.int .i64 n) w := fun w A n c => by simp [Builtin.len_, run_underlying Tryd.underlying22]; rfl
  have hld : ∀ w A (n c : Nat), (Builtin.len_ #[28] 3 #[.slice A n c]).run Tryd.prog w = .ok (.int .i64 n) w := fun w A n c => by simp [Builtin.len_, run_underlying Tryd.underlying28]; rfl
  have hlr : ∀ w A (n c : Nat), (Builtin.len_ #[27] 3 #[.slice A n c]).run Tryd.prog w = .ok (.int .i64 n) w := fun w A n c => by simp [Builtin.len_, run_underlying Tryd.underlying27]; rfl
  have HN5 := hide n5
  have HX : Hid (n.map.length = 0 ∧ n.kind = 2) := hide ⟨n4, n1⟩
  clear n1 n3 n4 n5 n9
  have HMZ := hide hM
  clear hM
  have HCN := hide hcn1
  clear hcn1 hcn2
  go_wp2_with fail
  go_loopw [9, 8] (fun s9 s8 wr => ∃ k : Nat, k ≤ E.length ∧ s9 = .int .i64 k ∧ s8 = .int .i64 (thereL 0 (E.take k)) ∧ Mod None_ w4 wr) (fun s9 _ _ => E.length - (intOf s9).toNat)
  case atStart => exact ⟨0, Nat.zero_le _, rfl, rfl, Mod.refl _ _⟩
  obtain ⟨k, hk, rfl, rfl, hMr⟩ := hrel
  clear c1_ c3_ c4_ c9_
  by_cases hkl : k < E.length
  · have hki : (k : Int) < E.length := by omega
    obtain ⟨_, _, hcv, _, _, hcell⟩ := HL1.out.kept hMr
    simp only [Value.slice.injEq, true_and] at hcv
    obtain ⟨rfl, rfl⟩ := hcv
    obtain ⟨gb, o, rfl, hgb, hcell⟩ := hcell (by omega)
    have hc := hcell k hkl 0 _ rfl
    have htk := thereL_take hkl
    have htb := thereL_bound (E.take k) 0
    rw [List.length_take] at htb
    obtain ⟨e, he⟩ : ∃ e, e = E[k] := ⟨_, rfl⟩
    rw [← he] at hc htk
    obtain ⟨t, ht⟩ : ∃ t, t = thereL 0 (E.take k) := ⟨_, rfl⟩
    rw [← ht] at htk htb ⊢
    have HTK := hide htk
    have hc0 : wr.cell? ⟨gb, o + k * 8, none⟩ = some (.int .i64 e.kind) := hc
    have htb1 : -100 ≤ t ∧ t ≤ 100 := by omega
    obtain ⟨htb0, htb2⟩ := htb1
    clear hc hcell he ht htk htb hgb
    by_cases h3 : e.kind = 3
    · have k3 : (e.kind == 3) = true := by simp [h3]
      rw [if_pos h3] at HTK
      clear h3
      go_wp2_with fail
      go_roundw
      case rel => exact ⟨k + 1, by omega, by simp, by rw [HTK.out], hMr⟩
      case measure => simp [intOf]; omega
    · have k3 : (e.kind == 3) = false := by simp [h3]
      rw [if_neg h3] at HTK
      clear h3
      go_wp2_with fail
      go_roundw
      case rel => exact ⟨k + 1, by omega, by simp, by rw [HTK.out], hMr⟩
      case measure => simp [intOf]; omega
  obtain rfl : k = E.length := by omega
  have hth := HD.out.count
  rw [List.take_length, hth]
  clear hth hkl hk
  obtain ⟨w8, rfl⟩ : ∃ x, x = wr := ⟨_, rfl⟩
  have HMr := hide hMr
  replace HS := hide (HS.out.kept hMr)
  replace HL1 := hide (HL1.out.kept hMr)
  replace HN := hide (HN.out.kept hMr)
  replace b2_ := hide (b2_.out.mod hMr id)
  clear hMr
  have c5_ : w8.cell? ⟨q1_, 5, none⟩ = some (.slice An nm.length cn) := b2_.out.cell 5
  go_wp2_with fail
  go_loopw [10] (fun s10 wr => ∃ k : Nat, k ≤ nm.length ∧ s10 = .int .i64 k ∧ Mod None_ w8 wr) (fun s10 _ => nm.length - (intOf s10).toNat)
  case atStart => exact ⟨0, Nat.zero_le _, rfl, Mod.refl _ _⟩
  obtain ⟨k, hk, rfl, hMq⟩ := hrel
  clear c5_
  have bq := b2_.out.mod hMq id
  have c5_ : wr.cell? ⟨q1_, 5, none⟩ = some (.slice An nm.length cn) := bq.cell 5
  by_cases hkl : k < nm.length
  · have hki : (k : Int) < nm.length := by omega
    have hnl2 := (HN.out.kept hMq).names
    rw [HN5.out] at hnl2
    obtain ⟨_, _, hcv, _, _, hcell⟩ := hnl2
    simp only [Value.slice.injEq, true_and] at hcv
    obtain ⟨rfl, rfl⟩ := hcv
    obtain ⟨gb, o, rfl, hgb, hcell⟩ := hcell (by omega)
    have hx := hcell k hkl
    have hat := HD.out.at (List.getElem_mem hkl)
    have hris : ∀ h0 : 0 < k, strLt (nm[k - 1]'(by omega)).1 nm[k].1 = true := fun h0 => (List.pairwise_iff_getElem.1 HD.out.is.rises) (k - 1) k (by omega) hkl (by omega)
    have hprev : ∀ h0 : 0 < k, wr.cell? ⟨gb, o + (k - 1) * 2, none⟩ = some (.string (nm[k - 1]'(by omega)).1) := fun h0 => hcell (k - 1) (by omega) 0 _ rfl
    obtain ⟨x, hxe⟩ : ∃ x, x = nm[k] := ⟨_, rfl⟩
    rw [← hxe] at hx hat
    simp only [← hxe] at hris
    have x0 : wr.cell? ⟨gb, o + k * 2, none⟩ = some (.string x.1) := hx 0 _ rfl
    have x1 : wr.cell? ⟨gb, o + k * 2 + 1, none⟩ = some (.int .i64 x.2) := hx 1 _ rfl
    obtain ⟨hf, hx2, hx3⟩ := hat
    have HF := hide hf
    clear hx hcell hxe hf
    go_upto_region 18 with fail
    obtain ⟨wa, hwa⟩ : ∃ wa, wa = wr.alloc (.cells #[.string x.1, .int .i64 x.2] 51) := ⟨_, rfl⟩
    obtain ⟨mb, hmb⟩ : ∃ mb, mb = wr.heap.size := ⟨_, rfl⟩
    rw [← hwa, ← hmb]
    have hma : Mod None_ wr wa := by rw [hwa]; exact (Mod.refl _ wr).alloc _
    have bx : Blk wa mb 51 #[.string x.1, .int .i64 x.2] := by rw [hwa, hmb]; exact Blk.new wr _ _
    replace bq := bq.mod hma id
    replace hMq := hMq.trans hma
    have hprev2 : ∀ h0 : 0 < k, wa.cell? ⟨gb, o + (k - 1) * 2, none⟩ = some (.string (nm[k - 1]'(by omega)).1) := fun h0 => (World.cell?_of_block (hma.block gb hgb id)).trans (hprev h0)
    have hgba : gb < wa.heap.size := Nat.lt_of_lt_of_le hgb hma.size
    clear hwa hmb hma x0 x1 c5_ hprev hgb
    have d2 : ¬ x.2 < 2 := by omega
    clear hx2 hx3
    rcases Nat.eq_zero_or_pos k with h0 | h0
    · subst h0
      clear hprev2 hris
      refine region_mxw [(true, 0), (true, 1), (true, 2), (true, 3), (true, 4), (true, 5), (true, 6), (true, 7), (true, 8), (true, 9), (true, 10), (false, 11), (true, 12), (true, 13), (true, 14), (true, 15), (true, 16), (true, 17), (true, 18), (true, 19), (true, 20), (true, 21), (true, 22), (true, 23), (true, 24), (true, 25), (true, 26), (true, 27), (true, 28), (true, 29)] (fun w' => w'.cell? ⟨mb, 0, none⟩ = some (.string x.1) ∧ w'.cell? ⟨mb, 1, none⟩ = some (.int .i64 x.2) ∧ w'.cell? ⟨q1_, 5, none⟩ = some (.slice (some ⟨gb, o, none⟩) nm.length cn)) (by kernel_rfl) (by kernel_rfl) ?_
      rintro w3 hw3
      have hm3 : Mod None_ wa w3 := by rw [hw3]; exact (Mod.refl _ wa).drew
      replace bx := bx.mod hm3 id
      replace bq := bq.mod hm3 id
      replace hMq := hMq.trans hm3
      replace hgba : gb < w3.heap.size := Nat.lt_of_lt_of_le hgba hm3.size
      clear hw3 hm3
      have HFI := hide (find_any w3 _ E x.1 (HL1.out.kept hMq))
      refine ⟨⟨bx.cell 0, bx.cell 1, bq.cell 5⟩, ?_⟩
      iterate 11 (refine mxw_quiet rfl (fun w' i1 K hK => by obtain ⟨i0, i1, i2⟩ := i1; go_simp; exact hK) ?_; go_frame)
      refine mxw_loud rfl (fun K hK => ?_)
      go_simp
      refine Calls.mono HFI.out ?_
      rintro e w4 ⟨rfl, hm4⟩
      replace bx := bx.mod hm4 id
      replace bq := bq.mod hm4 id
      replace hMq := hMq.trans hm4
      rw [HF.out]
      refine ⟨_, rfl, ⟨bx.cell 0, bx.cell 1, bq.cell 5⟩, hK _ _ ?_⟩
      clear hK K HFI hm4 hgba
      try go_frame
      iterate 18 (refine mxw_quiet rfl (fun w' i1 K hK => by obtain ⟨i0, i1, i2⟩ := i1; go_simp; exact hK) ?_; go_frame)
      refine mxw_nil ?_
      clear bx bq
      go_wp2_with fail
      go_roundw
      case rel => exact ⟨1, by omega, by simp, hMq⟩
      case measure => simp [intOf]; omega
    · have hy := hprev2 h0
      have hlt := hris h0
      obtain ⟨y, hye⟩ : ∃ y, y = (nm[k - 1]'(by omega)).1 := ⟨_, rfl⟩
      rw [← hye] at hy hlt
      have k0 : decide (0 < k) = true := decide_eq_true h0
      have ew1 : IntKind.i64.wrap ((k : Int) - 1) = ((k - 1 : Nat) : Int) := by rw [IntWalk.i64_in _ (by omega)]; omega
      have hk1 : ((k - 1 : Nat) : Int) < nm.length := by omega
      have hlt2 : Op.bytesLess y.toList x.1.toList = true := hlt
      clear hye hlt
      clear hprev2 hris
      refine region_mxw [(true, 0), (true, 1), (true, 2), (true, 3), (true, 4), (true, 5), (true, 6), (true, 7), (true, 8), (true, 9), (true, 10), (false, 11), (true, 12), (true, 13), (true, 14), (true, 15), (true, 16), (true, 17), (true, 18), (true, 19), (true, 20), (true, 21), (true, 22), (true, 23), (true, 24), (true, 25), (true, 26), (true, 27), (true, 28), (true, 29)] (fun w' => w'.cell? ⟨mb, 0, none⟩ = some (.string x.1) ∧ w'.cell? ⟨mb, 1, none⟩ = some (.int .i64 x.2) ∧ w'.cell? ⟨q1_, 5, none⟩ = some (.slice (some ⟨gb, o, none⟩) nm.length cn) ∧ w'.cell? ⟨gb, o + (k - 1) * 2, none⟩ = some (.string y)) (by kernel_rfl) (by kernel_rfl) ?_
      rintro w3 hw3
      have hm3 : Mod None_ wa w3 := by rw [hw3]; exact (Mod.refl _ wa).drew
      replace bx := bx.mod hm3 id
      replace bq := bq.mod hm3 id
      replace hMq := hMq.trans hm3
      replace hy := (World.cell?_of_block (hm3.block gb hgba id)).trans hy
      replace hgba : gb < w3.heap.size := Nat.lt_of_lt_of_le hgba hm3.size
      clear hw3 hm3
      have HFI := hide (find_any w3 _ E x.1 (HL1.out.kept hMq))
      refine ⟨⟨bx.cell 0, bx.cell 1, bq.cell 5, hy⟩, ?_⟩
      iterate 11 (refine mxw_quiet rfl (fun w' i1 K hK => by obtain ⟨i0, i1, i2, i3⟩ := i1; go_simp; exact hK) ?_; go_frame)
      refine mxw_loud rfl (fun K hK => ?_)
      go_simp
      refine Calls.mono HFI.out ?_
      rintro e w4 ⟨rfl, hm4⟩
      replace bx := bx.mod hm4 id
      replace bq := bq.mod hm4 id
      replace hMq := hMq.trans hm4
      replace hy := (World.cell?_of_block (hm4.block gb hgba id)).trans hy
      rw [HF.out]
      refine ⟨_, rfl, ⟨bx.cell 0, bx.cell 1, bq.cell 5, hy⟩, hK _ _ ?_⟩
      clear hK K HFI hm4 hgba hy
      try go_frame
      iterate 18 (refine mxw_quiet rfl (fun w' i1 K hK => by obtain ⟨i0, i1, i2, i3⟩ := i1; go_simp; exact hK) ?_; go_frame)
      refine mxw_nil ?_
      clear bx bq
      go_wp2_with fail
      go_roundw
      case rel => exact ⟨k + 1, by omega, by simp, hMq⟩
      case measure => simp [intOf]; omega
  obtain rfl : k = nm.length := by omega
  clear hkl hk
  go_wp2_with fail
  clear bq c5_
  have HMq := hide hMq
  replace HS := hide (HS.out.kept hMq)
  replace HL1 := hide (HL1.out.kept hMq)
  replace HN := hide (HN.out.kept hMq)
  replace b2_ := hide (b2_.out.mod hMq id)
  clear hMq
  refine Calls.mono (lawName_any wr s hsz) ?_
  rintro x wn ⟨rfl, hm⟩
  have hgs := name_good s
  obtain ⟨t, ht⟩ : ∃ t, t = nameOf s := ⟨_, rfl⟩
  rw [← ht] at hgs ⊢
  have HGS := hide hgs
  clear ht hgs
  have HMn := hide hm
  replace HS := hide (HS.out.kept hm)
  replace HL1 := hide (HL1.out.kept hm)
  replace HN := hide (HN.out.kept hm)
  replace b2_ := hide (b2_.out.mod hm id)
  clear hm
  obtain ⟨qe, hq⟩ : ∃ q, q = wn.heap.size := ⟨_, rfl⟩
  obtain ⟨we, hw⟩ : ∃ y, y = wn.alloc (.cells (encEntry (⟨4, 0, 0, 0, 0, 0, 0, t⟩ : EntD)).toArray 26) := ⟨_, rfl⟩
  have hMe : Mod None_ wn we := by rw [hw]; exact (Mod.refl _ wn).alloc _
  have be : Blk we qe 26 (encEntry (⟨4, 0, 0, 0, 0, 0, 0, t⟩ : EntD)).toArray := by rw [hw, hq]; exact Blk.new wn _ _
  have hqn : wn.heap.size ≤ qe := by omega
  have HWE := hide hw
  have HQE := hide hq
  clear hw hq
  go_upto_region 22 with ((with_reducible refine at_slot 12 ?_); refine wpList_declare rfl rfl 26 12 (.tmp 114) rfl rfl rfl zeroEnt (encEntry (⟨4, 0, 0, 0, 0, 0, 0, t⟩ : EntD)).toArray zeroEntV (infoEnt _) rfl (oneEnt _) (by simp) rfl ?_; go_frame; rw [← HWE.out, ← HQE.out])
  clear HWE HQE
  go_wp2_with fail
  refine Calls.mono (find_any we _ E t (HL1.out.kept hMe)) ?_
  rintro x wf ⟨rfl, hm⟩
  replace be := be.mod hm id
  have HMnf := hide (hMe.trans hm)
  clear hm hMe
  obtain ⟨fd, hfd⟩ : ∃ fd, fd = findR E.reverse t := ⟨_, rfl⟩
  rw [← hfd]
  have HFD := hide hfd
  clear hfd
  have HM0 := hide (((HMZ.out.trans HMr.out).trans HMq.out).trans HMn.out)
  clear HMZ HMr HMq HMn
  obtain ⟨bb, hdb⟩ : ∃ bb, decide (0 < fd) = bb := ⟨_, rfl⟩
  go_upto_if 120 with fail
  go_cut [121] from 121 to 122 (fun _ wx => Blk wx qe 26 (encEntry (badE E t)).toArray ∧ Mod (· = qe) wf wx)
  case first =>
    cases bb with
    | true =>
      have hf0 := of_decide_eq_true hdb
      have HB : Hid (badE E t = ⟨3, 0, 0, 0, 0, 0, 2, t⟩) := hide (by unfold badE; rw [← HFD.out, if_pos hf0])
      clear hf0 hdb
      go_wp2_with ((with_reducible refine at_none 26 12 122 ?_); refine wpList_store_row rfl 26 (.tmp 12) (.tmp 122) rfl qe (encEntry (⟨3, 0, 0, 0, 0, 0, 2, t⟩ : EntD)).toArray rfl rfl 26 (encEntry (⟨4, 0, 0, 0, 0, 0, 0, t⟩ : EntD)).toArray be (infoEnt _) rfl (oneEnt _) ?_; go_frame)
      go_meet
      exact ⟨by rw [HB.out]; exact be.row _, (Mod.refl (· = qe) wf).setRow (.inr rfl) _⟩
    | false =>
      have hf0 := of_decide_eq_false hdb
      have HB : Hid (badE E t = ⟨4, 0, 0, 0, 0, 0, 0, t⟩) := hide (by unfold badE; rw [← HFD.out, if_neg hf0])
      clear hf0 hdb
      go_wp2_with fail
      go_meet
      exact ⟨by rw [HB.out]; exact be, Mod.refl _ wf⟩
  obtain ⟨i2, hme⟩ := hcut
  have hMnc : Mod None_ wn wc := HMnf.out.trans' hme (fun k hk e => by omega)
  clear be HFD hdb HMnf hme hqn
  have HMnc := hide hMnc
  replace HS := hide (HS.out.kept hMnc)
  replace HL1 := hide (HL1.out.kept hMnc)
  replace HN := hide (HN.out.kept hMnc)
  replace b2_ := hide (b2_.out.mod hMnc id)
  clear hMnc
  have hapx : applyErr n (badE E t) = 90 ∧ applyN n (badE E t) = zeroN := by rw [HNE.out]; exact bad_apply HD.out HWF.out HGS.out _
  have HAP := hide hapx
  clear hapx
  obtain ⟨be_, hbe⟩ : ∃ e, e = badE E t := ⟨_, rfl⟩
  rw [← hbe] at i2 HAP
  clear hbe
  go_upto_region 24 with fail
  go_cut [13, 14] from 123 to 129 (fun s13 s14 wx => AfterApply wc wx zeroN 90 s13 s14)
  case first =>
    have i1 := b2_.out
    have hN := HN.out
    have hS := HS.out
    have HI := HI1
    clear HI1
    refine region_sch sigApply (fun w' => Blk w' q1_ 31 (nodeC n (.slice Am 0 cm) (.slice An nm.length cn) vl) ∧ Blk w' qe 26 (encEntry be_).toArray) (by kernel_rfl) (by kernel_rfl) ?_
    rintro wA hwA
    have hmA : Mod None_ wc wA := by rw [hwA]; exact (Mod.refl _ wc).drew
    replace i1 := i1.mod hmA id
    replace i2 := i2.mod hmA id
    replace hN := hN.kept hmA
    replace hS := hS.kept hmA
    have hMc := hmA
    clear hwA hmA
    refine ⟨⟨i1, i2⟩, ?_⟩
    unfold sigApply
    refine scw_qval rfl rfl (fun w' i => ex_load rfl (run_loadRow i.1 Tryd.underlying31 rfl HI.out)) ?_
    go_frame
    refine scw_qval rfl rfl (fun w' i => ex_load rfl (run_loadRow i.2 Tryd.underlying26 rfl (infoEnt _))) ?_
    go_frame
    refine scw_two ?_ ?_
    · refine scw_loud rfl (fun K hK => ?_)
      go_simp
      refine Calls.mono (lawCopy wA n (.slice Am 0 cm) (.slice An nm.length cn) vl hN (by rw [HNE.out]; exact node_small (Nat.le_trans (names_rows HD.out.is) (by omega)))) ?_
      rintro x wB1 ⟨um, un, ul, rfl, hO1, hm⟩
      have hNc := hO1.in_ hN
      replace i1 := i1.mod hm id
      replace i2 := i2.mod hm id
      replace hN := hN.kept hm
      replace hS := hS.kept hm
      replace hMc := hMc.trans hm
      refine ⟨_, rfl, ⟨i1, i2⟩, hK _ _ ?_⟩
      clear hK K hm hO1
      try go_frame
      refine scw_two ?_ ?_
      · refine scw_loud rfl (fun K hK => ?_)
        go_simp
        refine Calls.mono (apply_any wB1 n um un ul be_ hS (hNc.at_ (by rw [HNE.out]; exact node_small (Nat.le_trans (names_rows HD.out.is) (by omega)))) (by rw [HNE.out]; exact Nat.zero_le _)) ?_
        rintro x wB2 ⟨xm, xn, xl, rfl, hO2, hm⟩
        rw [HAP.out.1, HAP.out.2]
        rw [HAP.out.2] at hO2
        replace hO2 := own_0 hO2
        replace i1 := i1.mod hm id
        replace i2 := i2.mod hm id
        replace hN := hN.kept hm
        replace hS := hS.kept hm
        replace hMc := hMc.trans hm
        refine ⟨_, rfl, ⟨i1, i2⟩, hK _ _ ?_⟩
        clear hK K hm hNc
        try go_frame
        iterate 3 (refine scw_quiet rfl (fun w' i K hK => by go_simp; exact hK) ?_; go_frame)
        obtain ⟨Q, hQ⟩ : ∃ Q, Q = wB2.heap.size := ⟨_, rfl⟩
        obtain ⟨wB3, hw⟩ : ∃ y, y = wB2.alloc (.cells zeroNode 31) := ⟨_, rfl⟩
        have hm : Mod None_ wB2 wB3 := by rw [hw]; exact (Mod.refl _ wB2).alloc _
        have bQ : Blk wB3 Q 31 zeroNode := by rw [hw, hQ]; exact Blk.new wB2 _ _
        have hQ1 : q1_ < Q := by rw [hQ]; exact i1.lt
        have hQ2 : qe < Q := by rw [hQ]; exact i2.lt
        have hQ3 : wc.heap.size ≤ Q := by rw [hQ]; exact hMc.size
        replace i1 := i1.mod hm id
        replace i2 := i2.mod hm id
        replace hN := hN.kept hm
        replace hS := hS.kept hm
        replace hMc := hMc.trans hm
        replace hO2 := hO2.kept hm
        refine scw_alloc rfl rfl 31 rfl (.agg zeroNode) zeroNodeV ?_ ?_
        · rw [show (Value.agg zeroNode).cells = zeroNode from rfl, ← hw]; exact ⟨i1, i2⟩
        rw [show (Value.agg zeroNode).cells = zeroNode from rfl, ← hw, ← hQ]
        try go_frame
        clear hw hQ hm
        have HIo := hide (infoNode zeroN xm xn xl)
        have HOo := hide (nodeOwn_one hO2)
        have hms : Mod (· = Q) wB3 (wB3.setRow Q (nodeC zeroN xm xn xl)) := (Mod.refl (· = Q) wB3).setRow (.inr rfl) _
        refine scw_storeRow rfl rfl 31 (.tmp 13) (.tmp 128) rfl Q (nodeC zeroN xm xn xl) rfl rfl 31 zeroNode bQ HIo.out rfl HOo.out ⟨i1.mod hms (by omega), i2.mod hms (by omega)⟩ ?_
        replace hO2 := hO2.store (cs' := (nodeC zeroN xm xn xl)) bQ
        replace bQ := bQ.row (nodeC zeroN xm xn xl)
        replace hMc : Mod None_ wc (wB3.setRow Q (nodeC zeroN xm xn xl)) := hMc.trans' hms (fun g hg e => by omega)
        obtain ⟨wB4, hw⟩ : ∃ y, y = wB3.setRow Q (nodeC zeroN xm xn xl) := ⟨_, rfl⟩
        rw [← hw] at hO2 bQ hMc ⊢
        try go_frame
        clear hw hms i1 i2 hN hS HIo HOo
        iterate 1 (refine scw_quiet rfl (fun w' i K hK => by go_simp; exact hK) ?_; go_frame)
        refine scw_nil ?_
        go_wp2_with fail
        go_meet
        exact ⟨Q, xm, xn, xl, rfl, rfl, bQ, hO2, hMc⟩
      · obtain ⟨Q, hQ⟩ : ∃ Q, Q = wB1.heap.size := ⟨_, rfl⟩
        obtain ⟨wB2, hw⟩ : ∃ y, y = wB1.alloc (.cells zeroNode 31) := ⟨_, rfl⟩
        have hm : Mod None_ wB1 wB2 := by rw [hw]; exact (Mod.refl _ wB1).alloc _
        have bQ : Blk wB2 Q 31 zeroNode := by rw [hw, hQ]; exact Blk.new wB1 _ _
        have hQ1 : q1_ < Q := by rw [hQ]; exact i1.lt
        have hQ2 : qe < Q := by rw [hQ]; exact i2.lt
        have hQ3 : wc.heap.size ≤ Q := by rw [hQ]; exact hMc.size
        replace i1 := i1.mod hm id
        replace i2 := i2.mod hm id
        replace hN := hN.kept hm
        replace hS := hS.kept hm
        replace hMc := hMc.trans hm
        replace hNc := hNc.kept hm
        refine scw_alloc rfl rfl 31 rfl (.agg zeroNode) zeroNodeV ?_ ?_
        · rw [show (Value.agg zeroNode).cells = zeroNode from rfl, ← hw]; exact ⟨i1, i2⟩
        rw [show (Value.agg zeroNode).cells = zeroNode from rfl, ← hw, ← hQ]
        try go_frame
        clear hw hQ hm
        refine scw_loud rfl (fun K hK => ?_)
        go_simp
        refine Calls.mono (apply_any wB2 n um un ul be_ hS (hNc.at_ (by rw [HNE.out]; exact node_small (Nat.le_trans (names_rows HD.out.is) (by omega)))) (by rw [HNE.out]; exact Nat.zero_le _)) ?_
        rintro x wB3 ⟨xm, xn, xl, rfl, hO2, hm⟩
        rw [HAP.out.1, HAP.out.2]
        rw [HAP.out.2] at hO2
        replace hO2 := own_0 hO2
        replace i1 := i1.mod hm id
        replace i2 := i2.mod hm id
        replace hN := hN.kept hm
        replace hS := hS.kept hm
        replace hMc := hMc.trans hm
        replace bQ := bQ.mod hm id
        refine ⟨_, rfl, ⟨i1, i2⟩, hK _ _ ?_⟩
        clear hK K hm hNc
        try go_frame
        iterate 3 (refine scw_quiet rfl (fun w' i K hK => by go_simp; exact hK) ?_; go_frame)
        have HIo := hide (infoNode zeroN xm xn xl)
        have HOo := hide (nodeOwn_one hO2)
        have hms : Mod (· = Q) wB3 (wB3.setRow Q (nodeC zeroN xm xn xl)) := (Mod.refl (· = Q) wB3).setRow (.inr rfl) _
        refine scw_storeRow rfl rfl 31 (.tmp 13) (.tmp 128) rfl Q (nodeC zeroN xm xn xl) rfl rfl 31 zeroNode bQ HIo.out rfl HOo.out ⟨i1.mod hms (by omega), i2.mod hms (by omega)⟩ ?_
        replace hO2 := hO2.store (cs' := (nodeC zeroN xm xn xl)) bQ
        replace bQ := bQ.row (nodeC zeroN xm xn xl)
        replace hMc : Mod None_ wc (wB3.setRow Q (nodeC zeroN xm xn xl)) := hMc.trans' hms (fun g hg e => by omega)
        obtain ⟨wB4, hw⟩ : ∃ y, y = wB3.setRow Q (nodeC zeroN xm xn xl) := ⟨_, rfl⟩
        rw [← hw] at hO2 bQ hMc ⊢
        try go_frame
        clear hw hms i1 i2 hN hS HIo HOo
        iterate 1 (refine scw_quiet rfl (fun w' i K hK => by go_simp; exact hK) ?_; go_frame)
        refine scw_nil ?_
        go_wp2_with fail
        go_meet
        exact ⟨Q, xm, xn, xl, rfl, rfl, bQ, hO2, hMc⟩
    · obtain ⟨Q, hQ⟩ : ∃ Q, Q = wA.heap.size := ⟨_, rfl⟩
      obtain ⟨wB1, hw⟩ : ∃ y, y = wA.alloc (.cells zeroNode 31) := ⟨_, rfl⟩
      have hm : Mod None_ wA wB1 := by rw [hw]; exact (Mod.refl _ wA).alloc _
      have bQ : Blk wB1 Q 31 zeroNode := by rw [hw, hQ]; exact Blk.new wA _ _
      have hQ1 : q1_ < Q := by rw [hQ]; exact i1.lt
      have hQ2 : qe < Q := by rw [hQ]; exact i2.lt
      have hQ3 : wc.heap.size ≤ Q := by rw [hQ]; exact hMc.size
      replace i1 := i1.mod hm id
      replace i2 := i2.mod hm id
      replace hN := hN.kept hm
      replace hS := hS.kept hm
      replace hMc := hMc.trans hm
      refine scw_alloc rfl rfl 31 rfl (.agg zeroNode) zeroNodeV ?_ ?_
      · rw [show (Value.agg zeroNode).cells = zeroNode from rfl, ← hw]; exact ⟨i1, i2⟩
      rw [show (Value.agg zeroNode).cells = zeroNode from rfl, ← hw, ← hQ]
      try go_frame
      clear hw hQ hm
      refine scw_loud rfl (fun K hK => ?_)
      go_simp
      refine Calls.mono (lawCopy wB1 n (.slice Am 0 cm) (.slice An nm.length cn) vl hN (by rw [HNE.out]; exact node_small (Nat.le_trans (names_rows HD.out.is) (by omega)))) ?_
      rintro x wB2 ⟨um, un, ul, rfl, hO1, hm⟩
      have hNc := hO1.in_ hN
      replace i1 := i1.mod hm id
      replace i2 := i2.mod hm id
      replace hN := hN.kept hm
      replace hS := hS.kept hm
      replace hMc := hMc.trans hm
      replace bQ := bQ.mod hm id
      refine ⟨_, rfl, ⟨i1, i2⟩, hK _ _ ?_⟩
      clear hK K hm hO1
      try go_frame
      refine scw_loud rfl (fun K hK => ?_)
      go_simp
      refine Calls.mono (apply_any wB2 n um un ul be_ hS (hNc.at_ (by rw [HNE.out]; exact node_small (Nat.le_trans (names_rows HD.out.is) (by omega)))) (by rw [HNE.out]; exact Nat.zero_le _)) ?_
      rintro x wB3 ⟨xm, xn, xl, rfl, hO2, hm⟩
      rw [HAP.out.1, HAP.out.2]
      rw [HAP.out.2] at hO2
      replace hO2 := own_0 hO2
      replace i1 := i1.mod hm id
      replace i2 := i2.mod hm id
      replace hN := hN.kept hm
      replace hS := hS.kept hm
      replace hMc := hMc.trans hm
      replace bQ := bQ.mod hm id
      refine ⟨_, rfl, ⟨i1, i2⟩, hK _ _ ?_⟩
      clear hK K hm hNc
      try go_frame
      iterate 3 (refine scw_quiet rfl (fun w' i K hK => by go_simp; exact hK) ?_; go_frame)
      have HIo := hide (infoNode zeroN xm xn xl)
      have HOo := hide (nodeOwn_one hO2)
      have hms : Mod (· = Q) wB3 (wB3.setRow Q (nodeC zeroN xm xn xl)) := (Mod.refl (· = Q) wB3).setRow (.inr rfl) _
      refine scw_storeRow rfl rfl 31 (.tmp 13) (.tmp 128) rfl Q (nodeC zeroN xm xn xl) rfl rfl 31 zeroNode bQ HIo.out rfl HOo.out ⟨i1.mod hms (by omega), i2.mod hms (by omega)⟩ ?_
      replace hO2 := hO2.store (cs' := (nodeC zeroN xm xn xl)) bQ
      replace bQ := bQ.row (nodeC zeroN xm xn xl)
      replace hMc : Mod None_ wc (wB3.setRow Q (nodeC zeroN xm xn xl)) := hMc.trans' hms (fun g hg e => by omega)
      obtain ⟨wB4, hw⟩ : ∃ y, y = wB3.setRow Q (nodeC zeroN xm xn xl) := ⟨_, rfl⟩
      rw [← hw] at hO2 bQ hMc ⊢
      try go_frame
      clear hw hms i1 i2 hN hS HIo HOo
      iterate 1 (refine scw_quiet rfl (fun w' i K hK => by go_simp; exact hK) ?_; go_frame)
      refine scw_nil ?_
      go_wp2_with fail
      go_meet
      exact ⟨Q, xm, xn, xl, rfl, rfl, bQ, hO2, hMc⟩
  obtain ⟨q, ym, yn, yl, rfl, rfl, bq, hOz, hMz⟩ := hcut
  have HIz := hide (infoNode zeroN ym yn yl)
  have bz := hide bq
  obtain ⟨w9, hw9⟩ : ∃ x, x = wc := ⟨_, rfl⟩
  have hIz := in_zero hOz
  have HM9 := hide (HM0.out.trans (HMnc.out.trans hMz))
  clear hw9 hMz bq hOz HMnc HM0
  have hzz := fun w => in_zero (zeroN_own 0 w)
  have z0 : wc.cell? ⟨q, 0, none⟩ = some (.int .i64 0) := bz.out.cell 0
  have z1 : wc.cell? ⟨q, 1, none⟩ = some (.int .i64 0) := bz.out.cell 1
  have z2 : wc.cell? ⟨q, 2, none⟩ = some (.int .i64 0) := bz.out.cell 2
  have z3 : wc.cell? ⟨q, 3, none⟩ = some (.int .i64 0) := bz.out.cell 3
  have z4 : wc.cell? ⟨q, 4, none⟩ = some (ym) := bz.out.cell 4
  have z5 : wc.cell? ⟨q, 5, none⟩ = some (yn) := bz.out.cell 5
  have z6 : wc.cell? ⟨q, 6, none⟩ = some (.int .i64 0) := bz.out.cell 6
  have z7 : wc.cell? ⟨q, 7, none⟩ = some (.int .i64 0) := bz.out.cell 7
  have z8 : wc.cell? ⟨q, 8, none⟩ = some (yl) := bz.out.cell 8
  have z9 : wc.cell? ⟨q, 9, none⟩ = some (.int .i64 0) := bz.out.cell 9
  clear bz HIz
  go_wp2_with fail
  refine Calls.mono (lawSameNode _ zeroN ym yn yl (.slice none 0 0) (.slice none 0 0) (.slice none 0 0) hIz (hzz _)) ?_
  rintro x wz ⟨rfl, hm⟩
  have HF := hide (HM9.out.trans hm)
  clear hm hIz hzz z0 z1 z2 z3 z4 z5 z6 z7 z8 z9
  go_wp2
  go_ret
  exact ⟨rfl, HF.out⟩
end Go.Proofs.YtabebkffcmajkaaDoor
