import Derived.RangeFuncNested
import Derived.RangeFuncBound
import Derived.RangeFuncCalls
import Derived.RangeFuncLeaves
import Derived.Shelf.Abstract
import Derived.Shelf.RegionOpen
import Derived.OwnWalkIn
import Derived.TacticsInMore
import Derived.LoopNIn
import Derived.LoopIn
import Derived.Maps.AppendAt
import Derived.Test.YtabebkffcmajkaaSt
/-! Ranges over functions: what bodies keep; regions that draw in a round. No program in it. -/
namespace Go.Proofs.Ytabebkffcmajkaa
open Go.RowKit Go.Maps Go.Shelf

theorem Mod.of_grown {w w' : World} {row : Option Nat} (h : w.grownBy w' row) : Mod (fun k => some k = row) w w' := ⟨h.os, h.tape, h.output, h.size, fun k hk hs => h.block k hk hs⟩
/-- whatever is cells from block B on stays -/
structure KpR (B : Nat) (W W' : World) : Prop where
  size : W.heap.size ≤ W'.heap.size
  same : ∀ k cs t fr, B ≤ k → W.heap[k]? = some (.cells cs t fr) → W'.heap[k]? = some (.cells cs t fr)
theorem KpR.refl (B : Nat) (W : World) : KpR B W W := ⟨Nat.le_refl _, fun _ _ _ _ _ h => h⟩
theorem KpR.trans {B : Nat} {A C D : World} (h : KpR B A C) (k : KpR B C D) : KpR B A D := ⟨Nat.le_trans h.size k.size, fun i cs t fr hB hi => k.same i cs t fr hB (h.same i cs t fr hB hi)⟩
theorem KpR.putObj {B : Nat} (W : World) (l : Nat) (o o' : Obj) (hl : W.heap[l]? = some o) (ho : o.isCells = false) : KpR B W (W.putObj l o') :=
  ⟨by simp, fun k cs t fr _ hk => by
    by_cases e : k = l
    · subst e; rw [hk] at hl; cases hl; simp [Obj.isCells] at ho
    · exact (World.putObj_heap_other e).trans hk⟩
theorem Mod.grownBy {w w' : World} (h : Mod None_ w w') : w.grownBy w' Option.none := ⟨h.os, h.tape, h.output, h.size, fun k hk _ => h.block k hk id⟩
theorem Mod.kpR {S : Nat → Prop} {B : Nat} {w w' : World} (h : Mod S w w') (hs : ∀ k, B ≤ k → k < w.heap.size → ¬ S k) : KpR B w w' :=
  ⟨h.size, fun k cs t fr hB hk => by
    have hlt := (Array.getElem?_eq_some_iff.1 hk).1
    exact (h.block k hlt (hs k hB hlt)).trans hk⟩
theorem KpR.cell {B : Nat} {W W' : World} (h : KpR B W W') {g i : Nat} {v : Value} (hg : B ≤ g) (hc : W.cell? ⟨g, i, none⟩ = some v) : W'.cell? ⟨g, i, none⟩ = some v := by
  obtain ⟨o, ho, hoc⟩ := cells_of_cell hc
  cases o <;> simp [Obj.isCells] at hoc
  exact (World.cell?_of_block ((h.same g _ _ _ hg ho).trans ho.symm)).trans hc

/-- the block that the slice in a variable lies in -/
def ownerAt (W : World) (bl : Nat) : Option Nat := match W.cell? ⟨bl, 0, none⟩ with | some v => v.ownBlock | none => none
/-- whatever is cells from block B on stays, but for the row of the slice in the variable bl, which may be a new one -/
structure KpO (B bl : Nat) (W W' : World) : Prop where
  size : W.heap.size ≤ W'.heap.size
  same : ∀ k cs t fr, B ≤ k → W.heap[k]? = some (.cells cs t fr) → some k ≠ ownerAt W bl → W'.heap[k]? = some (.cells cs t fr)
  own : ∀ k, ownerAt W' bl = some k → ownerAt W bl = some k ∨ W.heap.size ≤ k
theorem KpO.refl (B bl : Nat) (W : World) : KpO B bl W W := ⟨Nat.le_refl _, fun _ _ _ _ _ h _ => h, fun _ h => .inl h⟩
theorem KpO.trans {B bl : Nat} {A C D : World} (h : KpO B bl A C) (k : KpO B bl C D) : KpO B bl A D :=
  ⟨Nat.le_trans h.size k.size, fun i cs t fr hB hi hne => k.same i cs t fr hB (h.same i cs t fr hB hi hne) (fun e => by
      rcases h.own i e.symm with e2 | e2
      · exact hne e2.symm
      · have := (Array.getElem?_eq_some_iff.1 hi).1; omega),
   fun i hi => by
    rcases k.own i hi with e | e
    · exact h.own i e
    · exact .inr (Nat.le_trans h.size e)⟩
theorem ownerAt_block {W W' : World} {bl : Nat} (h : W'.heap[bl]? = W.heap[bl]?) : ownerAt W' bl = ownerAt W bl := by
  unfold ownerAt; rw [World.cell?_of_block h]
theorem KpO.of_mod {S : Nat → Prop} {B bl : Nat} {W W' : World} (h : Mod S W W') (hbl : bl < W.heap.size) (hs : ¬ S bl) (hB : ∀ k, B ≤ k → k < W.heap.size → ¬ S k) : KpO B bl W W' :=
  ⟨h.size, fun k cs t fr hBk hk _ => by
      have hlt := (Array.getElem?_eq_some_iff.1 hk).1
      exact (h.block k hlt (hB k hBk hlt)).trans hk, fun k hk => .inl ((ownerAt_block (h.block bl hbl hs)).symm.trans hk)⟩
theorem KpO.putObj {B bl : Nat} (W : World) (l : Nat) (o o' : Obj) (hbl : bl ≠ l) (hl : W.heap[l]? = some o) (ho : o.isCells = false) : KpO B bl W (W.putObj l o') :=
  ⟨by simp, fun k cs t fr _ hk _ => by
    by_cases e : k = l
    · subst e; rw [hk] at hl; cases hl; simp [Obj.isCells] at ho
    · exact (World.putObj_heap_other e).trans hk, fun k hk => .inl ((ownerAt_block (World.putObj_heap_other hbl)).symm.trans hk)⟩
theorem KpO.alloc {B bl : Nat} (W : World) (o : Obj) (hbl : bl < W.heap.size) : KpO B bl W (W.alloc o) := KpO.of_mod ((Mod.refl None_ W).alloc o) hbl id (fun _ _ _ f => f)
/-- the iterator's word, where the variable held no row of its own when the loop began -/
theorem KpO.keep {w : World} {bl : Nat} (hbl : bl < w.heap.size) (hno : ownerAt w bl = none) : ∀ W0 W1 W' g j v, Below w.heap.size w W0 → Mod None_ W0 W1 → W0.heap.size ≤ g → KpO w.heap.size bl W1 W' → W1.cell? ⟨g, j, none⟩ = some v → W'.cell? ⟨g, j, none⟩ = some v := by
  intro W0 W1 W' g j v hb hm hg hk hc
  obtain ⟨o, ho, hoc⟩ := cells_of_cell hc
  have e : ownerAt W1 bl = none := by
    rw [ownerAt_block (hm.block bl (by have := hb.size; omega) id), ownerAt_block (hb.block bl hbl)]; exact hno
  cases o <;> simp [Obj.isCells] at hoc
  exact (World.cell?_of_block ((hk.same g _ _ _ (by have := hb.size; omega) ho (by rw [e]; simp)).trans ho.symm)).trans hc

theorem own_blk {w : World} {base e size n : Nat} {v : Value} {xs : List Value} (h : w.ownsRow base e size v n xs) {g : Nat} (hg : v.ownBlock = some g) : base ≤ g ∧ ∃ cur, w.heap[g]? = some (.cells cur e (0, 0)) := by
  rcases h.2 with ⟨rfl, _⟩ | ⟨g', cap, cur, rfl, hb, hh, _⟩
  · cases hg
  · have : g' = g := by simpa [Value.ownBlock] using hg
    subst this
    exact ⟨hb, cur, hh⟩
theorem own_mod {S : Nat → Prop} {w w' : World} {base e size n : Nat} {v : Value} {xs : List Value} (h : w.ownsRow base e size v n xs) (hm : Mod S w w') (hs : ∀ g, v.ownBlock = some g → ¬ S g) : w'.ownsRow base e size v n xs := by
  refine ⟨h.1, ?_⟩
  rcases h.2 with h2 | ⟨g, cap, cur, rfl, hb, hh, r⟩
  · exact .inl h2
  · refine .inr ⟨g, cap, cur, rfl, hb, ?_, r⟩
    rw [hm.block g (Array.getElem?_eq_some_iff.1 hh).1 (hs g rfl)]
    exact hh
theorem own_slice {w : World} {base e size n : Nat} {v : Value} {xs : List Value} (h : w.ownsRow base e size v n xs) : ∃ A c, v = .slice A n c := by
  rcases h.2 with ⟨rfl, rfl⟩ | ⟨g, cap, cur, rfl, _⟩
  · exact ⟨_, _, rfl⟩
  · exact ⟨_, _, rfl⟩
theorem at_slotIn {F : Fence} {m : Nat} {P : Program} {ops : Array Oper} {rest : List Oper} {a : Act} {w : World} {Q : Exit → Act → World → Prop} (n : Nat) {op : Op} {ty : TypeId} {pos : String} {after : Array Edge} {g : Option (Nat × Bool)}
    (h : wpListIn F m P ops Q (⟨some n, op, ty, pos, after, g⟩ :: rest) a w) : wpListIn F m P ops Q (⟨some n, op, ty, pos, after, g⟩ :: rest) a w := h
/-- what a round does that appends to a slice of its own in the variable bl -/
theorem grown_keeps (tS tE sz : Nat) {B bl : Nat} {U w1 : World} {A A2 : Option Addr} {n c n2 c2 : Nat} {xs xs2 : List Value} (hbl : bl < B) (_hB : B ≤ U.heap.size) (hv : Blk U bl tS #[.slice A n c]) (hown : U.ownsRow B tE sz (.slice A n c) n xs) (hown2 : w1.ownsRow B tE sz (.slice A2 n2 c2) n2 xs2)
    (hm : Mod (fun k => some k = (Value.slice A n c).ownBlock) U w1) (hat : (Value.slice A2 n2 c2).ownBlock = (Value.slice A n c).ownBlock ∨ (Value.slice A2 n2 c2).ownBlock = some (U.heap.size + 1)) :
    KeepsFrom B U (w1.setCell ⟨bl, 0, none⟩ (.slice A2 n2 c2)) ∧ KpO B bl U (w1.setCell ⟨bl, 0, none⟩ (.slice A2 n2 c2)) ∧ Blk (w1.setCell ⟨bl, 0, none⟩ (.slice A2 n2 c2)) bl tS #[.slice A2 n2 c2] ∧ (w1.setCell ⟨bl, 0, none⟩ (.slice A2 n2 c2)).ownsRow B tE sz (.slice A2 n2 c2) n2 xs2 ∧
      Mod (fun k => B ≤ k ∨ k = bl) U (w1.setCell ⟨bl, 0, none⟩ (.slice A2 n2 c2)) := by
  have hob : ∀ g, (Value.slice A n c).ownBlock = some g → B ≤ g ∧ ∃ cur, U.heap[g]? = some (.cells cur tE (0, 0)) := fun g hg => own_blk hown hg
  have hv1 := hv.mod hm (fun e => by have := (hob _ e.symm).1; omega)
  have hv2 : Blk (w1.setCell ⟨bl, 0, none⟩ (.slice A2 n2 c2)) bl tS #[.slice A2 n2 c2] := by simpa using hv1.set_ 0 (.slice A2 n2 c2)
  refine ⟨⟨by simpa [World.setCell] using hm.size, fun k o hk ho hoc => ?_⟩, ⟨by simpa [World.setCell] using hm.size, fun k cs t fr hk hc hne => ?_, fun k hk => ?_⟩, hv2, own_mod hown2 ((Mod.refl (· = bl) w1).setCell (p := ⟨bl, 0, none⟩) (.inr rfl) _) (fun g hg e => by have := (own_blk hown2 hg).1; omega), ?_⟩
  · have hlt := (Array.getElem?_eq_some_iff.1 ho).1
    refine (Below.heap_setCell w1 _ _ k (by simp; omega)).trans ((hm.block k hlt (fun e => ?_)).trans ho)
    obtain ⟨_, cur, hh⟩ := hob k e.symm
    rw [hh] at ho; cases ho; simp [Obj.isCells] at hoc
  · have hlt := (Array.getElem?_eq_some_iff.1 hc).1
    refine (Below.heap_setCell w1 _ _ k (by simp; omega)).trans ((hm.block k hlt (fun e => ?_)).trans hc)
    apply hne
    rw [e]; unfold ownerAt; rw [hv.cell 0]; rfl
  · have e1 : ownerAt (w1.setCell ⟨bl, 0, none⟩ (.slice A2 n2 c2)) bl = (Value.slice A2 n2 c2).ownBlock := by unfold ownerAt; rw [hv2.cell 0]; rfl
    have e2 : ownerAt U bl = (Value.slice A n c).ownBlock := by unfold ownerAt; rw [hv.cell 0]; rfl
    rw [e1] at hk
    rcases hat with h | h
    · left; rw [e2, ← h]; exact hk
    · right; rw [h] at hk; injection hk with hk; omega
  · exact Mod.setCell (S := fun k => B ≤ k ∨ k = bl) (hm.mono fun k _ e => .inl (hob k e.symm).1) (.inr (.inr rfl)) _
/-- the contract from the body, walked in the usual form -/
theorem calls_of_wp_marks (n : Nat) {P : Program} {f : FuncId} {fn : Func} {c : Code} {args : Array Value} {w : World} {R : Ending → World → Prop} (hf : P.funcs[f]? = some fn) (hb : fn.body = some c)
    (h : c.wp P (bodyPostM Fence.wide n P fn R) { tmps := args ++ Array.replicate (fn.ntmps - args.size) undef, defers := [] } w) : Calls P f args w R :=
  (callsIn_wide (n := n)).1 (callsIn_of_wp_marks hf hb trivial (wpIn_wide.2 h) rfl)

/-- a range over an iterator that has its contract, walked in the usual form: F is what holds behind it, however it was left (at its end, or by the exit id) -/
theorem wp_range_mid {α : Type} {P : Program} {g : Operand} {ps : Array Tmp} {assign body : Code} {Q : Exit → Act → World → Prop} {a : Act} {w : World} (n : Nat) (h1 : 1 ≤ n) {gf : Nat} {lb : Array Value}
    (hg : a.eval g = .func (.func gf) #[] lb) (eg : ∀ args w, (callFunc gf args).run P w = .ok (.enter gf args) w) {encs : α → Array Value} {Kp : World → World → Prop} {S Sp : List α → Prop} {N : Nat} {w0 : World}
    (hseq : SeqStopsK Fence.wide (n - 1) P gf lb encs Kp S Sp N w0) (hKt : ∀ {A B C : World}, Kp A B → Kp B C → Kp A C)
    (hKb : ∀ (W : World) (l : Nat) (o o' : Obj), w.heap.size ≤ l → W.heap[l]? = some o → o.isCells = false → o.isWalk = false → Kp W (W.putObj l o')) (hb0 : Below w0.heap.size w0 w) (hps : ∀ x, (encs x).size = ps.size)
    (I : List α → World → Prop) (Ix : Code → List α → World → Prop) (id : Nat) (F : World → Prop) (hI : OwnFrom w.heap.size I) (hIx : ∀ c, OwnFrom w.heap.size (Ix c)) (h0 : I [] w)
    (hdone : ∀ xs W, S xs → I xs W → F W) (hstop : ∀ c pre W, Sp pre → Ix c pre W → c = .exit id ∧ F W)
    (h : ∃ a₁ : α → Act, (∀ (l : Nat) (x : α) (W : World) (K : Act → World → Prop), K (a₁ x) W → assign.wpIn (Fence.wide.inRound l) (n - 1 - 1) P (Exit.then K (fun _ _ _ => False)) { tmps := (ps.zip (encs x)).foldl (fun t (p, v) => t.setIfInBounds p v) a.tmps, defers := [] } W) ∧
      ∀ (l : Nat) (pre : List α) (x : α) (W : World), I pre W → pre.length < N → body.wpIn (Fence.wide.inRound l) (n - 1 - 1) P (ownPostG w.heap.size Kp I Ix (pre ++ [x]) W) (a₁ x) W)
    (hQ : ∀ (D : Nat) (W : World), w.heap.size ≤ D → F W → W.heap[D]? = some (.deferred (some [])) → Q .normal { tmps := a.tmps, defers := { target := .collected D, args := #[] } :: a.defers } W) :
    (Code.rangeFunc g ps assign body).wp P (Exit.inBlock id Q) a w := by
  obtain ⟨a₁, ha, hbd⟩ := h
  refine wpIn_wide.1 (wpIn_rangeFunc_ownG (F := Fence.wide) (n := n) rfl h1 hg trivial eg hseq (fun h k => hKt h k) hKb hb0 hps I Ix hI hIx h0 a₁ ha hbd (fun D xs W hD hs hi hk => hQ D W hD (hdone xs W hs hi) hk) (fun D c pre W hD hs hi hk => ?_))
  obtain ⟨rfl, hF⟩ := hstop c pre W hs hi
  exact wpIn_wide.2 (wp_exit (by show (if id = id then _ else _); rw [if_pos rfl]; exact hQ D W hD hF hk))
/-- the same, where the body may return as well: G is what holds then -/
theorem wp_range_two {α : Type} {P : Program} {g : Operand} {ps : Array Tmp} {assign body : Code} {Q : Exit → Act → World → Prop} {a : Act} {w : World} (n : Nat) (h1 : 1 ≤ n) {gf : Nat} {lb : Array Value}
    (hg : a.eval g = .func (.func gf) #[] lb) (eg : ∀ args w, (callFunc gf args).run P w = .ok (.enter gf args) w) {encs : α → Array Value} {Kp : World → World → Prop} {S Sp : List α → Prop} {N : Nat} {w0 : World}
    (hseq : SeqStopsK Fence.wide (n - 1) P gf lb encs Kp S Sp N w0) (hKt : ∀ {A B C : World}, Kp A B → Kp B C → Kp A C)
    (hKb : ∀ (W : World) (l : Nat) (o o' : Obj), w.heap.size ≤ l → W.heap[l]? = some o → o.isCells = false → o.isWalk = false → Kp W (W.putObj l o')) (hb0 : Below w0.heap.size w0 w) (hps : ∀ x, (encs x).size = ps.size)
    (I : List α → World → Prop) (Ix : Code → List α → World → Prop) (id : Nat) (F G : World → Prop) (hI : OwnFrom w.heap.size I) (hIx : ∀ c, OwnFrom w.heap.size (Ix c)) (h0 : I [] w)
    (hdone : ∀ xs W, S xs → I xs W → F W) (hstop : ∀ c pre W, Sp pre → Ix c pre W → (c = .exit id ∧ F W) ∨ (c = .ret ∧ G W))
    (h : ∃ a₁ : α → Act, (∀ (l : Nat) (x : α) (W : World) (K : Act → World → Prop), K (a₁ x) W → assign.wpIn (Fence.wide.inRound l) (n - 1 - 1) P (Exit.then K (fun _ _ _ => False)) { tmps := (ps.zip (encs x)).foldl (fun t (p, v) => t.setIfInBounds p v) a.tmps, defers := [] } W) ∧
      ∀ (l : Nat) (pre : List α) (x : α) (W : World), I pre W → pre.length < N → body.wpIn (Fence.wide.inRound l) (n - 1 - 1) P (ownPostG w.heap.size Kp I Ix (pre ++ [x]) W) (a₁ x) W)
    (hQ : ∀ (D : Nat) (W : World), w.heap.size ≤ D → F W → W.heap[D]? = some (.deferred (some [])) → Q .normal { tmps := a.tmps, defers := { target := .collected D, args := #[] } :: a.defers } W)
    (hQ2 : ∀ (D : Nat) (W : World), w.heap.size ≤ D → G W → W.heap[D]? = some (.deferred (some [])) → Exit.inBlock id Q .ret { tmps := a.tmps, defers := { target := .collected D, args := #[] } :: a.defers } W) :
    (Code.rangeFunc g ps assign body).wp P (Exit.inBlock id Q) a w := by
  obtain ⟨a₁, ha, hbd⟩ := h
  refine wpIn_wide.1 (wpIn_rangeFunc_ownG (F := Fence.wide) (n := n) rfl h1 hg trivial eg hseq (fun h k => hKt h k) hKb hb0 hps I Ix hI hIx h0 a₁ ha hbd (fun D xs W hD hs hi hk => hQ D W hD (hdone xs W hs hi) hk) (fun D c pre W hD hs hi hk => ?_))
  rcases hstop c pre W hs hi with ⟨rfl, hF⟩ | ⟨rfl, hG⟩
  · exact wpIn_wide.2 (wp_exit (by show (if id = id then _ else _); rw [if_pos rfl]; exact hQ D W hD hF hk))
  · exact wpIn_wide.2 (wp_ret (hQ2 D W hD hG hk))
theorem KeepsFrom.of_mod {S : Nat → Prop} {B : Nat} {w w' : World} (h : Mod S w w') (hs : ∀ k, B ≤ k → k < w.heap.size → ¬ S k) : KeepsFrom B w w' :=
  ⟨h.size, fun k o hB hk _ => by
    have hlt := (Array.getElem?_eq_some_iff.1 hk).1
    exact (h.block k hlt (hs k hB hlt)).trans hk⟩
/-- what stays over a growth that touches no cells -/
theorem mod_of_grown_own {S : Nat → Prop} {w A B : World} {row : Option Nat} {lo : Nat} (h : Mod S w A) (hg : A.grownBy B row) (hr : ∀ r, row = some r → lo ≤ r ∧ ∃ o : Obj, A.heap[r]? = some o ∧ o.isCells = false) (hlo : w.heap.size ≤ lo) : Mod S w B :=
  h.trans' (Mod.of_grown hg) fun k hk e => by have := (hr k e.symm).1; omega
theorem blk_of_grown_own {A B : World} {row : Option Nat} {lo g : Nat} {t : TypeId} {cs : Array Value} (h : Blk A g t cs) (hg : A.grownBy B row) (hr : ∀ r, row = some r → lo ≤ r ∧ ∃ o : Obj, A.heap[r]? = some o ∧ o.isCells = false) (hlo : g < lo) : Blk B g t cs :=
  h.mod (Mod.of_grown hg) fun e => by have := (hr g e.symm).1; omega

/-! ### A region that draws and only reads, in a round -/
section
variable {P : Program} {ops : Array Oper} {w : World} {l n : Nat}
def noDefer (ops : List Oper) : Bool := ops.all fun o => match o.op with | .defer _ => false | _ => true
theorem noDefer_spec {os : List Oper} (h : noDefer os = true) {i : Nat} {o : Oper} (ho : os.toArray[i]? = some o) : ∀ c, o.op ≠ .defer c := fun c e => by
  have hm : o ∈ os := List.mem_of_getElem? (by simpa using ho)
  have := List.all_eq_true.1 h o hm
  rw [e] at this
  cases this
theorem wpIn_of_still {o : Oper} {a : Act} {K : Act → Prop} {K' : Act → World → Prop} {Q' : Exit → Act → World → Prop} (hd : ∀ c, o.op ≠ .defer c) (h : ∀ a, K a → K' a w) (hh : o.still P a w K) : o.wpIn (Fence.wide.inRound l) n P a w K' Q' := by
  refine ⟨fun f _ => trivial, ?_⟩
  rw [Oper.semAt_plain (Fence.wide.inRound l) _ _ hd]
  unfold Oper.still at hh
  generalize (execOp a.eval o).run P w = r at *
  cases r with
  | ok x w' =>
    cases x <;> simp only [Oper.stillUpon] at hh <;> simp only [Oper.uponIn]
    case enter f args =>
      obtain ⟨rfl, v, hc, hn⟩ := hh
      refine ⟨fun e => (by cases e), CallsIn.inRound l (callsIn_wide.2 (hc.mono fun e w'' ⟨he, hw⟩ => ?_))⟩
      subst he
      subst hw
      exact h _ hn
    all_goals (obtain ⟨rfl, h2⟩ := hh; exact h _ h2)
  | halt x w' => simp only [Oper.stillUpon] at hh
theorem wpOpIn_of_stOp {os : List Oper} (hnd : noDefer os = true) {i : Nat} {a : Act} {K : Act → Prop} {K' : Act → World → Prop} {Q' : Exit → Act → World → Prop} (h : ∀ a, K a → K' a w) (hh : stOp P os.toArray w i K a) : wpOpIn (Fence.wide.inRound l) n P os.toArray Q' i K' a w := by
  unfold stOp at hh
  unfold wpOpIn
  split
  · rename_i ho; simp only [ho] at hh; exact h _ hh
  · rename_i o ho
    simp only [ho] at hh
    split
    · rename_i hw; simp only [hw, if_true] at hh; exact wpIn_of_still (noDefer_spec hnd ho) h hh
    · rename_i hw; simp only [hw] at hh; exact ⟨fun f _ => trivial, h _ hh⟩
theorem wpAnyIn_of_still {os : List Oper} (hnd : noDefer os = true) {Q : Act → Prop} {Q' : Exit → Act → World → Prop} (hQ : ∀ a, Q a → Q' .normal a w) : ∀ (fuel : Nat) (listed : Array Bool) (a : Act),
    wpAnyS P .any os.toArray w Q fuel listed a → wpAnyIn (Fence.wide.inRound l) n P .any os.toArray Q' fuel listed a w
  | 0, _, _, h => ⟨h.1, hQ _ h.2⟩
  | fuel + 1, _, _, h => ⟨fun h0 => hQ _ (h.1 h0), fun i hi => wpOpIn_of_stOp hnd (fun a' => wpAnyIn_of_still hnd hQ fuel _ a') (h.2 i hi)⟩
theorem region_stw_in {id : Nat} {Q : Exit → Act → World → Prop} {a : Act} {os : List Oper} (hm : P.follows .mixedOrders = true) (hB : Region.lexB .any os.toArray = true) (hnd : noDefer os = true)
    (h : ∀ w', w' = w.drew → StW P os.toArray w' (fun a' => Q .normal a' w') os a) : (Code.region id os.toArray true).wpIn (Fence.wide.inRound l) n P Q a w := by
  simp only [Region.lexB, Bool.and_eq_true] at hB
  refine wpIn_region_any hm (wpAnyIn_of_still hnd (Q := fun a' => Q .normal a' w.drew) (fun _ h => h) _ _ _ ?_)
  have := wpAnyS_lex (P := P) (md := .any) (w := w.drew) hB.1 os 0 (Array.replicate os.toArray.size false) a (by simp) (by simpa using hB.2) (h _ rfl).out
  simpa using this
end
end Go.Proofs.Ytabebkffcmajkaa
