import Derived.Test.YtmamdacmpikdbaaA2
/-! A function that ranges over All, walked as any other: the marks' form of its end. -/
namespace Go.Proofs.Ytmamdacmpikdbaa
open Go.RowKit Go.Maps Go.Shelf

/-- the contract from the body, walked in the usual form -/
theorem calls_of_wp_marks (n : Nat) {P : Program} {f : FuncId} {fn : Func} {c : Code} {args : Array Value} {w : World} {R : Ending → World → Prop} (hf : P.funcs[f]? = some fn) (hb : fn.body = some c)
    (h : c.wp P (bodyPostM Fence.wide n P fn R) { tmps := args ++ Array.replicate (fn.ntmps - args.size) undef, defers := [] } w) : Calls P f args w R :=
  (callsIn_wide (n := n)).1 (callsIn_of_wp_marks hf hb trivial (wpIn_wide.2 h) rfl)

/-- a range over an iterator that has its contract, walked in the usual form: F is what holds behind it, however it was left (at its end, or by the exit id) -/
theorem wp_range_mid {α : Type} {P : Program} {g : Operand} {ps : Array Tmp} {assign body : Code} {Q : Exit → Act → World → Prop} {a : Act} {w : World} (n : Nat) (h1 : 1 ≤ n) {gf : Nat} {lb : Array Value}
    (hg : a.eval g = .func (.func gf) #[] lb) (eg : ∀ args w, (callFunc gf args).run P w = .ok (.enter gf args) w) {encs : α → Array Value} {Kp : World → World → Prop} {S Sp : List α → Prop} {N : Nat} {w0 : World}
    (hseq : SeqStopsK Fence.wide (n - 1) P gf lb encs Kp S Sp N w0) (hKt : ∀ {A B C : World}, Kp A B → Kp B C → Kp A C)
    (hKb : ∀ (W : World) (l : Nat) (o o' : Obj), w.heap.size ≤ l → W.heap[l]? = some o → o.isCells = false → o.isWalk = false → Kp W (W.putObj l o')) (hb0 : Below w0.heap.size w0 w) (hps : ∀ x, (encs x).size = ps.size)
    (I : List α → World → Prop) (Ix : Code → List α → World → Prop) (id : Nat) (F : World → Prop) (hI : OwnFrom w.heap.size I) (hIx : ∀ c, OwnFrom w.heap.size (Ix c)) (h0 : I [] w)
    (hdone : ∀ xs W, S xs → I xs W → F W) (hstop : ∀ c pre W, Sp pre → Ix c pre W → c = .exit id ∧ F W)
    (h : ∃ a₁ : α → Act, (∀ (l : Nat) (x : α) (W : World) (K : Act → World → Prop), K (a₁ x) W → assign.wpIn (Fence.wide.inRound l) (n - 1 - 1) P (Exit.then K (fun _ _ _ => False)) { tmps := (ps.zip (encs x)).foldl (fun t (p, v) => t.setIfInBounds p v) a.tmps, defers := [] } W) ∧
      ∀ (l : Nat) (pre : List α) (x : α) (W : World), I pre W → pre.length < N → body.wpIn (Fence.wide.inRound l) (n - 1 - 1) P (ownPostG w.heap.size Kp I Ix (pre ++ [x]) W) (a₁ x) W)
    (hQ : ∀ (D : Nat) (W : World), w.heap.size ≤ D → F W → W.heap[D]? = some (.deferred (some [])) → Q .normal { tmps := a.tmps, defers := { target := .collected D, args := #[] } :: a.defers } W) :
    (Code.rangeFunc g ps assign body).wp P (Exit.inBlock id Q) a w := by
  obtain ⟨a₁, ha, hbd⟩ := h
  refine wpIn_wide.1 (wpIn_rangeFunc_ownG (F := Fence.wide) (n := n) rfl h1 hg trivial eg hseq (fun h k => hKt h k) hKb hb0 hps I Ix hI hIx h0 a₁ ha hbd (fun D xs W hD hs hi hk => hQ D W hD (hdone xs W hs hi) hk) (fun D c pre W hD hs hi hk => ?_))
  obtain ⟨rfl, hF⟩ := hstop c pre W hs hi
  exact wpIn_wide.2 (wp_exit (by show (if id = id then _ else _); rw [if_pos rfl]; exact hQ D W hD hF hk))
theorem KeepsFrom.of_mod {S : Nat → Prop} {B : Nat} {w w' : World} (h : Mod S w w') (hs : ∀ k, B ≤ k → k < w.heap.size → ¬ S k) : KeepsFrom B w w' :=
  ⟨h.size, fun k o hB hk _ => by
    have hlt := (Array.getElem?_eq_some_iff.1 hk).1
    exact (h.block k hlt (hs k hB hlt)).trans hk⟩
theorem KpR.keep {w : World} : ∀ W0 W1 W' g j v, Below w.heap.size w W0 → Mod None_ W0 W1 → W0.heap.size ≤ g → KpR w.heap.size W1 W' → W1.cell? ⟨g, j, none⟩ = some v → W'.cell? ⟨g, j, none⟩ = some v :=
  fun _ _ _ _ _ _ hb _ hg hk hc => hk.cell (Nat.le_trans hb.size hg) hc
/-- the iterator of All, with bodies that leave all cells from the loop's start on -/
theorem all_stopsR (n : Nat) (hn : 1 ≤ n) (w : World) (b : Nat) (R : List Row) (d : Int) (bx bd : Nat) (hlen : R.length ≤ 5000000000000) (hd : (Lit.int .i64 d).wf = true) (hI : IndexAt w b R)
    (cx : w.cell? ⟨bx, 0, none⟩ = some (.pointer (some ⟨b + 3, 0, none⟩))) (cd : w.cell? ⟨bd, 0, none⟩ = some (.int .i64 d)) (hbx : bx < w.heap.size) (hbd : bd < w.heap.size) :
    SeqStopsK Fence.wide n Try.prog 42 #[.pointer (some ⟨bx, 0, none⟩), .pointer (some ⟨bd, 0, none⟩)] (fun p : ByteArray × Int => #[.string p.1, .int .i64 p.2]) (KpR w.heap.size)
      (fun xs => xs = listPairs R d) (fun pre => pre <+: listPairs R d) (listPairs R d).length w :=
  all_stops n hn w (KpR w.heap.size) (fun U _ => KpR.refl _ U) (fun h k => h.trans k) (fun U o _ => Mod.kpR ((Mod.refl None_ U).alloc o) (fun _ _ _ f => f)) KpR.keep (fun h => h.size) b R d bx bd hlen hd hI cx cd hbx hbd
/-- what stays over a growth that touches no cells -/
theorem mod_of_grown_own {S : Nat → Prop} {w A B : World} {row : Option Nat} {lo : Nat} (h : Mod S w A) (hg : A.grownBy B row) (hr : ∀ r, row = some r → lo ≤ r ∧ ∃ o : Obj, A.heap[r]? = some o ∧ o.isCells = false) (hlo : w.heap.size ≤ lo) : Mod S w B :=
  h.trans' (Mod.of_grown hg) fun k hk e => by have := (hr k e.symm).1; omega
theorem blk_of_grown_own {A B : World} {row : Option Nat} {lo g : Nat} {t : TypeId} {cs : Array Value} (h : Blk A g t cs) (hg : A.grownBy B row) (hr : ∀ r, row = some r → lo ≤ r ∧ ∃ o : Obj, A.heap[r]? = some o ∧ o.isCells = false) (hlo : g < lo) : Blk B g t cs :=
  h.mod (Mod.of_grown hg) fun e => by have := (hr g e.symm).1; omega
end Go.Proofs.Ytmamdacmpikdbaa
