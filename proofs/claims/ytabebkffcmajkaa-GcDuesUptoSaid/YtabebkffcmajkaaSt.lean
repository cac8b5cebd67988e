import Derived.Test.YtabebkffcmajkaaMx
/-! Regions that draw, walked behind structures: Lean's own look at a goal then does not unfold a guarded operation (which takes minutes where a frame is wide). No program in it. -/
namespace Go.Proofs.Ytabebkffcmajkaa
open Go.RowKit Go.Maps

section
variable {P : Program} {ops : Array Oper} {w : World} {K : Act → Prop}
structure StW (P : Program) (ops : Array Oper) (w : World) (K : Act → Prop) (l : List Oper) (a : Act) : Prop where
  out : wpStill P ops w K l a
theorem stw_step {o : Oper} {rest : List Oper} {a : Act} (h : ∀ K' : Act → Prop, (∀ a, StW P ops w K rest a → K' a) → if Region.wanted o (yielded ops a.tmps) then o.still P a w K' else K' (a.put o.dst undef)) : StW P ops w K (o :: rest) a :=
  ⟨wpStill_step fun K' hK => h K' fun a ha => hK a ha.out⟩
theorem stw_val {o : Oper} {rest : List Oper} {a : Act} {v : Value} (hg : o.guard = none) (hr : (execOp a.eval o).run P w = .ok (.value v) w) (h : StW P ops w K rest (a.put o.dst v)) : StW P ops w K (o :: rest) a :=
  ⟨still_val hg hr h.out⟩
theorem stw_nil {a : Act} (h : K a) : StW P ops w K [] a := ⟨wpStill_nil h⟩
theorem region_stw {id : Nat} {Q : Exit → Act → World → Prop} {a : Act} {l : List Oper} (hm : P.follows .mixedOrders = true) (hB : Region.lexB .any l.toArray = true)
    (h : ∀ w', w' = w.drew → StW P l.toArray w' (fun a' => Q .normal a' w') l a) : (Code.region id l.toArray true).wp P Q a w :=
  region_still hm hB fun w' hw' => (h w' hw').out
theorem region_stw_tail {id : Nat} {Q : Exit → Act → World → Prop} {a : Act} {l : List Oper} (n : Nat) (hm : P.follows .mixedOrders = true) (hB : Region.lexTailB .any l.toArray n = true)
    (h : ∀ w', w' = w.drew → StW P l.toArray w' (fun a' => wpList P l.toArray Q (l.drop n) a' w') (l.take n) a) : (Code.region id l.toArray true).wp P Q a w :=
  region_tail n hm hB fun w' hw' => (h w' hw').out
end

section
variable {P : Program} {I : World → Prop}
structure MxW (P : Program) (ops : Array Oper) (I : World → Prop) (Q : Act → World → Prop) (l : List (Bool × Nat)) (a : Act) (w : World) : Prop where
  out : wpMix P ops I Q l a w
theorem mxw_quiet {Q : Act → World → Prop} {k : Nat} {o : Oper} {os : List Oper} {l : List (Bool × Nat)} {a : Act} {w : World} {v : Value} (ho : os[k]? = some o)
    (h : ∀ w', I w' → ∀ K : Value → Prop, K v → if Region.wanted o (yielded os.toArray a.tmps) then quietV P a w' o K ((execOp a.eval o).run P w') else K undef)
    (hn : MxW P os.toArray I Q l (a.put o.dst v) w) : MxW P os.toArray I Q ((true, k) :: l) a w := ⟨mix_quiet ho h hn.out⟩
theorem mxw_loud {Q : Act → World → Prop} {k : Nat} {o : Oper} {os : List Oper} {l : List (Bool × Nat)} {a : Act} {w : World} (ho : os[k]? = some o)
    (h : ∀ K : Act → World → Prop, (∀ a w, MxW P os.toArray I Q l a w → K a w) → if Region.wanted o (yielded os.toArray a.tmps) then loudUpon P o a I K ((execOp a.eval o).run P w) else I w ∧ K (a.put o.dst undef) w) : MxW P os.toArray I Q ((false, k) :: l) a w :=
  ⟨mix_loud ho fun K hK => h K fun a w hm => hK a w hm.out⟩
theorem mxw_val {Q : Act → World → Prop} {k : Nat} {o : Oper} {os : List Oper} {l : List (Bool × Nat)} {a : Act} {w w' : World} {v : Value} (ho : os[k]? = some o) (hg : o.guard = none)
    (hr : (execOp a.eval o).run P w = .ok (.value v) w') (hI : I w') (h : MxW P os.toArray I Q l (a.put o.dst v) w') : MxW P os.toArray I Q ((false, k) :: l) a w :=
  mxw_loud ho fun K hK => by
    rw [if_pos (by simp [Region.wanted, hg]), hr]
    exact ⟨hI, hK _ _ h⟩
theorem mxw_nil {ops : Array Oper} {Q : Act → World → Prop} {a : Act} {w : World} (h : Q a w) : MxW P ops I Q [] a w := ⟨mix_nil h⟩
theorem region_mxw {id : Nat} {Q : Exit → Act → World → Prop} {a : Act} {w : World} {l : List Oper} (σ : List (Bool × Nat)) (I : World → Prop) (hm : P.follows .mixedOrders = true) (hB : Region.mixOk .any l.toArray σ = true)
    (h : ∀ w', w' = w.drew → I w' ∧ MxW P l.toArray I (fun a' w' => Q .normal a' w') σ a w') : (Code.region id l.toArray true).wp P Q a w :=
  region_mix σ I hm hB fun w' hw' => ⟨(h w' hw').1, (h w' hw').2.out⟩
end
end Go.Proofs.Ytabebkffcmajkaa
