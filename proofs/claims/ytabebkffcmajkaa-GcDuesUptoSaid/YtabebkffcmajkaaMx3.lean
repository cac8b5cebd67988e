import Derived.Test.YtabebkffcmajkaaSt
/-! A region that draws, whose last operation T writes what the quiet ones have read: as Mx, but T need not keep I (every other operation waits to be listed before T). No program in it. -/
namespace Go.Proofs.Ytabebkffcmajkaa
open Go.RowKit Go.Maps

section
variable {P : Program} {ops : Array Oper} {md : Region.Mode} {I : World → Prop} {T : Nat}
def wpAnyT (P : Program) (md : Region.Mode) (ops : Array Oper) (I : World → Prop) (T : Nat) (Q : Act → World → Prop) : Nat → Array Bool → Act → World → Prop
  | 0, listed, a, w => Region.ready md ops listed = [] ∧ Q a w
  | fuel + 1, listed, a, w =>
    (Region.ready md ops listed = [] → Q a w) ∧
    ∀ i ∈ Region.ready md ops listed, lOp P ops (fun w' => i ≠ T → I w') i (wpAnyT P md ops I T Q fuel (listed.setIfInBounds i true)) a w
theorem wpAny_of_T {Q : Act → World → Prop} {Q' : Exit → Act → World → Prop} (hQ : ∀ a w, Q a w → Q' .normal a w) : ∀ (fuel : Nat) (listed : Array Bool) (a : Act) (w : World),
    wpAnyT P md ops I T Q fuel listed a w → wpAny P md ops Q' fuel listed a w
  | 0, _, _, _, h => ⟨h.1, hQ _ _ h.2⟩
  | fuel + 1, _, _, _, h => ⟨fun h0 => hQ _ _ (h.1 h0), fun i hi => wpOp_of_lOp (fun a' w' => wpAny_of_T hQ fuel _ a' w') (h.2 i hi)⟩

theorem lOp_weak {J : World → Prop} {i : Nat} {K : Act → World → Prop} {a : Act} {w : World} (hJ : ∀ w, I w → J w) (h : lOp P ops I i K a w) : lOp P ops J i K a w := by
  unfold lOp at *
  split
  · rename_i ho; simp only [ho] at h; exact ⟨hJ _ h.1, h.2⟩
  · rename_i o ho
    simp only [ho] at h
    split
    · rename_i hw
      simp only [hw, if_true] at h
      unfold loud at *
      generalize (execOp a.eval o).run P w = r at *
      cases r with
      | ok n w' =>
        cases n <;> simp only [loudUpon] at h ⊢
        case enter f args => exact h.mono fun e w'' ⟨v, he, hi, hn⟩ => ⟨v, he, hJ _ hi, hn⟩
        all_goals exact ⟨hJ _ h.1, h.2⟩
      | halt x w' => simp only [loudUpon] at h
    · rename_i hw; simp only [hw] at h; exact ⟨hJ _ h.1, h.2⟩

theorem wpAnyT_first {Q : Act → World → Prop} {i : Nat} {oi : Oper} {v : Value} (hi : ops[i]? = some oi) (hsel : ∀ (j : Nat) (o : Oper) cs b, ops[j]? = some o → o.op ≠ .select cs b)
    (hs : Region.sinkB md ops T = true) (hc : Region.chainB md ops T = true) (hT : T + 1 = ops.size) (hiT : i < T) :
    ∀ (fuel : Nat) (listed : Array Bool) (a : Act) (w : World), I w → HeadInv md ops T listed →
      (∀ j oj, ops[j]? = some oj → j ≠ i → listed.getD j true = false → (∀ e ∈ oj.after, Region.binds md e = true → e.on ≠ i) → oi.apart ops oj = true) →
      i ∈ Region.ready md ops listed → Always P ops I oi v a →
      wpAnyT P md ops I T Q fuel (listed.setIfInBounds i true) (a.put oi.dst v) w → wpAnyT P md ops I T Q (fuel + 1) listed a w := by
  intro fuel
  induction fuel with
  | zero =>
    intro listed a w hw inv _ hr hy H
    refine ⟨fun h => (by rw [h] at hr; cases hr), fun j hj => ?_⟩
    by_cases hji : j = i
    · subst hji; exact lOp_weak (fun _ h _ => h) (hy.lOp hi hw H)
    · have := ready_mono hj hji
      rw [H.1] at this
      cases this
  | succ fuel ih =>
    intro listed a w hw inv hfree hr hy H
    refine ⟨fun h => (by rw [h] at hr; cases hr), fun j hj => ?_⟩
    by_cases hji : j = i
    · subst hji; exact lOp_weak (fun _ h _ => h) (hy.lOp hi hw H)
    · have h1 := H.2 j (ready_mono hj hji)
      obtain ⟨hjun, oj, hoj, hall⟩ := mem_ready.1 hj
      have hjlt : j < ops.size := (Array.getElem?_eq_some_iff.1 hoj).1
      have hjT : j ≠ T := fun e => tail_waits hs hc (by omega) inv (T - i) i rfl hiT (mem_ready.1 hr).1 j (by omega) hj
      have hnot : ∀ e ∈ oj.after, Region.binds md e = true → e.on ≠ i := fun e he hb heq => by
        have h1 := hall e he hb
        have h0 := (mem_ready.1 hr).1
        rw [heq] at h1
        rcases Nat.lt_or_ge i listed.size with h' | h'
        · simp [h'] at h0 h1; rw [h0] at h1; cases h1
        · simp [Array.getElem?_eq_none h'] at h1
      have h1' : lOp P ops I j (wpAnyT P md ops I T Q fuel ((listed.setIfInBounds i true).setIfInBounds j true)) (a.put oi.dst v) w := lOp_weak (fun _ h => h hjT) h1
      have h2 := lOp_put hoj (hfree j oj hoj hji hjun hnot) (fun cs b => hsel i oi cs b hi) (fun cs b => hsel j oj cs b hoj) hy h1'
      have hfree' : ∀ k ok, ops[k]? = some ok → k ≠ i → (listed.setIfInBounds j true).getD k true = false →
          (∀ e ∈ ok.after, Region.binds md e = true → e.on ≠ i) → oi.apart ops ok = true := fun k ok hk hki hun hno => by
        refine hfree k ok hk hki ?_ hno
        by_cases hjk : j = k
        · subst hjk; exact hjun
        · rw [getD_set_ne true hjk] at hun; exact hun
      refine lOp_weak (I := I) (fun _ h _ => h) (lOp_mono (fun a' w' hw' h3 => ih (listed.setIfInBounds j true) a' w' hw' (inv.set hj (by omega)) hfree' (ready_mono hr (Ne.symm hji)) h3.1 ?_) h2)
      rw [Array.setIfInBounds_comm _ _ hji]
      exact h3.2

def wpMixT (P : Program) (ops : Array Oper) (I : World → Prop) (T : Nat) (Q : Act → World → Prop) : List (Bool × Nat) → Act → World → Prop
  | [], a, w => Q a w
  | (true, k) :: l, a, w => ∃ o v, ops[k]? = some o ∧ Always P ops I o v a ∧ wpMixT P ops I T Q l (a.put o.dst v) w
  | (false, k) :: l, a, w => lOp P ops (fun w' => k ≠ T → I w') k (wpMixT P ops I T Q l) a w
def mixTB (md : Region.Mode) (ops : Array Oper) (T : Nat) : List (Bool × Nat) → Array Bool → Bool
  | [], listed => (Region.ready md ops listed).isEmpty
  | (true, k) :: l, listed => (Region.ready md ops listed).contains k && Region.free md ops listed k && decide (k < T) && mixTB md ops T l (listed.setIfInBounds k true)
  | (false, k) :: l, listed => decide (Region.ready md ops listed = [k]) && (decide (k < T) || l.isEmpty) && mixTB md ops T l (listed.setIfInBounds k true)
theorem wpAnyT_mix {Q : Act → World → Prop} (hsl : Region.noSelect ops = true) (hs : Region.sinkB md ops T = true) (hc : Region.chainB md ops T = true) (hT : T + 1 = ops.size) :
    ∀ (l : List (Bool × Nat)) (listed : Array Bool) (a : Act) (w : World), (l ≠ [] → I w) → (l ≠ [] → HeadInv md ops T listed) → mixTB md ops T l listed = true → wpMixT P ops I T Q l a w →
    wpAnyT P md ops I T Q l.length listed a w
  | [], _, _, _, _, _, hB, h => ⟨by simpa [mixTB] using hB, h⟩
  | (true, k) :: l, listed, a, w, hw, inv, hB, ⟨o, v, ho, hy, h⟩ => by
    simp only [mixTB, Bool.and_eq_true, decide_eq_true_eq] at hB
    have hr : k ∈ Region.ready md ops listed := by simpa using hB.1.1.1
    have inv' := inv (by simp)
    exact wpAnyT_first ho (Region.noSelect_spec hsl) hs hc hT hB.1.2 l.length listed a w (hw (by simp)) inv' (Region.free_spec ho hB.1.1.2) hr hy
      (wpAnyT_mix hsl hs hc hT l _ _ _ (fun _ => hw (by simp)) (fun _ => inv'.set hr hB.1.2) hB.2 h)
  | (false, k) :: l, listed, a, w, hw, inv, hB, h => by
    simp only [mixTB, Bool.and_eq_true, decide_eq_true_eq, Bool.or_eq_true] at hB
    refine ⟨fun h1 => (by rw [hB.1.1] at h1; cases h1), fun i hi => ?_⟩
    have hi2 := hi
    rw [hB.1.1] at hi
    have hik : i = k := by simpa using hi
    subst hik
    rcases hB.1.2 with hk | hl
    · exact lOp_mono (fun a' w' hw' h' => wpAnyT_mix hsl hs hc hT l _ a' w' (fun _ => hw' (by omega)) (fun _ => (inv (by simp)).set hi2 hk) hB.2 h') h
    · have hl' : l = [] := by simpa using hl
      exact lOp_mono (fun a' w' hw' h' => wpAnyT_mix hsl hs hc hT l _ a' w' (fun e => absurd hl' e) (fun e => absurd hl' e) hB.2 h') h
def mixTOk (md : Region.Mode) (ops : Array Oper) (T : Nat) (l : List (Bool × Nat)) : Bool :=
  Region.noSelect ops && decide (l.length = ops.size) && Region.sinkB md ops T && Region.chainB md ops T && decide (T + 1 = ops.size) && mixTB md ops T l (Array.replicate ops.size false)
theorem headInv_start : HeadInv md ops T (Array.replicate ops.size false) :=
  ⟨by simp, (fun j oj hj hl => by rw [getD_replicate_false] at hl; cases hl), fun t _ ht => by simp [ht]⟩

structure TxW (P : Program) (ops : Array Oper) (I : World → Prop) (T : Nat) (Q : Act → World → Prop) (l : List (Bool × Nat)) (a : Act) (w : World) : Prop where
  out : wpMixT P ops I T Q l a w
theorem region_txw {id : Nat} {Q : Exit → Act → World → Prop} {a : Act} {w : World} {l : List Oper} (T : Nat) (σ : List (Bool × Nat)) (I : World → Prop) (hm : P.follows .mixedOrders = true) (hB : mixTOk .any l.toArray T σ = true)
    (h : ∀ w', w' = w.drew → I w' ∧ TxW P l.toArray I T (fun a' w' => Q .normal a' w') σ a w') : (Code.region id l.toArray true).wp P Q a w := by
  simp only [mixTOk, Bool.and_eq_true, decide_eq_true_eq] at hB
  obtain ⟨⟨⟨⟨⟨h1, h2⟩, h3⟩, h4⟩, h5⟩, h6⟩ := hB
  obtain ⟨hI, hx⟩ := h _ rfl
  refine wp_region_any hm (wpAny_of_T (I := I) (T := T) (Q := fun a' w' => Q .normal a' w') (fun _ _ h => h) _ _ _ _ ?_)
  have := wpAnyT_mix (md := .any) h1 h3 h4 h5 σ _ a _ (fun _ => hI) (fun _ => headInv_start) h6 hx.out
  rw [h2] at this
  exact this
theorem txw_quiet {Q : Act → World → Prop} {k : Nat} {o : Oper} {os : List Oper} {l : List (Bool × Nat)} {a : Act} {w : World} {v : Value} (ho : os[k]? = some o)
    (h : ∀ w', I w' → ∀ K : Value → Prop, K v → if Region.wanted o (yielded os.toArray a.tmps) then quietV P a w' o K ((execOp a.eval o).run P w') else K undef)
    (hn : TxW P os.toArray I T Q l (a.put o.dst v) w) : TxW P os.toArray I T Q ((true, k) :: l) a w := by
  obtain ⟨o', v', h1, h2, h3⟩ := mix_quiet (l := []) (Q := fun a' _ => a' = a.put o.dst v) (w := w) ho h rfl
  refine ⟨⟨o', v', h1, h2, ?_⟩⟩
  have h3 : a.put o'.dst v' = a.put o.dst v := h3
  rw [h3]
  exact hn.out
theorem txw_loud {Q : Act → World → Prop} {k : Nat} {o : Oper} {os : List Oper} {l : List (Bool × Nat)} {a : Act} {w : World} (ho : os[k]? = some o)
    (h : ∀ K : Act → World → Prop, (∀ a w, TxW P os.toArray I T Q l a w → K a w) → if Region.wanted o (yielded os.toArray a.tmps) then loudUpon P o a (fun w' => k ≠ T → I w') K ((execOp a.eval o).run P w) else (k ≠ T → I w) ∧ K (a.put o.dst undef) w) : TxW P os.toArray I T Q ((false, k) :: l) a w := by
  have h1 := h _ (fun _ _ h => h.out)
  have ho' : os.toArray[k]? = some o := by simpa using ho
  refine ⟨?_⟩
  unfold wpMixT lOp loud
  rw [ho']
  exact h1
theorem txw_nil {Q : Act → World → Prop} {a : Act} {w : World} (h : Q a w) : TxW P ops I T Q [] a w := ⟨h⟩
end
end Go.Proofs.Ytabebkffcmajkaa
