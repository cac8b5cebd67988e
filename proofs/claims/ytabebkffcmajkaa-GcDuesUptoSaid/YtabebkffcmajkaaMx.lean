import Derived.Test.YtabebkffcmajkaaH
/-! A region that draws its order, whose calls make new memory: no program in it. The operations that only read (the quiet ones) yield the same in every world within I; the others keep I, and are in an order among themselves. Then ONE walk serves: each quiet operation as soon as it is ready, each other one when nothing else is ready. -/
namespace Go.Proofs.Ytabebkffcmajkaa
open Go.RowKit Go.Maps

section
variable {P : Program} {ops : Array Oper} {md : Region.Mode} {I : World → Prop}

def loudUpon (P : Program) (o : Oper) (a : Act) (I : World → Prop) (next : Act → World → Prop) : Result Next → Prop
  | .ok (.value v) w' => I w' ∧ next (a.put o.dst v) w'
  | .ok .skip w' => I w' ∧ next (a.put o.dst undef) w'
  | .ok (.enter f args) w' => Calls P f args w' fun e w'' => ∃ v, e = .returned v ∧ I w'' ∧ next (a.put o.dst v) w''
  | _ => False
def loud (P : Program) (o : Oper) (a : Act) (w : World) (I : World → Prop) (next : Act → World → Prop) : Prop := loudUpon P o a I next ((execOp a.eval o).run P w)

def lOp (P : Program) (ops : Array Oper) (I : World → Prop) (i : Nat) (K : Act → World → Prop) (a : Act) (w : World) : Prop :=
  match ops[i]? with
  | none => I w ∧ K a w
  | some o => if Region.wanted o (yielded ops a.tmps) then loud P o a w I K else I w ∧ K (a.put o.dst undef) w

theorem loud_mono {o : Oper} {a : Act} {w : World} {K K' : Act → World → Prop} (h : ∀ a w, I w → K a w → K' a w) (hh : loud P o a w I K) : loud P o a w I K' := by
  unfold loud at *
  generalize (execOp a.eval o).run P w = r at *
  cases r with
  | ok n w' =>
    cases n <;> simp only [loudUpon] at hh ⊢
    case enter f args => exact hh.mono fun e w'' ⟨v, he, hi, hn⟩ => ⟨v, he, hi, h _ _ hi hn⟩
    all_goals exact ⟨hh.1, h _ _ hh.1 hh.2⟩
  | halt x w' => simp only [loudUpon] at hh
theorem lOp_mono {i : Nat} {a : Act} {w : World} {K K' : Act → World → Prop} (h : ∀ a w, I w → K a w → K' a w) (hh : lOp P ops I i K a w) : lOp P ops I i K' a w := by
  unfold lOp at *
  split
  · rename_i ho; simp only [ho] at hh; exact ⟨hh.1, h _ _ hh.1 hh.2⟩
  · rename_i o ho
    simp only [ho] at hh
    split
    · rename_i hw; simp only [hw, if_true] at hh; exact loud_mono h hh
    · rename_i hw; simp only [hw] at hh; exact ⟨hh.1, h _ _ hh.1 hh.2⟩

def wpAnyI (P : Program) (md : Region.Mode) (ops : Array Oper) (I : World → Prop) (Q : Act → World → Prop) : Nat → Array Bool → Act → World → Prop
  | 0, listed, a, w => Region.ready md ops listed = [] ∧ Q a w
  | fuel + 1, listed, a, w =>
    (Region.ready md ops listed = [] → Q a w) ∧
    ∀ i ∈ Region.ready md ops listed, lOp P ops I i (wpAnyI P md ops I Q fuel (listed.setIfInBounds i true)) a w

theorem wp_of_loud {o : Oper} {a : Act} {w : World} {K K' : Act → World → Prop} {Q' : Exit → Act → World → Prop} (h : ∀ a w, K a w → K' a w) (hh : loud P o a w I K) : o.wp P a w K' Q' := by
  unfold loud at hh
  unfold Oper.wp
  generalize (execOp a.eval o).run P w = r at *
  cases r with
  | ok n w' =>
    cases n <;> simp only [loudUpon] at hh <;> simp only [Oper.upon]
    case enter f args => exact hh.mono fun e w'' ⟨v, he, _, hn⟩ => by subst he; exact h _ _ hn
    all_goals exact h _ _ hh.2
  | halt x w' => simp only [loudUpon] at hh
theorem wpOp_of_lOp {i : Nat} {a : Act} {w : World} {K K' : Act → World → Prop} {Q' : Exit → Act → World → Prop} (h : ∀ a w, K a w → K' a w) (hh : lOp P ops I i K a w) : wpOp P ops Q' i K' a w := by
  unfold lOp at hh
  unfold wpOp
  split
  · rename_i ho; simp only [ho] at hh; exact h _ _ hh.2
  · rename_i o ho
    simp only [ho] at hh
    split
    · rename_i hw; simp only [hw, if_true] at hh; exact .inl (wp_of_loud h hh)
    · rename_i hw; simp only [hw] at hh; exact h _ _ hh.2
theorem wpAny_of_I {Q : Act → World → Prop} {Q' : Exit → Act → World → Prop} (hQ : ∀ a w, Q a w → Q' .normal a w) : ∀ (fuel : Nat) (listed : Array Bool) (a : Act) (w : World),
    wpAnyI P md ops I Q fuel listed a w → wpAny P md ops Q' fuel listed a w
  | 0, _, _, _, h => ⟨h.1, hQ _ _ h.2⟩
  | fuel + 1, _, _, _, h => ⟨fun h0 => hQ _ _ (h.1 h0), fun i hi => wpOp_of_lOp (fun a' w' => wpAny_of_I hQ fuel _ a' w') (h.2 i hi)⟩

/-- yields v in every world within I, which stays -/
def Always (P : Program) (ops : Array Oper) (I : World → Prop) (o : Oper) (v : Value) (a : Act) : Prop := ∀ w, I w → YieldsAt P ops w o v a
theorem Always.lOp {i : Nat} {o : Oper} {v : Value} {a : Act} {w : World} (hi : ops[i]? = some o) (hw0 : I w) (hy : Always P ops I o v a) {K : Act → World → Prop} (h : K (a.put o.dst v) w) : lOp P ops I i K a w := by
  unfold Go.Proofs.Ytabebkffcmajkaa.lOp
  simp only [hi]
  rcases hy w hw0 with ⟨hw, hv | ⟨hv, rfl⟩ | ⟨f, args, hv, hc⟩⟩ | ⟨hw, rfl⟩
  · simp only [hw, if_true, loud, hv, loudUpon]; exact ⟨hw0, h⟩
  · simp only [hw, if_true, loud, hv, loudUpon]; exact ⟨hw0, h⟩
  · simp only [hw, if_true, loud, hv, loudUpon]
    exact hc.mono fun e w'' ⟨he, hw''⟩ => by subst hw''; exact ⟨v, he, hw0, h⟩
  · simp only [hw, Bool.false_eq_true, if_false]; exact ⟨hw0, h⟩

theorem lOp_put {j : Nat} {oi oj : Oper} {v : Value} (hj : ops[j]? = some oj) (hap : oi.apart ops oj = true)
    (hsi : ∀ cs b, oi.op ≠ .select cs b) (hsj : ∀ cs b, oj.op ≠ .select cs b) {K : Act → World → Prop} {a : Act} {w : World}
    (hy : Always P ops I oi v a) (h : lOp P ops I j K (a.put oi.dst v) w) :
    lOp P ops I j (fun a' w' => Always P ops I oi v a' ∧ K (a'.put oi.dst v) w') a w := by
  obtain ⟨h1, h2, h3⟩ := Oper.apart_spec hap
  have keep : ∀ (a : Act), Always P ops I oi v a → ∀ u, Always P ops I oi v (a.put oj.dst u) := fun a hy u w hw =>
    (hy w hw).of_same (execOp_put oi hsi a oj.dst u h3) (wanted_put oi a oj.dst u h3)
  unfold lOp at *
  simp only [hj] at *
  rw [wanted_put oj a oi.dst v h1] at h
  split
  · rename_i hw
    simp only [hw, if_true] at h
    unfold loud at *
    rw [execOp_put oj hsj a oi.dst v h1] at h
    generalize (execOp a.eval oj).run P w = r at *
    cases r with
    | ok n w' =>
      cases n <;> simp only [loudUpon] at h ⊢
      case value u => exact ⟨h.1, keep a hy u, by rw [← Act.put_comm a v u h2]; exact h.2⟩
      case skip => exact ⟨h.1, keep a hy _, by rw [← Act.put_comm a v undef h2]; exact h.2⟩
      case enter f args => exact h.mono fun e w'' ⟨u, he, hi, hn⟩ => ⟨u, he, hi, keep a hy u, by rw [← Act.put_comm a v u h2]; exact hn⟩
    | halt x w' => simp only [loudUpon] at h
  · rename_i hw
    simp only [hw] at h
    exact ⟨h.1, keep a hy _, by rw [← Act.put_comm a v undef h2]; exact h.2⟩

theorem wpAnyI_first {Q : Act → World → Prop} {i : Nat} {oi : Oper} {v : Value} (hi : ops[i]? = some oi) (hsel : ∀ (j : Nat) (o : Oper) cs b, ops[j]? = some o → o.op ≠ .select cs b) :
    ∀ (fuel : Nat) (listed : Array Bool) (a : Act) (w : World), I w →
      (∀ j oj, ops[j]? = some oj → j ≠ i → listed.getD j true = false → (∀ e ∈ oj.after, Region.binds md e = true → e.on ≠ i) → oi.apart ops oj = true) →
      i ∈ Region.ready md ops listed → Always P ops I oi v a →
      wpAnyI P md ops I Q fuel (listed.setIfInBounds i true) (a.put oi.dst v) w → wpAnyI P md ops I Q (fuel + 1) listed a w := by
  intro fuel
  induction fuel with
  | zero =>
    intro listed a w hw _ hr hy H
    refine ⟨fun h => (by rw [h] at hr; cases hr), fun j hj => ?_⟩
    by_cases hji : j = i
    · subst hji; exact hy.lOp hi hw H
    · have := ready_mono hj hji
      rw [H.1] at this
      cases this
  | succ fuel ih =>
    intro listed a w hw hfree hr hy H
    refine ⟨fun h => (by rw [h] at hr; cases hr), fun j hj => ?_⟩
    by_cases hji : j = i
    · subst hji; exact hy.lOp hi hw H
    · have h1 := H.2 j (ready_mono hj hji)
      obtain ⟨hjun, oj, hoj, hall⟩ := mem_ready.1 hj
      have hnot : ∀ e ∈ oj.after, Region.binds md e = true → e.on ≠ i := fun e he hb heq => by
        have h1 := hall e he hb
        have h0 := (mem_ready.1 hr).1
        rw [heq] at h1
        rcases Nat.lt_or_ge i listed.size with h' | h'
        · simp [h'] at h0 h1; rw [h0] at h1; cases h1
        · simp [Array.getElem?_eq_none h'] at h1
      have h2 := lOp_put hoj (hfree j oj hoj hji hjun hnot) (fun cs b => hsel i oi cs b hi) (fun cs b => hsel j oj cs b hoj) hy h1
      have hfree' : ∀ k ok, ops[k]? = some ok → k ≠ i → (listed.setIfInBounds j true).getD k true = false →
          (∀ e ∈ ok.after, Region.binds md e = true → e.on ≠ i) → oi.apart ops ok = true := fun k ok hk hki hun hno => by
        refine hfree k ok hk hki ?_ hno
        by_cases hjk : j = k
        · subst hjk; exact hjun
        · rw [getD_set_ne true hjk] at hun; exact hun
      refine lOp_mono (fun a' w' hw' h3 => ih (listed.setIfInBounds j true) a' w' hw' hfree' (ready_mono hr (Ne.symm hji)) h3.1 ?_) h2
      rw [Array.setIfInBounds_comm _ _ hji]
      exact h3.2

/-- the walk in the order that σ gives: (true, k): operation k only reads; (false, k): it may make new memory -/
def wpMix (P : Program) (ops : Array Oper) (I : World → Prop) (Q : Act → World → Prop) : List (Bool × Nat) → Act → World → Prop
  | [], a, w => Q a w
  | (true, k) :: l, a, w => ∃ o v, ops[k]? = some o ∧ Always P ops I o v a ∧ wpMix P ops I Q l (a.put o.dst v) w
  | (false, k) :: l, a, w => lOp P ops I k (wpMix P ops I Q l) a w
/-- whether σ is such an order -/
def mixB (md : Region.Mode) (ops : Array Oper) : List (Bool × Nat) → Array Bool → Bool
  | [], listed => (Region.ready md ops listed).isEmpty
  | (true, k) :: l, listed => (Region.ready md ops listed).contains k && Region.free md ops listed k && mixB md ops l (listed.setIfInBounds k true)
  | (false, k) :: l, listed => decide (Region.ready md ops listed = [k]) && mixB md ops l (listed.setIfInBounds k true)
theorem wpAnyI_mix {Q : Act → World → Prop} (hs : Region.noSelect ops = true) : ∀ (l : List (Bool × Nat)) (listed : Array Bool) (a : Act) (w : World), I w → mixB md ops l listed = true → wpMix P ops I Q l a w →
    wpAnyI P md ops I Q l.length listed a w
  | [], _, _, _, _, hB, h => ⟨by simpa [mixB] using hB, h⟩
  | (true, k) :: l, listed, a, w, hw, hB, ⟨o, v, ho, hy, h⟩ => by
    simp only [mixB, Bool.and_eq_true] at hB
    exact wpAnyI_first ho (Region.noSelect_spec hs) l.length listed a w hw (Region.free_spec ho hB.1.2) (by simpa using hB.1.1) hy (wpAnyI_mix hs l _ _ _ hw hB.2 h)
  | (false, k) :: l, listed, a, w, hw, hB, h => by
    simp only [mixB, Bool.and_eq_true, decide_eq_true_eq] at hB
    refine ⟨fun h1 => (by rw [hB.1] at h1; cases h1), fun i hi => ?_⟩
    rw [hB.1] at hi
    have hik : i = k := by simpa using hi
    subst hik
    exact lOp_mono (fun a' w' hw' h' => wpAnyI_mix hs l _ a' w' hw' hB.2 h') h

def Region.mixOk (md : Region.Mode) (ops : Array Oper) (l : List (Bool × Nat)) : Bool :=
  Region.noSelect ops && decide (l.length = ops.size) && mixB md ops l (Array.replicate ops.size false)
theorem region_mix {id : Nat} {Q : Exit → Act → World → Prop} {a : Act} {w : World} {l : List Oper} (σ : List (Bool × Nat)) (I : World → Prop) (hm : P.follows .mixedOrders = true) (hB : Region.mixOk .any l.toArray σ = true)
    (h : ∀ w', w' = w.drew → I w' ∧ wpMix P l.toArray I (fun a' w' => Q .normal a' w') σ a w') : (Code.region id l.toArray true).wp P Q a w := by
  simp only [Region.mixOk, Bool.and_eq_true, decide_eq_true_eq] at hB
  obtain ⟨hI, hx⟩ := h _ rfl
  refine wp_region_any hm (wpAny_of_I (I := I) (Q := fun a' w' => Q .normal a' w') (fun _ _ h => h) _ _ _ _ ?_)
  have := wpAnyI_mix (md := .any) hB.1.1 σ _ a _ hI hB.2 hx
  rw [hB.1.2] at this
  exact this

/-! ### Its steps -/
def quietV (P : Program) (_a : Act) (w : World) (_o : Oper) (K : Value → Prop) : Result Next → Prop
  | .ok (.value v) w' => w' = w ∧ K v
  | .ok .skip w' => w' = w ∧ K undef
  | .ok (.enter f args) w' => w' = w ∧ ∃ v, Calls P f args w (fun e w'' => e = .returned v ∧ w'' = w) ∧ K v
  | _ => False
theorem mix_quiet {Q : Act → World → Prop} {k : Nat} {o : Oper} {os : List Oper} {l : List (Bool × Nat)} {a : Act} {w : World} {v : Value} (ho : os[k]? = some o)
    (h : ∀ w', I w' → ∀ K : Value → Prop, K v → if Region.wanted o (yielded os.toArray a.tmps) then quietV P a w' o K ((execOp a.eval o).run P w') else K undef)
    (hn : wpMix P os.toArray I Q l (a.put o.dst v) w) : wpMix P os.toArray I Q ((true, k) :: l) a w := by
  refine ⟨o, v, by simpa using ho, fun w' hw' => ?_, hn⟩
  have h1 := h w' hw' (· = v) rfl
  unfold YieldsAt
  by_cases hwn : Region.wanted o (yielded os.toArray a.tmps) = true
  · rw [if_pos hwn] at h1
    refine .inl ⟨hwn, ?_⟩
    generalize (execOp a.eval o).run P w' = r at h1 ⊢
    cases r with
    | ok n w2 =>
      cases n <;> simp only [quietV] at h1
      case value u => obtain ⟨rfl, rfl⟩ := h1; exact .inl rfl
      case skip => obtain ⟨rfl, h2⟩ := h1; exact .inr (.inl ⟨rfl, h2.symm⟩)
      case enter f args => obtain ⟨rfl, u, hc, rfl⟩ := h1; exact .inr (.inr ⟨f, args, rfl, hc⟩)
    | halt x w2 => simp only [quietV] at h1
  · rw [if_neg hwn] at h1
    exact .inr ⟨by simpa using hwn, h1.symm⟩
theorem mix_loud {Q : Act → World → Prop} {k : Nat} {o : Oper} {os : List Oper} {l : List (Bool × Nat)} {a : Act} {w : World} (ho : os[k]? = some o)
    (h : ∀ K : Act → World → Prop, (∀ a w, wpMix P os.toArray I Q l a w → K a w) → if Region.wanted o (yielded os.toArray a.tmps) then loudUpon P o a I K ((execOp a.eval o).run P w) else I w ∧ K (a.put o.dst undef) w) : wpMix P os.toArray I Q ((false, k) :: l) a w := by
  have h1 := h _ (fun _ _ h => h)
  have ho' : os.toArray[k]? = some o := by simpa using ho
  unfold wpMix lOp loud
  rw [ho']
  exact h1
theorem mix_nil {Q : Act → World → Prop} {a : Act} {w : World} (h : Q a w) : wpMix P ops I Q [] a w := h
end
end Go.Proofs.Ytabebkffcmajkaa
