import Derived.Test.YtabebkffcmajkaaMx3
/-! A region that draws its order, and stores into cells that its own operations read: R d is what holds until the store d is done; a quiet operation that the store d waits for may lean on it. No program in it. -/
namespace Go.Proofs.Ytabebkffcmajkaa
open Go.RowKit Go.Maps

section
variable {P : Program} {ops : Array Oper} {md : Region.Mode} (D : List Nat) (I : World → Prop) (R : Nat → World → Prop)
/-- d waits for k -/
def waits (md : Region.Mode) (ops : Array Oper) (k : Nat) : Nat → Nat → Bool
  | 0, d => d == k
  | f + 1, d => d == k || (match ops[d]? with | some o => o.after.any (fun e => Region.binds md e && waits md ops k f e.on) | none => false)
def Closed (md : Region.Mode) (ops : Array Oper) (listed : Array Bool) : Prop := ∀ i o, ops[i]? = some o → listed.getD i false = true → ∀ e ∈ o.after, Region.binds md e = true → listed.getD e.on false = true
def JW (listed : Array Bool) (w : World) : Prop := I w ∧ ∀ d ∈ D, listed.getD d false = false → R d w
def JD (done : List Nat) (w : World) : Prop := I w ∧ ∀ d ∈ D, d ∉ done → R d w
def QW (md : Region.Mode) (ops : Array Oper) (k : Nat) (w : World) : Prop := I w ∧ ∀ d ∈ D, waits md ops k ops.size d = true → R d w

theorem waits_unlisted {listed : Array Bool} {k : Nat} (hc : Closed md ops listed) (hk : listed.getD k true = false) : ∀ (f d : Nat), waits md ops k f d = true → listed.getD d false = false := by
  have hkf : listed.getD k false = false := by
    rcases Nat.lt_or_ge k listed.size with h' | h'
    · simp [h'] at hk ⊢; exact hk
    · simp [Array.getElem?_eq_none h'] at hk
  intro f
  induction f with
  | zero => intro d hd; simp only [waits, beq_iff_eq] at hd; rw [hd]; exact hkf
  | succ f ih =>
    intro d hd
    simp only [waits, Bool.or_eq_true, beq_iff_eq] at hd
    rcases hd with rfl | hd
    · exact hkf
    · cases ho : ops[d]? with
      | none => rw [ho] at hd; cases hd
      | some o =>
        rw [ho] at hd
        simp only [Array.any_eq_true', Bool.and_eq_true] at hd
        obtain ⟨e, he, hb, hw⟩ := hd
        cases hl : listed.getD d false with
        | false => rfl
        | true =>
          have h1 := hc d o ho hl e he hb
          rw [ih _ hw] at h1
          cases h1
theorem Closed.set {listed : Array Bool} {j : Nat} (hc : Closed md ops listed) (hj : j ∈ Region.ready md ops listed) : Closed md ops (listed.setIfInBounds j true) := by
  intro i o ho hl e he hb
  by_cases hij : j = i
  · subst hij
    obtain ⟨_, o', ho', hall⟩ := mem_ready.1 hj
    rw [ho] at ho'; cases ho'
    exact getD_set_true (hall e he hb)
  · rw [getD_set_ne false hij] at hl
    exact getD_set_true (hc i o ho hl e he hb)
variable {D I R}
theorem JW.quiet {listed : Array Bool} {k : Nat} {w : World} (hk : k ∉ D) : JW D I R (listed.setIfInBounds k true) w ↔ JW D I R listed w := by
  unfold JW
  constructor
  · rintro ⟨h1, h2⟩
    exact ⟨h1, fun d hd hu => h2 d hd (by have hne : k ≠ d := (by rintro rfl; exact hk hd)
                                          rw [getD_set_ne false hne]; exact hu)⟩
  · rintro ⟨h1, h2⟩
    exact ⟨h1, fun d hd hu => h2 d hd (by have hne : k ≠ d := (by rintro rfl; exact hk hd)
                                          rw [getD_set_ne false hne] at hu; exact hu)⟩
theorem JW.q {listed : Array Bool} {k : Nat} {w : World} (hc : Closed md ops listed) (hk : listed.getD k true = false) (h : JW D I R listed w) : QW D I R md ops k w :=
  ⟨h.1, fun d hd hw => h.2 d hd (waits_unlisted hc hk _ _ hw)⟩

variable (D I R)
def wpAnyJ (P : Program) (md : Region.Mode) (ops : Array Oper) (Q : Act → World → Prop) : Nat → Array Bool → Act → World → Prop
  | 0, listed, a, w => Region.ready md ops listed = [] ∧ Q a w
  | fuel + 1, listed, a, w =>
    (Region.ready md ops listed = [] → Q a w) ∧
    ∀ i ∈ Region.ready md ops listed, lOp P ops (JW D I R (listed.setIfInBounds i true)) i (wpAnyJ P md ops Q fuel (listed.setIfInBounds i true)) a w
variable {D I R}
theorem wpAny_of_J {Q : Act → World → Prop} {Q' : Exit → Act → World → Prop} (hQ : ∀ a w, Q a w → Q' .normal a w) : ∀ (fuel : Nat) (listed : Array Bool) (a : Act) (w : World),
    wpAnyJ D I R P md ops Q fuel listed a w → wpAny P md ops Q' fuel listed a w
  | 0, _, _, _, h => ⟨h.1, hQ _ _ h.2⟩
  | fuel + 1, _, _, _, h => ⟨fun h0 => hQ _ _ (h.1 h0), fun i hi => wpOp_of_lOp (fun a' w' => wpAny_of_J hQ fuel _ a' w') (h.2 i hi)⟩
theorem YieldsAt.lOpJ {I' : World → Prop} {i : Nat} {o : Oper} {v : Value} {a : Act} {w : World} (hi : ops[i]? = some o) (hw0 : I' w) (hy : YieldsAt P ops w o v a) {K : Act → World → Prop} (h : K (a.put o.dst v) w) : lOp P ops I' i K a w := by
  unfold Go.Proofs.Ytabebkffcmajkaa.lOp
  simp only [hi]
  rcases hy with ⟨hw, hv | ⟨hv, rfl⟩ | ⟨f, args, hv, hc⟩⟩ | ⟨hw, rfl⟩
  · simp only [hw, if_true, loud, hv, loudUpon]; exact ⟨hw0, h⟩
  · simp only [hw, if_true, loud, hv, loudUpon]; exact ⟨hw0, h⟩
  · simp only [hw, if_true, loud, hv, loudUpon]
    exact hc.mono fun e w'' ⟨he, hw''⟩ => by subst hw''; exact ⟨v, he, hw0, h⟩
  · simp only [hw, Bool.false_eq_true, if_false]; exact ⟨hw0, h⟩
theorem lOp_put2 {I1 I2 : World → Prop} {j : Nat} {oi oj : Oper} {v : Value} (hj : ops[j]? = some oj) (hap : oi.apart ops oj = true)
    (hsi : ∀ cs b, oi.op ≠ .select cs b) (hsj : ∀ cs b, oj.op ≠ .select cs b) {K : Act → World → Prop} {a : Act} {w : World}
    (hy : Always P ops I1 oi v a) (h : lOp P ops I2 j K (a.put oi.dst v) w) :
    lOp P ops I2 j (fun a' w' => Always P ops I1 oi v a' ∧ K (a'.put oi.dst v) w') a w := by
  obtain ⟨h1, h2, h3⟩ := Oper.apart_spec hap
  have keep : ∀ (a : Act), Always P ops I1 oi v a → ∀ u, Always P ops I1 oi v (a.put oj.dst u) := fun a hy u w hw =>
    (hy w hw).of_same (execOp_put oi hsi a oj.dst u h3) (wanted_put oi a oj.dst u h3)
  unfold lOp at *
  simp only [hj] at *
  rw [wanted_put oj a oi.dst v h1] at h
  split
  · rename_i hw
    simp only [hw, if_true] at h
    unfold loud at *
    rw [execOp_put oj hsj a oi.dst v h1] at h
    generalize (execOp a.eval oj).run P w = r at *
    cases r with
    | ok n w' =>
      cases n <;> simp only [loudUpon] at h ⊢
      case value u => exact ⟨h.1, keep a hy u, by rw [← Act.put_comm a v u h2]; exact h.2⟩
      case skip => exact ⟨h.1, keep a hy _, by rw [← Act.put_comm a v undef h2]; exact h.2⟩
      case enter f args => exact h.mono fun e w'' ⟨u, he, hi, hn⟩ => ⟨u, he, hi, keep a hy u, by rw [← Act.put_comm a v u h2]; exact hn⟩
    | halt x w' => simp only [loudUpon] at h
  · rename_i hw
    simp only [hw] at h
    exact ⟨h.1, keep a hy _, by rw [← Act.put_comm a v undef h2]; exact h.2⟩
theorem wpAnyJ_first {Q : Act → World → Prop} {i : Nat} {oi : Oper} {v : Value} (hi : ops[i]? = some oi) (hiD : i ∉ D) (hsel : ∀ (j : Nat) (o : Oper) cs b, ops[j]? = some o → o.op ≠ .select cs b) :
    ∀ (fuel : Nat) (listed : Array Bool) (a : Act) (w : World), JW D I R listed w → Closed md ops listed →
      (∀ j oj, ops[j]? = some oj → j ≠ i → listed.getD j true = false → (∀ e ∈ oj.after, Region.binds md e = true → e.on ≠ i) → oi.apart ops oj = true) →
      i ∈ Region.ready md ops listed → Always P ops (QW D I R md ops i) oi v a →
      wpAnyJ D I R P md ops Q fuel (listed.setIfInBounds i true) (a.put oi.dst v) w → wpAnyJ D I R P md ops Q (fuel + 1) listed a w := by
  intro fuel
  induction fuel with
  | zero =>
    intro listed a w hw hcl _ hr hy H
    refine ⟨fun h => (by rw [h] at hr; cases hr), fun j hj => ?_⟩
    by_cases hji : j = i
    · subst hji; exact YieldsAt.lOpJ hi ((JW.quiet hiD).2 hw) (hy w (hw.q hcl (mem_ready.1 hr).1)) H
    · have := ready_mono hj hji
      rw [H.1] at this
      cases this
  | succ fuel ih =>
    intro listed a w hw hcl hfree hr hy H
    refine ⟨fun h => (by rw [h] at hr; cases hr), fun j hj => ?_⟩
    by_cases hji : j = i
    · subst hji; exact YieldsAt.lOpJ hi ((JW.quiet hiD).2 hw) (hy w (hw.q hcl (mem_ready.1 hr).1)) H
    · have h1 := H.2 j (ready_mono hj hji)
      obtain ⟨hjun, oj, hoj, hall⟩ := mem_ready.1 hj
      have hnot : ∀ e ∈ oj.after, Region.binds md e = true → e.on ≠ i := fun e he hb heq => by
        have h1 := hall e he hb
        have h0 := (mem_ready.1 hr).1
        rw [heq] at h1
        rcases Nat.lt_or_ge i listed.size with h' | h'
        · simp [h'] at h0 h1; rw [h0] at h1; cases h1
        · simp [Array.getElem?_eq_none h'] at h1
      have h2 := lOp_put2 hoj (hfree j oj hoj hji hjun hnot) (fun cs b => hsel i oi cs b hi) (fun cs b => hsel j oj cs b hoj) hy h1
      have hfree' : ∀ k ok, ops[k]? = some ok → k ≠ i → (listed.setIfInBounds j true).getD k true = false →
          (∀ e ∈ ok.after, Region.binds md e = true → e.on ≠ i) → oi.apart ops ok = true := fun k ok hk hki hun hno => by
        refine hfree k ok hk hki ?_ hno
        by_cases hjk : j = k
        · subst hjk; exact hjun
        · rw [getD_set_ne true hjk] at hun; exact hun
      have hback : ∀ w', JW D I R ((listed.setIfInBounds i true).setIfInBounds j true) w' → JW D I R (listed.setIfInBounds j true) w' := fun w' h => by
        rw [← Array.setIfInBounds_comm _ _ hji] at h
        exact (JW.quiet hiD).1 h
      refine lOp_mono (fun a' w' hw' h3 => ih (listed.setIfInBounds j true) a' w' hw' (hcl.set hj) hfree' (ready_mono hr (Ne.symm hji)) h3.1 ?_) (lOp_weak hback h2)
      rw [Array.setIfInBounds_comm _ _ hji]
      exact h3.2

variable (D I R)
def wpMixJ (P : Program) (md : Region.Mode) (ops : Array Oper) (Q : Act → World → Prop) : List (Bool × Nat) → List Nat → Act → World → Prop
  | [], _, a, w => Q a w
  | (true, k) :: l, done, a, w => k ∉ D ∧ ∃ o v, ops[k]? = some o ∧ Always P ops (QW D I R md ops k) o v a ∧ wpMixJ P md ops Q l done (a.put o.dst v) w
  | (false, k) :: l, done, a, w => lOp P ops (JD D I R (k :: done)) k (wpMixJ P md ops Q l (k :: done)) a w
variable {D I R}
theorem JD.jw {listed : Array Bool} {done : List Nat} {w : World} (hl : ∀ d ∈ done, listed.getD d false = true) (h : JD D I R done w) : JW D I R listed w :=
  ⟨h.1, fun d hd hu => h.2 d hd (fun hm => by rw [hl d hm] at hu; cases hu)⟩
theorem wpAnyJ_mix {Q : Act → World → Prop} (hs : Region.noSelect ops = true) : ∀ (l : List (Bool × Nat)) (listed : Array Bool) (done : List Nat) (a : Act) (w : World), JW D I R listed w → Closed md ops listed → (∀ d ∈ done, listed.getD d false = true) → mixB md ops l listed = true →
    wpMixJ D I R P md ops Q l done a w → wpAnyJ D I R P md ops Q l.length listed a w
  | [], _, _, _, _, _, _, _, hB, h => ⟨by simpa [mixB] using hB, h⟩
  | (true, k) :: l, listed, done, a, w, hw, hc, hl, hB, ⟨hk, o, v, ho, hy, h⟩ => by
    simp only [mixB, Bool.and_eq_true] at hB
    have hr : k ∈ Region.ready md ops listed := by simpa using hB.1.1
    exact wpAnyJ_first ho hk (Region.noSelect_spec hs) l.length listed a w hw hc (Region.free_spec ho hB.1.2) hr hy (wpAnyJ_mix hs l _ done _ _ ((JW.quiet hk).2 hw) (hc.set hr) (fun d hd => getD_set_true (hl d hd)) hB.2 h)
  | (false, k) :: l, listed, done, a, w, hw, hc, hl, hB, h => by
    simp only [mixB, Bool.and_eq_true, decide_eq_true_eq] at hB
    refine ⟨fun h1 => (by rw [hB.1] at h1; cases h1), fun i hi => ?_⟩
    have hr := hi
    rw [hB.1] at hi
    have hik : i = k := by simpa using hi
    subst hik
    have hl2 : ∀ d ∈ i :: done, (listed.setIfInBounds i true).getD d false = true := by
      intro d hd
      rcases List.mem_cons.1 hd with rfl | hd
      · have h0 := (mem_ready.1 hr).1
        rcases Nat.lt_or_ge d listed.size with h' | h'
        · simp [h']
        · simp [Array.getElem?_eq_none h'] at h0
      · exact getD_set_true (hl d hd)
    exact lOp_mono (fun a' w' hw' h' => wpAnyJ_mix hs l _ (i :: done) a' w' hw' (hc.set hr) hl2 hB.2 h') (lOp_weak (fun w' h => JD.jw hl2 h) h)

structure JxW (P : Program) (ops : Array Oper) (D : List Nat) (I : World → Prop) (R : Nat → World → Prop) (Q : Act → World → Prop) (l : List (Bool × Nat)) (done : List Nat) (a : Act) (w : World) : Prop where
  out : wpMixJ D I R P .any ops Q l done a w
theorem region_jxw {id : Nat} {Q : Exit → Act → World → Prop} {a : Act} {w : World} {l : List Oper} (σ : List (Bool × Nat)) (D : List Nat) (I : World → Prop) (R : Nat → World → Prop) (hm : P.follows .mixedOrders = true) (hB : Region.mixOk .any l.toArray σ = true)
    (h : ∀ w', w' = w.drew → I w' ∧ (∀ d ∈ D, R d w') ∧ JxW P l.toArray D I R (fun a' w' => Q .normal a' w') σ [] a w') : (Code.region id l.toArray true).wp P Q a w := by
  simp only [Region.mixOk, Bool.and_eq_true, decide_eq_true_eq] at hB
  obtain ⟨hI, hR, hx⟩ := h _ rfl
  refine wp_region_any hm (wpAny_of_J (D := D) (I := I) (R := R) (Q := fun a' w' => Q .normal a' w') (fun _ _ h => h) _ _ _ _ ?_)
  have := wpAnyJ_mix (md := .any) hB.1.1 σ _ [] a _ ⟨hI, fun d hd _ => hR d hd⟩ (fun i o _ hl => by
    exfalso
    rw [Array.getD_eq_getD_getElem?, Array.getElem?_replicate] at hl
    split at hl <;> simp at hl) (fun d hd => by cases hd) hB.2 hx.out
  rw [hB.1.2] at this
  exact this
variable {D : List Nat} {I : World → Prop} {R : Nat → World → Prop}
theorem jxw_quiet {Q : Act → World → Prop} {k : Nat} {o : Oper} {os : List Oper} {l : List (Bool × Nat)} {done : List Nat} {a : Act} {w : World} {v : Value} (ho : os[k]? = some o) (hk : D.contains k = false) (ds : List Nat) (hds : ds.all (fun d => D.contains d && waits .any os.toArray k os.toArray.size d) = true)
    (h : ∀ w', I w' → (∀ d ∈ ds, R d w') → ∀ K : Value → Prop, K v → if Region.wanted o (yielded os.toArray a.tmps) then quietV P a w' o K ((execOp a.eval o).run P w') else K undef)
    (hn : JxW P os.toArray D I R Q l done (a.put o.dst v) w) : JxW P os.toArray D I R Q ((true, k) :: l) done a w := by
  refine ⟨by simpa using hk, o, v, by simpa using ho, fun w' hw' => ?_, hn.out⟩
  have h1 := h w' hw'.1 (fun d hd => by
    have := List.all_eq_true.1 hds d hd
    simp only [Bool.and_eq_true, List.contains_iff_mem] at this
    exact hw'.2 d this.1 this.2) (· = v) rfl
  unfold YieldsAt
  by_cases hwn : Region.wanted o (yielded os.toArray a.tmps) = true
  · rw [if_pos hwn] at h1
    refine .inl ⟨hwn, ?_⟩
    generalize (execOp a.eval o).run P w' = r at h1 ⊢
    cases r with
    | ok n w2 =>
      cases n <;> simp only [quietV] at h1
      case value u => obtain ⟨rfl, rfl⟩ := h1; exact .inl rfl
      case skip => obtain ⟨rfl, h2⟩ := h1; exact .inr (.inl ⟨rfl, h2.symm⟩)
      case enter f args => obtain ⟨rfl, u, hc, rfl⟩ := h1; exact .inr (.inr ⟨f, args, rfl, hc⟩)
    | halt x w2 => simp only [quietV] at h1
  · rw [if_neg hwn] at h1
    exact .inr ⟨by simpa using hwn, h1.symm⟩
theorem jxw_loud {Q : Act → World → Prop} {k : Nat} {o : Oper} {os : List Oper} {l : List (Bool × Nat)} {done : List Nat} {a : Act} {w : World} (ho : os[k]? = some o)
    (h : ∀ K : Act → World → Prop, (∀ a w, JxW P os.toArray D I R Q l (k :: done) a w → K a w) → if Region.wanted o (yielded os.toArray a.tmps) then loudUpon P o a (JD D I R (k :: done)) K ((execOp a.eval o).run P w) else JD D I R (k :: done) w ∧ K (a.put o.dst undef) w) : JxW P os.toArray D I R Q ((false, k) :: l) done a w := by
  have h1 := h _ (fun a w hm => hm)
  have ho' : os.toArray[k]? = some o := by simpa using ho
  refine ⟨?_⟩
  unfold wpMixJ lOp loud
  rw [ho']
  show (if Region.wanted o (yielded os.toArray a.tmps) then loudUpon P o a (JD D I R (k :: done)) (wpMixJ D I R P .any os.toArray Q l (k :: done)) ((execOp a.eval o).run P w) else JD D I R (k :: done) w ∧ wpMixJ D I R P .any os.toArray Q l (k :: done) (a.put o.dst undef) w)
  split
  · rename_i hw
    rw [if_pos hw] at h1
    exact loud_mono (fun _ _ _ h => h.out) h1
  · rename_i hw
    rw [if_neg hw] at h1
    exact ⟨h1.1, h1.2.out⟩
theorem jxw_nil {Q : Act → World → Prop} {done : List Nat} {a : Act} {w : World} (h : Q a w) : JxW P ops D I R Q [] done a w := ⟨h⟩
end
end Go.Proofs.Ytabebkffcmajkaa
