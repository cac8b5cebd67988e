import Derived.WalkKit
import Derived.WalkSpells
import Derived.WalkLawsBesides
import Derived.StillTailTactics
import Derived.Deep.QuietTactic
import Derived.BigQuiet
import Derived.Maps.Own
import Derived.Maps.Keyed
import Derived.Outline
/-! Words on worlds: what a call may have changed; steps of a walk by a run equation; maps as lists of pairs. -/
namespace Go.Proofs.Ytabebkffcmajkaa
open Go.RowKit Go.Maps

theorem hide {p : Prop} (h : p) : Hid p := h
/-! ### What may have changed -/
structure Mod (S : Nat → Prop) (w w' : World) : Prop where
  os : w'.os = w.os
  tape : w'.tape = w.tape
  output : w'.output = w.output
  size : w.heap.size ≤ w'.heap.size
  block : ∀ k, k < w.heap.size → ¬ S k → w'.heap[k]? = w.heap[k]?

def None_ : Nat → Prop := fun _ => False

theorem Mod.refl (S : Nat → Prop) (w : World) : Mod S w w := ⟨rfl, rfl, rfl, Nat.le_refl _, fun _ _ _ => rfl⟩
theorem Mod.trans' {S T : Nat → Prop} {a b c : World} (h : Mod S a b) (k : Mod T b c) (hT : ∀ k, k < a.heap.size → T k → S k) : Mod S a c :=
  ⟨k.os.trans h.os, k.tape.trans h.tape, k.output.trans h.output, Nat.le_trans h.size k.size,
   fun i hi hs => (k.block i (Nat.lt_of_lt_of_le hi h.size) (fun t => hs (hT i hi t))).trans (h.block i hi hs)⟩
theorem Mod.trans {S : Nat → Prop} {a b c : World} (h : Mod S a b) (k : Mod S b c) : Mod S a c := h.trans' k fun _ _ t => t
theorem Mod.mono {S T : Nat → Prop} {a b : World} (h : Mod S a b) (hT : ∀ k, k < a.heap.size → S k → T k) : Mod T a b :=
  ⟨h.os, h.tape, h.output, h.size, fun i hi hs => h.block i hi (fun t => hs (hT i hi t))⟩
theorem Mod.drew {S : Nat → Prop} {a w : World} (h : Mod S a w) : Mod S a w.drew := ⟨h.os, h.tape, h.output, h.size, h.block⟩
theorem Mod.drewN {S : Nat → Prop} {a w : World} (h : Mod S a w) (n : Nat) : Mod S a (w.drewN n) := ⟨h.os, h.tape, h.output, h.size, h.block⟩
theorem Mod.alloc {S : Nat → Prop} {a w : World} (h : Mod S a w) (o : Obj) : Mod S a (w.alloc o) :=
  ⟨h.os, h.tape, h.output, Nat.le_trans h.size (by simp), fun k hk hs => (Below.heap_alloc w o k (Nat.lt_of_lt_of_le hk h.size)).trans (h.block k hk hs)⟩
theorem Mod.setCell {S : Nat → Prop} {a w : World} (h : Mod S a w) {p : Addr} (hp : a.heap.size ≤ p.block ∨ S p.block) (u : Value) : Mod S a (w.setCell p u) :=
  ⟨h.os, h.tape, h.output, by simpa [World.setCell] using h.size, fun k hk hs => (Below.heap_setCell w p u k (by
      rintro rfl
      rcases hp with hp | hp
      · omega
      · exact hs hp)).trans (h.block k hk hs)⟩
theorem Mod.of_below {w w' : World} (h : Below w.heap.size w w') : Mod None_ w w' := ⟨h.os, h.tape, h.output, h.size, fun k hk _ => h.block k hk⟩
theorem Mod.below {w w' : World} (h : Mod None_ w w') : Below w.heap.size w w' := ⟨h.os, h.tape, h.output, h.size, fun k hk => h.block k hk id⟩
theorem Mod.none {S : Nat → Prop} {w w' : World} (h : Mod None_ w w') : Mod S w w' := h.mono fun _ _ f => f.elim
/-- any world of another heap -/
def putBlk (w : World) (b : Nat) (o : Obj) : World := { w with heap := w.heap.setIfInBounds b o }
@[simp] theorem putBlk_size (w : World) (b : Nat) (o : Obj) : (putBlk w b o).heap.size = w.heap.size := by simp [putBlk]
theorem putBlk_same (w : World) (b : Nat) (o : Obj) (h : b < w.heap.size) : (putBlk w b o).heap[b]? = some o := by simp [putBlk, h]
theorem putBlk_other (w : World) (b k : Nat) (o : Obj) (h : k ≠ b) : (putBlk w b o).heap[k]? = w.heap[k]? := by
  simp [putBlk, Ne.symm h]
theorem Mod.putBlk {S : Nat → Prop} {a w : World} (h : Mod S a w) {b : Nat} (hb : a.heap.size ≤ b ∨ S b) (o : Obj) : Mod S a (putBlk w b o) :=
  ⟨h.os, h.tape, h.output, by simpa using h.size, fun k hk hs => (putBlk_other w b k o (by
      rintro rfl
      rcases hb with hb | hb
      · omega
      · exact hs hb)).trans (h.block k hk hs)⟩

theorem alloc_size (w : World) (o : Obj) : (w.alloc o).heap.size = w.heap.size + 1 := by simp
theorem size_drew (w : World) : w.drew.heap.size = w.heap.size := rfl
theorem heap_drew' (w : World) (k : Nat) : w.drew.heap[k]? = w.heap[k]? := rfl

/-! ### Steps by a run equation -/
section
variable {P : Program} {ops : Array Oper} {rest : List Oper} {o : Oper} {a : Act} {w w' : World} {Q : Exit → Act → World → Prop} {v : Value}
theorem wpList_val (hg : o.guard = none) (hr : (execOp a.eval o).run P w = .ok (.value v) w') (h : wpList P ops Q rest (a.put o.dst v) w') : wpList P ops Q (o :: rest) a w :=
  wpList_plain hg fun _ hK => by unfold Oper.wp; rw [hr]; exact hK _ _ h
theorem wpList_skp (hg : o.guard = none) (hr : (execOp a.eval o).run P w = .ok .skip w') (h : wpList P ops Q rest (a.put o.dst undef) w') : wpList P ops Q (o :: rest) a w :=
  wpList_plain hg fun _ hK => by unfold Oper.wp; rw [hr]; exact hK _ _ h
theorem still_val {K : Act → Prop} (hg : o.guard = none) (hr : (execOp a.eval o).run P w = .ok (.value v) w) (h : wpStill P ops w K rest (a.put o.dst v)) : wpStill P ops w K (o :: rest) a :=
  wpStill_step fun K' hK => by
    rw [if_pos (by simp [Region.wanted, hg])]
    unfold Oper.still; rw [hr, Oper.stillUpon_value]; exact hK _ h
end

/-- a region that draws and only reads: in the world behind the draw, whatever that is -/
theorem region_still {P : Program} {id : Nat} {Q : Exit → Act → World → Prop} {a : Act} {w : World} {l : List Oper} (hm : P.follows .mixedOrders = true) (hB : Region.lexB .any l.toArray = true)
    (h : ∀ w', w' = w.drew → wpStill P l.toArray w' (fun a' => Q .normal a' w') l a) : (Code.region id l.toArray true).wp P Q a w :=
  wp_region_still_lit hm hB (h _ rfl)
/-- a region that draws, reads in its first n operations, and whose others come in the text's order -/
theorem region_tail {P : Program} {id : Nat} {Q : Exit → Act → World → Prop} {a : Act} {w : World} {l : List Oper} (n : Nat) (hm : P.follows .mixedOrders = true) (hB : Region.lexTailB .any l.toArray n = true)
    (h : ∀ w', w' = w.drew → wpStill P l.toArray w' (fun a' => wpList P l.toArray Q (l.drop n) a' w') (l.take n) a) : (Code.region id l.toArray true).wp P Q a w :=
  wp_region_still_tail n hm hB (h _ rfl)

/-! ### Maps: block b is a map with just these pairs -/
def kv (e : MapEntry) : Value × Value := (e.key, e.val)
structure MapIs (P : Program) (k : TypeId) (w : World) (b : Nat) (l : List (Value × Value)) : Prop where
  ex : ∃ es clock, w.heap[b]? = some (.map es clock) ∧ (es.toList.map kv).Perm l ∧ (∀ e ∈ es.toList, e.born < clock) ∧ (es.toList.map (·.born)).Nodup
  key : ∀ p ∈ l, ∃ x, keyOf P k p.1 = some x
  nodup : (l.map (·.1)).Nodup

section
variable {P : Program} {k : TypeId} {w w' : World} {b : Nat} {l : List (Value × Value)}
theorem MapIs.of_block (h : MapIs P k w b l) (hb : w'.heap[b]? = w.heap[b]?) : MapIs P k w' b l :=
  ⟨by obtain ⟨es, c, h1, h2⟩ := h.ex; exact ⟨es, c, hb.trans h1, h2⟩, h.key, h.nodup⟩
theorem MapIs.drew (h : MapIs P k w b l) : MapIs P k w.drew b l := h.of_block rfl
theorem MapIs.drewN (h : MapIs P k w b l) (n : Nat) : MapIs P k (w.drewN n) b l := h.of_block rfl
theorem MapIs.lt (h : MapIs P k w b l) : b < w.heap.size := by
  obtain ⟨es, c, h1, _⟩ := h.ex
  rcases Nat.lt_or_ge b w.heap.size with hlt | hge
  · exact hlt
  · rw [Array.getElem?_eq_none hge] at h1; cases h1
theorem MapIs.mod {S : Nat → Prop} (h : MapIs P k w b l) (hm : Mod S w w') (hs : ¬ S b) : MapIs P k w' b l := h.of_block (hm.block b h.lt hs)
theorem MapIs.alloc (h : MapIs P k w b l) (o : Obj) : MapIs P k (w.alloc o) b l := h.of_block (Below.heap_alloc w o b h.lt)
theorem MapIs.setCell (h : MapIs P k w b l) {p : Addr} (hp : b ≠ p.block) (u : Value) : MapIs P k (w.setCell p u) b l := h.of_block (Below.heap_setCell w p u b hp)
theorem MapIs.perm (h : MapIs P k w b l) {l' : List (Value × Value)} (hp : l.Perm l') : MapIs P k w b l' :=
  ⟨by obtain ⟨es, c, h1, h2, h3⟩ := h.ex; exact ⟨es, c, h1, h2.trans hp, h3⟩, fun p hp' => h.key p (hp.mem_iff.2 hp'), (hp.map _).nodup_iff.1 h.nodup⟩
theorem MapIs.made (w : World) : MapIs P k (w.alloc (.map #[] 0)) w.heap.size [] :=
  ⟨⟨#[], 0, heap_alloc_new w _, by simp, by simp, by simp⟩, by simp, by simp⟩

theorem find_spec (K : Keyed P k) (w : World) {x : Value} {lx : Lit} (hx : keyOf P k x = some lx) {es : List MapEntry} {l : List (Value × Value)} (hp : (es.map kv).Perm l) (hk : ∀ p ∈ l, ∃ x, keyOf P k p.1 = some x) :
    ((Instr.findKey k x es).run P w = .ok none w ∧ ∀ p ∈ l, p.1 ≠ x) ∨ ∃ j e, (Instr.findKey k x es).run P w = .ok (some (j, e.val)) w ∧ es[j]? = some e ∧ e.key = x ∧ (x, e.val) ∈ l := by
  rcases K.find w hx es (fun e he => hk (kv e) (hp.mem_iff.1 (List.mem_map.2 ⟨e, he, rfl⟩))) with ⟨h1, h2⟩ | ⟨j, e, h1, h2, h3⟩
  · refine .inl ⟨h1, fun p hp' => ?_⟩
    obtain ⟨e, he, rfl⟩ := List.mem_map.1 (hp.mem_iff.2 hp')
    exact h2 e he
  · exact .inr ⟨j, e, h1, h2, h3, by rw [← h3]; exact hp.mem_iff.1 (List.mem_map.2 ⟨e, List.mem_of_getElem? h2, rfl⟩)⟩

theorem uniq_of_nodup {l : List (Value × Value)} (h : (l.map (·.1)).Nodup) {x u v : Value} (hu : (x, u) ∈ l) (hv : (x, v) ∈ l) : u = v := by
  induction l with
  | nil => cases hu
  | cons p r ih =>
    simp only [List.map_cons, List.nodup_cons] at h
    rcases List.mem_cons.1 hu with e1 | hu'
    · rcases List.mem_cons.1 hv with e2 | hv'
      · exact (Prod.mk.inj (e1.trans e2.symm)).2
      · exact absurd (by rw [← e1]; exact List.mem_map_of_mem (f := (·.1)) hv') h.1
    · rcases List.mem_cons.1 hv with e2 | hv'
      · exact absurd (by rw [← e2]; exact List.mem_map_of_mem (f := (·.1)) hu') h.1
      · exact ih h.2 hu' hv'

/-- m[x], x there -/
theorem MapIs.look (h : MapIs P k w b l) (K : Keyed P k) {t e : TypeId} (ht : P.underlying t = some (.map k e)) {x v : Value} (hm : (x, v) ∈ l) :
    (Instr.lookup t (.map (some b)) x false).run P w = .ok v w := by
  obtain ⟨es, c, h1, h2, _⟩ := h.ex
  obtain ⟨lx, hx⟩ := h.key _ hm
  rcases find_spec K w hx h2 h.key with ⟨_, hf⟩ | ⟨j, e', hr, _, hk, hin⟩
  · exact absurd rfl (hf _ hm)
  · have hv : e'.val = v := uniq_of_nodup h.nodup hin hm
    have hc := K.check w es.isEmpty hx
    simp only [Instr.lookup, Sem.run_bind, run_underlying ht, Result.andThen_ok, getObj, Sem.run, h1, hc, hr, Sem.run_pure, hv]
    simp
/-- m[x], x not there -/
theorem MapIs.look_no (h : MapIs P k w b l) (K : Keyed P k) {t e : TypeId} (ht : P.underlying t = some (.map k e)) {z : Value} (hz : ∀ w, (zeroValue e).run P w = .ok z w) {x : Value} {lx : Lit} (hx : keyOf P k x = some lx) (hm : ∀ p ∈ l, p.1 ≠ x) :
    (Instr.lookup t (.map (some b)) x false).run P w = .ok z w := by
  obtain ⟨es, c, h1, h2, _⟩ := h.ex
  rcases find_spec K w hx h2 h.key with ⟨hr, _⟩ | ⟨j, e', _, _, hk, hin⟩
  · have hc := K.check w es.isEmpty hx
    simp only [Instr.lookup, Sem.run_bind, run_underlying ht, Result.andThen_ok, getObj, Sem.run, h1, hc, hr, Sem.run_pure, hz w]
    simp
  · exact absurd rfl (hm _ hin)

/-- m[x] = v, x not there -/
theorem MapIs.store_new (h : MapIs P k w b l) (K : Keyed P k) {t e : TypeId} (ht : P.underlying t = some (.map k e)) {x v : Value} {lx : Lit} (hx : keyOf P k x = some lx) (hm : ∀ p ∈ l, p.1 ≠ x) :
    ∃ o, (Instr.mapUpdate t (.map (some b)) x v).run P w = .ok () (putBlk w b o) ∧ MapIs P k (putBlk w b o) b ((x, v) :: l) := by
  have hlt := h.lt
  obtain ⟨es, c, h1, h2, h3, h4⟩ := h.ex
  rcases find_spec K w hx h2 h.key with ⟨hr, _⟩ | ⟨j, e', _, _, hk, hin⟩
  · have hc := K.check w false hx
    refine ⟨.map (es.push { key := x, val := v, born := c }) (c + 1), ?_, ?_⟩
    · simp only [Instr.mapUpdate, Sem.run_bind, run_underlying ht, Result.andThen_ok, getObj, Sem.run, h1, hc, hr, setObj]
      rfl
    · refine ⟨⟨_, _, putBlk_same w b _ hlt, ?_, ?_, ?_⟩, ?_, ?_⟩
      · simp only [Array.toList_push, List.map_append, List.map_cons, List.map_nil]
        exact List.perm_append_comm.trans (h2.cons _)
      · simp only [Array.toList_push, List.mem_append, List.mem_singleton]
        rintro e (he | rfl)
        · exact Nat.lt_succ_of_lt (h3 e he)
        · exact Nat.lt_succ_self _
      · simp only [Array.toList_push, List.map_append, List.map_cons, List.map_nil]
        refine List.nodup_append.2 ⟨h4, by simp, ?_⟩
        intro y hy z hz
        obtain ⟨e, he, rfl⟩ := List.mem_map.1 hy
        have := h3 e he
        simp at hz
        omega
      · intro p hp
        rcases List.mem_cons.1 hp with rfl | hp
        · exact ⟨lx, hx⟩
        · exact h.key p hp
      · simp only [List.map_cons, List.nodup_cons]
        refine ⟨fun hin => ?_, h.nodup⟩
        obtain ⟨p, hp, e⟩ := List.mem_map.1 hin
        exact hm p hp e
  · exact absurd rfl (hm _ hin)

theorem modify_set {α : Type} {xs : Array α} {i : Nat} {f : α → α} (h : i < xs.size) : xs.modify i f = xs.set i (f xs[i]) h := by
  apply Array.ext
  · simp
  · intro j h1 h2
    simp [Array.getElem_modify, Array.getElem_set]
    split
    · subst_vars; rfl
    · rfl
theorem mem_perm {α : Type} {x : α} : ∀ {l : List α}, x ∈ l → ∃ l', l.Perm (x :: l')
  | y :: r, h => by
    rcases List.mem_cons.1 h with rfl | h
    · exact ⟨r, List.Perm.refl _⟩
    · obtain ⟨l', hl⟩ := mem_perm h
      exact ⟨y :: l', (hl.cons y).trans (List.Perm.swap _ _ _)⟩
theorem erase_list_perm {α : Type} : ∀ (l : List α) (j : Nat) (h : j < l.length), l.Perm (l[j] :: l.eraseIdx j)
  | x :: r, 0, _ => by simp
  | x :: r, j + 1, h => by
    simp only [List.getElem_cons_succ, List.eraseIdx_cons_succ]
    exact ((erase_list_perm r j (by simpa using h)).cons x).trans (List.Perm.swap _ _ _)
theorem erase_perm {es : Array MapEntry} {j : Nat} {e : MapEntry} (hj : es[j]? = some e) : es.toList.Perm (e :: (es.eraseIdxIfInBounds j).toList) := by
  have hlt : j < es.size := by
    rcases Nat.lt_or_ge j es.size with h | h
    · exact h
    · rw [Array.getElem?_eq_none h] at hj; cases hj
  have he : es.toList[j]'(by simpa using hlt) = e := by
    have := Array.getElem?_eq_getElem hlt
    rw [this] at hj
    simpa using hj
  rw [Array.eraseIdxIfInBounds, dif_pos hlt, Array.toList_eraseIdx, ← he]
  exact erase_list_perm es.toList j (by simpa using hlt)

/-- m[x] = v, x there -/
theorem MapIs.store_old (h : MapIs P k w b l) (K : Keyed P k) {t e : TypeId} (ht : P.underlying t = some (.map k e)) {x u v : Value} {l' : List (Value × Value)} (hl : l.Perm ((x, u) :: l')) :
    ∃ o, (Instr.mapUpdate t (.map (some b)) x v).run P w = .ok () (putBlk w b o) ∧ MapIs P k (putBlk w b o) b ((x, v) :: l') := by
  have hlt := h.lt
  have hm : (x, u) ∈ l := hl.mem_iff.2 (by simp)
  obtain ⟨lx, hx⟩ := h.key _ hm
  have hn : ((x, u) :: l').map (·.1) |>.Nodup := (hl.map _).nodup_iff.1 h.nodup
  obtain ⟨es, c, h1, h2, h3, h4⟩ := h.ex
  rcases find_spec K w hx h2 h.key with ⟨_, hf⟩ | ⟨j, e', hr, hj, hk, hin⟩
  · exact absurd rfl (hf _ hm)
  · have hc := K.check w false hx
    have hs := K.stays w hx
    rw [Array.getElem?_toList] at hj
    have hp := erase_perm hj
    have hlt' : j < es.size := by
      rcases Nat.lt_or_ge j es.size with h | h
      · exact h
      · rw [Array.getElem?_eq_none h] at hj; cases hj
    have hje : es[j] = e' := by rw [Array.getElem?_eq_getElem hlt'] at hj; simpa using hj
    have hmod : es.modify j (fun e => { e with key := x, val := v }) = es.set j { e' with key := x, val := v } hlt' := by
      rw [modify_set hlt', hje]
    have hp2 : (es.set j { e' with key := x, val := v } hlt').toList.Perm ({ e' with key := x, val := v } :: (es.eraseIdxIfInBounds j).toList) := by
      have h5 := erase_perm (es := es.set j { e' with key := x, val := v } hlt') (j := j) (e := { e' with key := x, val := v }) (by simp)
      have h6 : ((es.set j { e' with key := x, val := v } hlt').eraseIdxIfInBounds j).toList = (es.eraseIdxIfInBounds j).toList := by
        rw [Array.eraseIdxIfInBounds, dif_pos (by simpa using hlt'), Array.eraseIdxIfInBounds, dif_pos hlt']
        simp [Array.toList_eraseIdx, List.eraseIdx_set_eq]
      rwa [h6] at h5
    refine ⟨.map (es.modify j fun e => { e with key := x, val := v }) c, ?_, ?_⟩
    · simp only [Instr.mapUpdate, Sem.run_bind, run_underlying ht, Result.andThen_ok, getObj, Sem.run, h1, hc, hr, setObj, hj, Option.map_some, Option.getD_some, hk, hs]
      rfl
    · have hkv : kv e' = (x, u) := by
        have : e'.val = u := uniq_of_nodup h.nodup hin hm
        simp [kv, hk, this]
      have hrest : ((es.eraseIdxIfInBounds j).toList.map kv).Perm l' := by
        have := (hp.map kv).symm.trans (h2.trans hl)
        rw [List.map_cons, hkv] at this
        exact this.cons_inv
      refine ⟨⟨_, _, putBlk_same w b _ hlt, ?_, ?_, ?_⟩, ?_, ?_⟩
      · rw [hmod]
        exact (hp2.map kv).trans (by simp only [List.map_cons, kv]; exact hrest.cons _)
      · rw [hmod]
        intro e he
        rcases List.mem_cons.1 (hp2.mem_iff.1 he) with rfl | he
        · exact h3 e' (hp.mem_iff.2 (by simp))
        · exact h3 e (hp.mem_iff.2 (List.mem_cons_of_mem _ he))
      · rw [hmod]
        exact (hp2.map _).nodup_iff.2 (by simpa using (hp.map (·.born)).nodup_iff.1 h4)
      · intro p hp
        rcases List.mem_cons.1 hp with rfl | hp
        · exact ⟨lx, hx⟩
        · exact h.key p (hl.mem_iff.2 (by simp [hp]))
      · simpa using hn

/-- delete(m, x), x there -/
theorem MapIs.drop (h : MapIs P k w b l) (K : Keyed P k) {t e : TypeId} {ts : Array TypeId} (hts : ts[0]? = some t) (ht : P.underlying t = some (.map k e)) {x u : Value} {l' : List (Value × Value)} (hl : l.Perm ((x, u) :: l')) :
    ∃ o, (∀ ty, (Builtin.delete_ ts ty #[.map (some b), x]).run P w = .ok (.tuple #[]) (putBlk w b o)) ∧ MapIs P k (putBlk w b o) b l' := by
  have hlt := h.lt
  have hm : (x, u) ∈ l := hl.mem_iff.2 (by simp)
  obtain ⟨lx, hx⟩ := h.key _ hm
  have hn : ((x, u) :: l').map (·.1) |>.Nodup := (hl.map _).nodup_iff.1 h.nodup
  obtain ⟨es, c, h1, h2, h3, h4⟩ := h.ex
  rcases find_spec K w hx h2 h.key with ⟨_, hf⟩ | ⟨j, e', hr, hj, hk, hin⟩
  · exact absurd rfl (hf _ hm)
  · have hc := K.check w es.isEmpty hx
    rw [Array.getElem?_toList] at hj
    have hp := erase_perm hj
    refine ⟨.map (es.eraseIdxIfInBounds j) c, ?_, ?_⟩
    · intro ty
      simp only [Builtin.delete_, hts, Sem.run_bind, run_underlying ht, Result.andThen_ok, getObj, Sem.run, h1, hc, hr, setObj, List.getElem?_toArray, List.getElem?_cons_zero, List.getElem?_cons_succ]
      rfl
    · have hkv : kv e' = (x, u) := by
        have : e'.val = u := uniq_of_nodup h.nodup hin hm
        simp [kv, hk, this]
      have hrest : ((es.eraseIdxIfInBounds j).toList.map kv).Perm l' := by
        have := (hp.map kv).symm.trans (h2.trans hl)
        rw [List.map_cons, hkv] at this
        exact this.cons_inv
      refine ⟨⟨_, _, putBlk_same w b _ hlt, hrest, fun e he => h3 e (hp.mem_iff.2 (List.mem_cons_of_mem _ he)), ?_⟩, fun p hp => h.key p (hl.mem_iff.2 (by simp [hp])), by simpa using (List.nodup_cons.1 hn).2⟩
      exact (by simpa using (hp.map (·.born)).nodup_iff.1 h4 : _ ∧ _).2

/-! ### Ranging over a map: block r is an iterator over block b; `left` is still to come -/
structure Ranging (P : Program) (k : TypeId) (w : World) (r b : Nat) (l left : List (Value × Value)) : Prop where
  ex : ∃ es clock seen, w.heap[b]? = some (.map es clock) ∧ w.heap[r]? = some (.mapIter (some b) clock seen clock) ∧ (es.toList.map kv).Perm l ∧ (∀ e ∈ es.toList, e.born < clock) ∧
    (es.toList.map (·.born)).Nodup ∧ ((es.toList.filter (fun e => !seen.contains e.born)).map kv).Perm left
  key : ∀ p ∈ l, ∃ x, keyOf P k p.1 = some x
  nodup : (l.map (·.1)).Nodup
/-- the entry that the last step has come to -/
def Cur (w : World) (r b : Nat) (p : Value × Value) : Prop :=
  ∃ es clock seen stamp e, w.heap[b]? = some (.map es clock) ∧ w.heap[r]? = some (.mapIter (some b) clock seen clock) ∧ seen.back? = some stamp ∧ es.find? (·.born == stamp) = some e ∧ kv e = p

theorem Ranging.map {r : Nat} {left : List (Value × Value)} (h : Ranging P k w r b l left) : MapIs P k w b l :=
  ⟨by obtain ⟨es, c, _, h1, _, h2, h3, h4, _⟩ := h.ex; exact ⟨es, c, h1, h2, h3, h4⟩, h.key, h.nodup⟩
theorem Ranging.of_blocks {r : Nat} {left : List (Value × Value)} (h : Ranging P k w r b l left) (hb : w'.heap[b]? = w.heap[b]?) (hr : w'.heap[r]? = w.heap[r]?) : Ranging P k w' r b l left :=
  ⟨by obtain ⟨es, c, s, h1, h2, h3⟩ := h.ex; exact ⟨es, c, s, hb.trans h1, hr.trans h2, h3⟩, h.key, h.nodup⟩
theorem Ranging.lt {r : Nat} {left : List (Value × Value)} (h : Ranging P k w r b l left) : r < w.heap.size := by
  obtain ⟨es, c, s, h1, h2, h3⟩ := h.ex
  rcases Nat.lt_or_ge r w.heap.size with hlt | hge
  · exact hlt
  · rw [Array.getElem?_eq_none hge] at h2; cases h2
theorem Ranging.mod {S : Nat → Prop} {r : Nat} {left : List (Value × Value)} (h : Ranging P k w r b l left) (hm : Mod S w w') (hs : ¬ S b) (hs' : ¬ S r) : Ranging P k w' r b l left :=
  h.of_blocks (hm.block b h.map.lt hs) (hm.block r h.lt hs')
theorem Cur.of_blocks {r : Nat} {p : Value × Value} (h : Cur w r b p) (hb : w'.heap[b]? = w.heap[b]?) (hr : w'.heap[r]? = w.heap[r]?) : Cur w' r b p := by
  obtain ⟨es, c, s, st, e, h1, h2, h3⟩ := h; exact ⟨es, c, s, st, e, hb.trans h1, hr.trans h2, h3⟩
theorem Ranging.perm_left {r : Nat} {left left' : List (Value × Value)} (h : Ranging P k w r b l left) (hp : left.Perm left') : Ranging P k w r b l left' :=
  ⟨by obtain ⟨es, c, s, h1, h2, h3, h4, h5, h6⟩ := h.ex; exact ⟨es, c, s, h1, h2, h3, h4, h5, h6.trans hp⟩, h.key, h.nodup⟩
theorem Ranging.sub {r : Nat} {left : List (Value × Value)} (h : Ranging P k w r b l left) : ∀ p ∈ left, p ∈ l := by
  obtain ⟨es, c, s, h1, h2, h3, h4, h5, h6⟩ := h.ex
  intro p hp
  obtain ⟨e, he, rfl⟩ := List.mem_map.1 (h6.mem_iff.2 hp)
  exact h3.mem_iff.1 (List.mem_map.2 ⟨e, (List.mem_filter.1 he).1, rfl⟩)

/-- range m -/
theorem MapIs.range (h : MapIs P k w b l) {t e : TypeId} (ht : P.underlying t = some (.map k e)) :
    ∃ o, (Instr.range t (.map (some b))).run P w = .ok (.pointer (some ⟨w.heap.size, 0, none⟩)) (w.alloc o) ∧ Ranging P k (w.alloc o) w.heap.size b l l := by
  have hlt := h.lt
  obtain ⟨es, c, h1, h2, h3, h4⟩ := h.ex
  refine ⟨.mapIter (some b) c #[] c, ?_, ⟨es, c, #[], (Below.heap_alloc w _ b hlt).trans h1, heap_alloc_new w _, h2, h3, h4, ?_⟩, h.key, h.nodup⟩
  · simp only [Instr.range, Sem.run_bind, run_underlying ht, Result.andThen_ok, getObj, Sem.run, h1, newObj, Sem.run_pure]
    rfl
  · rw [List.filter_eq_self.2 (by simp)]; exact h2

theorem Ranging.next_end {r : Nat} (h : Ranging P k w r b l []) (ty : TypeId) : (Instr.next (.pointer (some ⟨r, 0, none⟩)) false ty).run P w = .ok (.tuple #[.bool false]) w := by
  obtain ⟨es, c, s, h1, h2, h3, h4, h5, h6⟩ := h.ex
  have hl : es.toList.filter (fun e => !s.contains e.born) = [] := by simpa using h6.eq_nil
  have hl' : es.filter (fun e => !s.contains e.born) = #[] := by
    apply Array.toList_inj.1; rw [Array.toList_filter]; exact hl
  have hno : (!s.isEmpty && !es.isEmpty && es.all (fun e => decide (e.born ≥ c))) = false := by
    by_cases he : es.isEmpty = true
    · simp [he]
    · have : es.all (fun e => decide (e.born ≥ c)) = false := by
        have hpos : 0 < es.size := by
          rcases Nat.eq_zero_or_pos es.size with h0 | h0
          · exact absurd (by simp [Array.isEmpty, h0]) he
          · exact h0
        rw [Array.all_eq_false]
        exact ⟨0, hpos, by have := h4 es[0] (by simp); simp; omega⟩
      rw [this]; simp
  simp only [Instr.next, Sem.run_bind, Result.andThen_ok, getObj, Sem.run, h1, h2, hno, hl']
  simp [choose, Sem.run, Question.forced, Sem.run_bind]

theorem nodup_kv {es : List MapEntry} (h : (es.map (·.born)).Nodup) : es.Nodup := by
  induction es with
  | nil => exact .nil
  | cons e r ih =>
    simp only [List.map_cons, List.nodup_cons] at h ⊢
    exact ⟨fun hin => h.1 (List.mem_map.2 ⟨e, hin, rfl⟩), ih h.2⟩

theorem Ranging.next_some {r : Nat} {left : List (Value × Value)} (h : Ranging P k w r b l left) (hne : left ≠ []) :
    ∃ p left' w', (∀ ty, (Instr.next (.pointer (some ⟨r, 0, none⟩)) false ty).run P w = .ok (.tuple #[.bool true, p.1, p.2]) w') ∧ left.Perm (p :: left') ∧ Ranging P k w' r b l left' ∧ Cur w' r b p ∧ Mod (· = r) w w' ∧ w'.heap.size = w.heap.size := by
  have hrl := h.lt
  obtain ⟨es, c, s, h1, h2, h3, h4, h5, h6⟩ := h.ex
  have hbr : b ≠ r := by rintro rfl; rw [h1] at h2; cases h2
  have hno : (!s.isEmpty && !es.isEmpty && es.all (fun e => decide (e.born ≥ c))) = false := by
    by_cases he : es.isEmpty = true
    · simp [he]
    · have : es.all (fun e => decide (e.born ≥ c)) = false := by
        have hpos : 0 < es.size := by
          rcases Nat.eq_zero_or_pos es.size with h0 | h0
          · exact absurd (by simp [Array.isEmpty, h0]) he
          · exact h0
        rw [Array.all_eq_false]
        exact ⟨0, hpos, by have := h4 es[0] (by simp); simp; omega⟩
      rw [this]; simp
  -- what is left
  obtain ⟨L, hL⟩ : ∃ L, L = es.filter (fun e => !s.contains e.born) := ⟨_, rfl⟩
  have hLl : L.toList = es.toList.filter (fun e => !s.contains e.born) := by rw [hL, Array.toList_filter]
  have hLm : ∀ e ∈ L, e ∈ es.toList ∧ s.contains e.born = false := by
    intro e he
    have : e ∈ L.toList := by simpa using he
    rw [hLl, List.mem_filter] at this
    exact ⟨this.1, by simpa using this.2⟩
  have hLne : L.isEmpty = false := by
    cases hl : L.isEmpty
    · rfl
    · have : L = #[] := by simpa [Array.isEmpty_iff] using hl
      rw [← hLl, this] at h6
      exact absurd h6.symm.eq_nil hne
  have hold : L.filter (fun e => decide (e.born < c)) = L := by
    rw [Array.filter_eq_self]
    intro e he
    simpa using h4 e (hLm e he).1
  have hnew : L.filter (fun e => decide (e.born ≥ c)) = #[] := by
    rw [Array.filter_eq_empty_iff]
    intro e he
    have := h4 e (hLm e he).1
    simp; omega
  have hcand : ((if (L.filter (fun e => decide (e.born < c))).isEmpty then #[none] else #[]) ++ (L.filter (fun e => decide (e.born < c)) ++ L.filter (fun e => decide (e.born ≥ c))).map some : Array (Option MapEntry)) = L.map some := by
    rw [hold, hLne, hnew]; simp
  -- the draw
  have hpos : 0 < L.size := by
    rcases Nat.eq_zero_or_pos L.size with h0 | h0
    · exact absurd hLne (by simp [Array.isEmpty, h0])
    · exact h0
  obtain ⟨j, wj, hj, hch, hwh, hwo⟩ : ∃ j wj, j < L.size ∧ (choose (.mapNext (L.map some).size)).run P w = .ok j wj ∧ wj.heap = w.heap ∧ (wj.os = w.os ∧ wj.tape = w.tape ∧ wj.output = w.output) := by
    by_cases hf : (Question.mapNext (L.map some).size).forced = true
    · exact ⟨0, w, hpos, by simp only [choose, Sem.run]; rw [if_pos hf], rfl, rfl, rfl, rfl⟩
    · refine ⟨_, { w with drawn := w.drawn + 1 }, ?_, by simp only [choose, Sem.run]; rw [if_neg hf], rfl, rfl, rfl, rfl⟩
      simp only [Question.cut, Array.size_map]
      exact Nat.mod_lt _ hpos
  have hget : (L.map some)[j]? = some (some L[j]) := by simp [hj]
  obtain ⟨e, he⟩ : ∃ e, e = L[j] := ⟨_, rfl⟩
  have heL : e ∈ L := by rw [he]; exact Array.getElem_mem hj
  obtain ⟨hees, hens⟩ := hLm e heL
  have hset : (setObj r (.mapIter (some b) c (s.push e.born) c)).run P wj = .ok () (putBlk wj r (.mapIter (some b) c (s.push e.born) c)) := by
    have h2' : wj.heap[r]? = some (.mapIter (some b) c s c) := by rw [hwh]; exact h2
    simp only [setObj, Sem.run, h2']; rfl
  have hnd := nodup_kv h5
  have hfilt : (es.toList.filter (fun e' => !(s.push e.born).contains e'.born)) = (L.toList.filter (fun e' => !(e'.born == e.born))) := by
    rw [hLl, List.filter_filter]
    apply List.filter_congr
    intro x hx
    have hcp : (s.push e.born).contains x.born = (s.contains x.born || x.born == e.born) := by
      rw [Bool.eq_iff_iff]; simp [Array.mem_push]
    rw [hcp, Bool.not_or, Bool.and_comm]
  have hperm : L.toList.Perm (e :: L.toList.filter (fun e' => !(e'.born == e.born))) := by
    have hndL : (L.toList.map (·.born)).Nodup := by rw [hLl]; exact h5.sublist (List.filter_sublist.map _)
    have heL' : e ∈ L.toList := by simpa using heL
    generalize L.toList = M at hndL heL'
    induction M with
    | nil => cases heL'
    | cons x M ih =>
      simp only [List.map_cons, List.nodup_cons] at hndL
      rcases List.mem_cons.1 heL' with rfl | hin
      · have : (e :: M).filter (fun e' => !(e'.born == e.born)) = M := by
          rw [List.filter_cons_of_neg (by simp), List.filter_eq_self]
          intro y hy
          have : y.born ≠ e.born := fun hh => hndL.1 (by rw [← hh]; exact List.mem_map_of_mem hy)
          simpa using this
        rw [this]
      · have hx : x.born ≠ e.born := fun hh => hndL.1 (by rw [hh]; exact List.mem_map_of_mem hin)
        rw [List.filter_cons_of_pos (by simpa using hx)]
        exact ((ih hndL.2 hin).cons x).trans (List.Perm.swap _ _ _)
  have hwr : r < wj.heap.size := by rw [hwh]; exact hrl
  have hb' : (putBlk wj r (.mapIter (some b) c (s.push e.born) c)).heap[b]? = some (.map es c) := (putBlk_other _ _ _ _ hbr).trans (by rw [hwh]; exact h1)
  have hr' := putBlk_same wj r (.mapIter (some b) c (s.push e.born) c) hwr
  refine ⟨kv e, (L.toList.filter (fun e' => !(e'.born == e.born))).map kv, putBlk wj r (.mapIter (some b) c (s.push e.born) c), ?_, ?_, ⟨⟨es, c, s.push e.born, hb', hr', h3, h4, h5, ?_⟩, h.key, h.nodup⟩, ?_, ?_, ?_⟩
  · intro ty
    simp only [Instr.next, Sem.run_bind, Result.andThen_ok, getObj, Sem.run, h1, h2, hno, Bool.false_eq_true, if_false]
    simp only [← hL, hcand]
    simp only [hch, Result.andThen_ok, hget, ← he, Sem.run_bind, hset, Sem.run_pure, kv]
  · rw [← hLl] at h6
    exact h6.symm.trans (hperm.map kv)
  · rw [hfilt]
  · refine ⟨es, c, s.push e.born, e.born, e, hb', hr', by simp, ?_, rfl⟩
    rw [← Array.find?_toList]
    have : ∀ M : List MapEntry, (M.map (·.born)).Nodup → e ∈ M → M.find? (·.born == e.born) = some e := by
      intro M
      induction M with
      | nil => intro _ h; cases h
      | cons x M ih =>
        intro hn hm
        simp only [List.map_cons, List.nodup_cons] at hn
        rcases List.mem_cons.1 hm with rfl | hm
        · simp
        · have hx : x.born ≠ e.born := fun hh => hn.1 (by rw [hh]; exact List.mem_map_of_mem hm)
          rw [List.find?_cons_of_neg (by simpa using hx)]
          exact ih hn.2 hm
    exact this _ h5 hees
  · exact (show Mod (· = r) w wj from ⟨hwo.1, hwo.2.1, hwo.2.2, by rw [hwh]; exact Nat.le_refl _, fun k _ _ => by rw [hwh]⟩).putBlk (.inr rfl) _
  · simp [hwh]

theorem Cur.entry {r : Nat} {p : Value × Value} (h : Cur w r b p) : (Instr.entry (.pointer (some ⟨r, 0, none⟩))).run P w = .ok (.tuple #[p.1, p.2]) w := by
  obtain ⟨es, c, s, st, e, h1, h2, h3, h4, rfl⟩ := h
  simp only [Instr.entry, Sem.run_bind, Result.andThen_ok, getObj, Sem.run, h1, h2, h3, h4, kv]
  simp

/-- delete(m, x) in a round over m, x being no key that is still to come -/
theorem Ranging.drop {r : Nat} {left : List (Value × Value)} (h : Ranging P k w r b l left) (K : Keyed P k) {t e : TypeId} {ts : Array TypeId} (hts : ts[0]? = some t) (ht : P.underlying t = some (.map k e)) {x u : Value} {l' : List (Value × Value)}
    (hl : l.Perm ((x, u) :: l')) (hnl : (x, u) ∉ left) :
    ∃ o, (∀ ty, (Builtin.delete_ ts ty #[.map (some b), x]).run P w = .ok (.tuple #[]) (putBlk w b o)) ∧ Ranging P k (putBlk w b o) r b l' left := by
  have hlt := h.map.lt
  have hm : (x, u) ∈ l := hl.mem_iff.2 (by simp)
  obtain ⟨lx, hx⟩ := h.key _ hm
  have hn : ((x, u) :: l').map (·.1) |>.Nodup := (hl.map _).nodup_iff.1 h.nodup
  have hkey := h.key
  have hnod := h.nodup
  obtain ⟨es, c, s, h1, hr0, h2, h3, h4, h5⟩ := h.ex
  have hbr : r ≠ b := by rintro rfl; rw [h1] at hr0; cases hr0
  rcases find_spec K w hx h2 hkey with ⟨_, hf⟩ | ⟨j, e', hr, hj, hk, hin⟩
  · exact absurd rfl (hf _ hm)
  · have hc := K.check w es.isEmpty hx
    rw [Array.getElem?_toList] at hj
    have hp := erase_perm hj
    have hkv : kv e' = (x, u) := by
      have : e'.val = u := uniq_of_nodup hnod hin hm
      simp [kv, hk, this]
    have hrest : ((es.eraseIdxIfInBounds j).toList.map kv).Perm l' := by
      have := (hp.map kv).symm.trans (h2.trans hl)
      rw [List.map_cons, hkv] at this
      exact this.cons_inv
    refine ⟨.map (es.eraseIdxIfInBounds j) c, ?_, ⟨_, _, s, putBlk_same w b _ hlt, (putBlk_other _ _ _ _ hbr).trans hr0, hrest, fun e he => h3 e (hp.mem_iff.2 (List.mem_cons_of_mem _ he)), ?_, ?_⟩, fun p hp => hkey p (hl.mem_iff.2 (List.mem_cons_of_mem _ hp)), by simpa using (List.nodup_cons.1 hn).2⟩
    · intro ty
      simp only [Builtin.delete_, hts, Sem.run_bind, run_underlying ht, Result.andThen_ok, getObj, Sem.run, h1, hc, hr, setObj, List.getElem?_toArray, List.getElem?_cons_zero, List.getElem?_cons_succ]
      rfl
    · exact (by simpa using (hp.map (·.born)).nodup_iff.1 h4 : _ ∧ _).2
    · refine List.Perm.trans ?_ h5
      refine List.Perm.map _ ?_
      refine ((hp.filter _).trans ?_).symm
      rw [List.filter_cons_of_neg]
      intro hs
      refine hnl (h5.mem_iff.1 (List.mem_map.2 ⟨e', List.mem_filter.2 ⟨hp.mem_iff.2 (by simp), hs⟩, hkv⟩))
end
end Go.Proofs.Ytabebkffcmajkaa

namespace Go.Proofs.Ytabebkffcmajkaa
open Go.RowKit Go.Maps
/-! ### A block that is known whole -/
def Blk (w : World) (g : Nat) (t : TypeId) (cs : Array Value) : Prop := w.heap[g]? = some (.cells cs t (0, 0))
section
variable {w w' : World} {g : Nat} {t : TypeId} {cs : Array Value}
theorem Blk.lt (h : Blk w g t cs) : g < w.heap.size := by
  rcases Nat.lt_or_ge g w.heap.size with hlt | hge
  · exact hlt
  · unfold Blk at h; rw [Array.getElem?_eq_none hge] at h; cases h
theorem Blk.cell (h : Blk w g t cs) (i : Nat) : w.cell? ⟨g, i, none⟩ = cs[i]? := cell_of_row w g i cs t (0, 0) h
theorem Blk.frozen (h : Blk w g t cs) (i : Nat) : w.frozen? ⟨g, i, none⟩ = false := by
  unfold Blk at h
  simp [World.frozen?, h]
theorem Blk.new (w : World) (t : TypeId) (cs : Array Value) : Blk (w.alloc (.cells cs t)) w.heap.size t cs := heap_alloc_new w _
theorem Blk.drew (h : Blk w g t cs) : Blk w.drew g t cs := h
theorem Blk.alloc (h : Blk w g t cs) (o : Obj) : Blk (w.alloc o) g t cs := (Below.heap_alloc w o g h.lt).trans h
theorem Blk.set_ (h : Blk w g t cs) (i : Nat) (u : Value) : Blk (w.setCell ⟨g, i, none⟩ u) g t (cs.setIfInBounds i u) := by
  unfold Blk at h ⊢
  simp [World.setCell, Array.getElem?_modify, h]
theorem Blk.row (h : Blk w g t cs) (cs' : Array Value) : Blk (w.setRow g cs') g t cs' := setRow_heap w g cs cs' t _ h
theorem Blk.mod {S : Nat → Prop} (h : Blk w g t cs) (hm : Mod S w w') (hs : ¬ S g) : Blk w' g t cs := (hm.block g h.lt hs).trans h
theorem Blk.of_block (h : Blk w g t cs) (hb : w'.heap[g]? = w.heap[g]?) : Blk w' g t cs := hb.trans h
end
theorem Mod.setRow {S : Nat → Prop} {a w : World} (h : Mod S a w) {g : Nat} (hg : a.heap.size ≤ g ∨ S g) (cs : Array Value) : Mod S a (w.setRow g cs) :=
  ⟨h.os, h.tape, h.output, by simpa using h.size, fun k hk hs => (setRow_other w g k cs (by
      rintro rfl
      rcases hg with hg | hg
      · omega
      · exact hs hg)).trans (h.block k hk hs)⟩
/-- a variable that is laid and then stored into, whole -/
theorem alloc_setRow (w : World) (cs cs' : Array Value) (t : TypeId) : (w.alloc (.cells cs t)).setRow w.heap.size cs' = w.alloc (.cells cs' t) := by
  unfold World.setRow World.alloc
  congr 1
  apply Array.ext_getElem?
  intro i
  by_cases hi : i = w.heap.size
  · subst hi; simp [Array.getElem_modify]
  · rw [Array.getElem?_modify, if_neg (Ne.symm hi), Array.getElem?_push, Array.getElem?_push, if_neg hi, if_neg hi]

theorem alloc2_setRow (w : World) (cs cs' : Array Value) (t : TypeId) (o : Obj) : ((w.alloc (.cells cs t)).alloc o).setRow w.heap.size cs' = (w.alloc (.cells cs' t)).alloc o := by
  unfold World.setRow World.alloc
  congr 1
  apply Array.ext_getElem?
  intro i
  by_cases hi : i = w.heap.size
  · subst hi; simp [Array.getElem?_modify, Array.getElem?_push, Array.getElem_push]
  · rw [Array.getElem?_modify, if_neg (Ne.symm hi), Array.getElem?_push, Array.getElem?_push, Array.getElem?_push, Array.getElem?_push, if_neg hi, if_neg hi]
    simp
theorem results_cell_tmp {P : Program} {fn : Func} {p q : Tmp} {ty : TypeId} (h : fn.results = #[.cell p ty, .tmp q]) (tmps : Array Value) (w : World) (g : Nat) (t : TypeId) (cs : Array Value) (fr : Nat × Nat) (d : TypeDesc)
    (hp : tmps.getD p undef = .pointer (some ⟨g, 0, none⟩)) (hg : w.heap[g]? = some (.cells cs t fr))
    (hu : P.underlying ty = some d) (hd : (match d with | .struct _ | .array _ _ => true | _ => false) = true) (hi : (P.info? ty).map (·.size) = some cs.size) :
    (results fn tmps).run P w = .ok (.tuple #[.agg cs, tmps.getD q undef]) w := by
  have hp' : tmps[p]?.getD undef = .pointer (some ⟨g, 0, none⟩) := by simpa using hp
  simp [results, h, hp', asAddr, run_loadVar_row w g t ty cs fr d hg hu hd hi]

section
variable {P : Program} {ops : Array Oper} {rest : List Oper} {o : Oper} {a : Act} {w w' : World} {Q : Exit → Act → World → Prop} {v : Value}
/-! what one operation does, out of what its instruction does -/
theorem ex_lookup {v : Value} {t : TypeId} {x y : Operand} {c : Bool} (h : o.op = .lookup t x y c) (hr : (Instr.lookup t (a.eval x) (a.eval y) c).run P w = .ok v w') : (execOp a.eval o).run P w = .ok (.value v) w' := by
  unfold execOp; simp only [h, Sem.run_bind, hr, Result.andThen_ok, Sem.run_pure]
theorem ex_load {v : Value} {t : TypeId} {x : Operand} (h : o.op = .load t x) (hr : (Instr.loadAt t (a.eval x)).run P w = .ok v w') : (execOp a.eval o).run P w = .ok (.value v) w' := by
  unfold execOp; simp only [h, Sem.run_bind, hr, Result.andThen_ok, Sem.run_pure]
theorem ex_build {v : Value} {t : TypeId} {ps : List (Nat × Operand)} (h : o.op = .build t ps.toArray) (hr : (Instr.build t (ps.map fun (i, x) => (i, a.eval x)).toArray).run P w = .ok v w') : (execOp a.eval o).run P w = .ok (.value v) w' := by
  unfold execOp; simp only [h, Sem.run_bind, List.map_toArray, hr, Result.andThen_ok, Sem.run_pure]
theorem ex_buildSlice {v : Value} {t : TypeId} {n : Nat} {ps : List (Nat × Operand)} (h : o.op = .buildSlice t n ps.toArray) (hr : (Instr.buildSlice t n (ps.map fun (i, x) => (i, a.eval x)).toArray).run P w = .ok v w') : (execOp a.eval o).run P w = .ok (.value v) w' := by
  unfold execOp; simp only [h, Sem.run_bind, List.map_toArray, hr, Result.andThen_ok, Sem.run_pure]
theorem ex_convert {v : Value} {s t : TypeId} {x : Operand} (h : o.op = .convert s t x) (hr : (Go.convert s t (a.eval x)).run P w = .ok v w') : (execOp a.eval o).run P w = .ok (.value v) w' := by
  unfold execOp; simp only [h, Sem.run_bind, hr, Result.andThen_ok, Sem.run_pure]
theorem ex_makeMap {v : Value} {t : TypeId} {x : Option Operand} (h : o.op = .makeMap t x) (hr : (Instr.makeMap t (x.map a.eval)).run P w = .ok v w') : (execOp a.eval o).run P w = .ok (.value v) w' := by
  unfold execOp; simp only [h, Sem.run_bind, hr, Result.andThen_ok, Sem.run_pure]
theorem ex_makeSlice {v : Value} {t : TypeId} {x y : Operand} (h : o.op = .makeSlice t x y) (hr : (Instr.makeSlice t (a.eval x) (a.eval y)).run P w = .ok v w') : (execOp a.eval o).run P w = .ok (.value v) w' := by
  unfold execOp; simp only [h, Sem.run_bind, hr, Result.andThen_ok, Sem.run_pure]
theorem ex_box {v : Value} {t : TypeId} {x : Operand} (h : o.op = .box t x) (hr : (Instr.box t (a.eval x)).run P w = .ok v w') : (execOp a.eval o).run P w = .ok (.value v) w' := by
  unfold execOp; simp only [h, Sem.run_bind, hr, Result.andThen_ok, Sem.run_pure]
theorem ex_range {v : Value} {t : TypeId} {x : Operand} (h : o.op = .range t x) (hr : (Instr.range t (a.eval x)).run P w = .ok v w') : (execOp a.eval o).run P w = .ok (.value v) w' := by
  unfold execOp; simp only [h, Sem.run_bind, hr, Result.andThen_ok, Sem.run_pure]
theorem ex_next {v : Value} {x : Operand} {b : Bool} (h : o.op = .next x b) (hr : (Instr.next (a.eval x) b o.type).run P w = .ok v w') : (execOp a.eval o).run P w = .ok (.value v) w' := by
  unfold execOp; simp only [h, Sem.run_bind, hr, Result.andThen_ok, Sem.run_pure]
theorem ex_entry {v : Value} {x : Operand} (h : o.op = .entry x) (hr : (Instr.entry (a.eval x)).run P w = .ok v w') : (execOp a.eval o).run P w = .ok (.value v) w' := by
  unfold execOp; simp only [h, Sem.run_bind, hr, Result.andThen_ok, Sem.run_pure]
theorem ex_slice {v : Value} {t : TypeId} {x : Operand} {lo hi mx : Option Operand} (h : o.op = .slice t x lo hi mx) (hr : (Instr.sliceAt t (a.eval x) (lo.map a.eval) (hi.map a.eval) (mx.map a.eval)).run P w = .ok v w') : (execOp a.eval o).run P w = .ok (.value v) w' := by
  unfold execOp; simp only [h, Sem.run_bind, hr, Result.andThen_ok, Sem.run_pure]
theorem ex_indexAddr {v : Value} {t : TypeId} {x y : Operand} (h : o.op = .indexAddr t x y) (hr : (Instr.indexAt t (a.eval x) (a.eval y)).run P w = .ok v w') : (execOp a.eval o).run P w = .ok (.value v) w' := by
  unfold execOp; simp only [h, Sem.run_bind, hr, Result.andThen_ok, Sem.run_pure]
theorem ex_mapUpdate {t : TypeId} {m k x : Operand} (h : o.op = .mapUpdate t m k x) (hr : (Instr.mapUpdate t (a.eval m) (a.eval k) (a.eval x)).run P w = .ok () w') : (execOp a.eval o).run P w = .ok .skip w' := by
  unfold execOp; simp only [h, Sem.run_bind, hr, Result.andThen_ok, Sem.run_pure]
theorem ex_store {t : TypeId} {m x : Operand} (h : o.op = .store t m x) (hr : (Instr.storeAt t (a.eval m) (a.eval x)).run P w = .ok () w') : (execOp a.eval o).run P w = .ok .skip w' := by
  unfold execOp; simp only [h, Sem.run_bind, hr, Result.andThen_ok, Sem.run_pure]
theorem ex_append {v : Value} {xs : List Operand} {ts : Array TypeId} (h : o.op = .call { callee := .builtin .append, args := xs.toArray, argTypes := ts }) (hr : (Builtin.append_ ts o.type (xs.map a.eval).toArray).run P w = .ok v w') : (execOp a.eval o).run P w = .ok (.value v) w' := by
  unfold execOp; simp only [h, resolve, invoke, builtin, Sem.run_bind, Sem.run_pure, List.map_toArray, hr, Result.andThen_ok]
theorem ex_copy {v : Value} {xs : List Operand} {ts : Array TypeId} (h : o.op = .call { callee := .builtin .copy, args := xs.toArray, argTypes := ts }) (hr : (Builtin.copy_ ts o.type (xs.map a.eval).toArray).run P w = .ok v w') : (execOp a.eval o).run P w = .ok (.value v) w' := by
  unfold execOp; simp only [h, resolve, invoke, builtin, Sem.run_bind, Sem.run_pure, List.map_toArray, hr, Result.andThen_ok]
theorem ex_delete {v : Value} {xs : List Operand} {ts : Array TypeId} (h : o.op = .call { callee := .builtin .delete, args := xs.toArray, argTypes := ts }) (hr : (Builtin.delete_ ts o.type (xs.map a.eval).toArray).run P w = .ok v w') : (execOp a.eval o).run P w = .ok (.value v) w' := by
  unfold execOp; simp only [h, resolve, invoke, builtin, Sem.run_bind, Sem.run_pure, List.map_toArray, hr, Result.andThen_ok]
theorem ex_len {v : Value} {xs : List Operand} {ts : Array TypeId} (h : o.op = .call { callee := .builtin .len, args := xs.toArray, argTypes := ts }) (hr : (Builtin.len_ ts o.type (xs.map a.eval).toArray).run P w = .ok v w') : (execOp a.eval o).run P w = .ok (.value v) w' := by
  unfold execOp; simp only [h, resolve, invoke, builtin, Sem.run_bind, Sem.run_pure, List.map_toArray, hr, Result.andThen_ok]
theorem run_loadRow {g : Nat} {t ty : TypeId} {cs : Array Value} {d : TypeDesc} (hg : Blk w g t cs) (hu : P.underlying ty = some d) (hd : (match d with | .struct _ | .array _ _ => true | _ => false) = true) (hi : (P.info? ty).map (·.size) = some cs.size) :
    (Instr.loadAt ty (.pointer (some ⟨g, 0, none⟩))).run P w = .ok (.agg cs) w := by
  simp only [Instr.loadAt, Instr.sureAddr, Sem.run_bind, Sem.run_pure, Result.andThen_ok, run_loadVar_row w g t ty cs (0, 0) d hg hu hd hi]
/-- guards: is this the operation that writes slot n; that stores to tx? -/
theorem at_slot (n : Nat) {op : Op} {ty : TypeId} {pos : String} {after : Array Edge} {g : Option (Nat × Bool)} (h : wpList P ops Q (⟨some n, op, ty, pos, after, g⟩ :: rest) a w) : wpList P ops Q (⟨some n, op, ty, pos, after, g⟩ :: rest) a w := h
theorem at_update {t : TypeId} {m k x : Operand} {d : Option Tmp} {ty : TypeId} {pos : String} {after : Array Edge} {g : Option (Nat × Bool)} (h : wpList P ops Q (⟨d, .mapUpdate t m k x, ty, pos, after, g⟩ :: rest) a w) : wpList P ops Q (⟨d, .mapUpdate t m k x, ty, pos, after, g⟩ :: rest) a w := h
theorem at_delete_ {xs : Array Operand} {ts : Array TypeId} {d : Option Tmp} {ty : TypeId} {pos : String} {after : Array Edge} {g : Option (Nat × Bool)} (h : wpList P ops Q (⟨d, .call ⟨.builtin .delete, xs, ts⟩, ty, pos, after, g⟩ :: rest) a w) : wpList P ops Q (⟨d, .call ⟨.builtin .delete, xs, ts⟩, ty, pos, after, g⟩ :: rest) a w := h
theorem at_none (t : TypeId) (x y : Nat) {ty : TypeId} {pos : String} {after : Array Edge} {g : Option (Nat × Bool)} (h : wpList P ops Q (⟨none, .store t (.tmp x) (.tmp y), ty, pos, after, g⟩ :: rest) a w) : wpList P ops Q (⟨none, .store t (.tmp x) (.tmp y), ty, pos, after, g⟩ :: rest) a w := h
/-- `x := v` of a struct in a variable of its own: two operations -/
theorem wpList_declare {o1 o2 : Oper} (hg1 : o1.guard = none) (hg2 : o2.guard = none) (t : TypeId) (d : Tmp) (y : Operand) (h1 : o1.op = .alloc t) (hd1 : o1.dst = some d) (h2 : o2.op = .store t (.tmp d) y)
    (z cells : Array Value) (hz : ∀ w, (zeroValue t).run P w = .ok (.agg z) w) (hi : (P.info? t).map (·.size) = some cells.size) (hzc : z.size = cells.size) (hone : cells.all (·.oneCell') = true)
    (hlt : d < a.tmps.size) (hy : (a.put (some d) (.pointer (some ⟨w.heap.size, 0, none⟩))).eval y = .agg cells)
    (h : wpList P ops Q rest ((a.put (some d) (.pointer (some ⟨w.heap.size, 0, none⟩))).put o2.dst undef) (w.alloc (.cells cells t))) : wpList P ops Q (o1 :: o2 :: rest) a w := by
  refine wpList_val hg1 (v := .pointer (some ⟨w.heap.size, 0, none⟩)) (w' := w.alloc (.cells z t)) ?_ ?_
  · unfold execOp
    simp only [h1, Instr.alloc, newVar, newRow, newObj, Sem.run_bind, hz, Result.andThen_ok, Value.cells, Sem.run, Sem.run_pure]
    rfl
  · rw [hd1]
    refine wpList_store_row hg2 t (.tmp d) y h2 w.heap.size cells ?_ hy t z (Blk.new w t z) hi hzc hone ?_
    · simp [Act.eval, Act.put, hlt]
    · rw [alloc_setRow]; exact h
theorem wpList_alloc (hg : o.guard = none) (t : TypeId) (h1 : o.op = .alloc t) (z : Value) (hz : ∀ w, (zeroValue t).run P w = .ok z w)
    (h : wpList P ops Q rest (a.put o.dst (.pointer (some ⟨w.heap.size, 0, none⟩))) (w.alloc (.cells z.cells t))) : wpList P ops Q (o :: rest) a w := by
  refine wpList_val hg (v := .pointer (some ⟨w.heap.size, 0, none⟩)) (w' := w.alloc (.cells z.cells t)) ?_ h
  unfold execOp
  simp only [h1, Instr.alloc, newVar, newRow, newObj, Sem.run_bind, hz, Result.andThen_ok, Sem.run, Sem.run_pure]
  rfl
end
end Go.Proofs.Ytabebkffcmajkaa
