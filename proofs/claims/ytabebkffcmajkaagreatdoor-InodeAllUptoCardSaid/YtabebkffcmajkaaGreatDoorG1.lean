import Derived.WalkKit
import Derived.WalkSpells
import Derived.WalkLawsBesides
import Derived.StillTailTactics
import Derived.Deep.QuietTactic
import Derived.BigQuiet
import Derived.Maps.Own
import Derived.Maps.Keyed
import Derived.Outline
import Derived.Test.YtabebkffcmajkaaGreatDoorProg
import Derived.DeepKeys5
import Derived.KernelRfl
import Derived.Lib.BufferWrite
import Derived.Lib.ConvBytes
/-! Words on worlds: what a call may have changed; steps of a walk by a run equation; maps as lists of pairs. -/
namespace Go.Proofs.YtabebkffcmajkaaGreatDoor
open Go.RowKit Go.Maps

theorem hide {p : Prop} (h : p) : Hid p := h
/-! ### What may have changed -/
structure Mod (S : Nat → Prop) (w w' : World) : Prop where
  os : w'.os = w.os
  tape : w'.tape = w.tape
  output : w'.output = w.output
  size : w.heap.size ≤ w'.heap.size
  block : ∀ k, k < w.heap.size → ¬ S k → w'.heap[k]? = w.heap[k]?

def None_ : Nat → Prop := fun _ => False

theorem Mod.refl (S : Nat → Prop) (w : World) : Mod S w w := ⟨rfl, rfl, rfl, Nat.le_refl _, fun _ _ _ => rfl⟩
theorem Mod.trans' {S T : Nat → Prop} {a b c : World} (h : Mod S a b) (k : Mod T b c) (hT : ∀ k, k < a.heap.size → T k → S k) : Mod S a c :=
  ⟨k.os.trans h.os, k.tape.trans h.tape, k.output.trans h.output, Nat.le_trans h.size k.size,
   fun i hi hs => (k.block i (Nat.lt_of_lt_of_le hi h.size) (fun t => hs (hT i hi t))).trans (h.block i hi hs)⟩
theorem Mod.trans {S : Nat → Prop} {a b c : World} (h : Mod S a b) (k : Mod S b c) : Mod S a c := h.trans' k fun _ _ t => t
theorem Mod.mono {S T : Nat → Prop} {a b : World} (h : Mod S a b) (hT : ∀ k, k < a.heap.size → S k → T k) : Mod T a b :=
  ⟨h.os, h.tape, h.output, h.size, fun i hi hs => h.block i hi (fun t => hs (hT i hi t))⟩
theorem Mod.drew {S : Nat → Prop} {a w : World} (h : Mod S a w) : Mod S a w.drew := ⟨h.os, h.tape, h.output, h.size, h.block⟩
theorem Mod.drewN {S : Nat → Prop} {a w : World} (h : Mod S a w) (n : Nat) : Mod S a (w.drewN n) := ⟨h.os, h.tape, h.output, h.size, h.block⟩
theorem Mod.alloc {S : Nat → Prop} {a w : World} (h : Mod S a w) (o : Obj) : Mod S a (w.alloc o) :=
  ⟨h.os, h.tape, h.output, Nat.le_trans h.size (by simp), fun k hk hs => (Below.heap_alloc w o k (Nat.lt_of_lt_of_le hk h.size)).trans (h.block k hk hs)⟩
theorem Mod.setCell {S : Nat → Prop} {a w : World} (h : Mod S a w) {p : Addr} (hp : a.heap.size ≤ p.block ∨ S p.block) (u : Value) : Mod S a (w.setCell p u) :=
  ⟨h.os, h.tape, h.output, by simpa [World.setCell] using h.size, fun k hk hs => (Below.heap_setCell w p u k (by
      rintro rfl
      rcases hp with hp | hp
      · omega
      · exact hs hp)).trans (h.block k hk hs)⟩
theorem Mod.of_below {w w' : World} (h : Below w.heap.size w w') : Mod None_ w w' := ⟨h.os, h.tape, h.output, h.size, fun k hk _ => h.block k hk⟩
theorem Mod.below {w w' : World} (h : Mod None_ w w') : Below w.heap.size w w' := ⟨h.os, h.tape, h.output, h.size, fun k hk => h.block k hk id⟩
theorem Mod.none {S : Nat → Prop} {w w' : World} (h : Mod None_ w w') : Mod S w w' := h.mono fun _ _ f => f.elim
/-- any world of another heap -/
def putBlk (w : World) (b : Nat) (o : Obj) : World := { w with heap := w.heap.setIfInBounds b o }
@[simp] theorem putBlk_size (w : World) (b : Nat) (o : Obj) : (putBlk w b o).heap.size = w.heap.size := by simp [putBlk]
theorem putBlk_same (w : World) (b : Nat) (o : Obj) (h : b < w.heap.size) : (putBlk w b o).heap[b]? = some o := by simp [putBlk, h]
theorem putBlk_other (w : World) (b k : Nat) (o : Obj) (h : k ≠ b) : (putBlk w b o).heap[k]? = w.heap[k]? := by
  simp [putBlk, Ne.symm h]
theorem Mod.putBlk {S : Nat → Prop} {a w : World} (h : Mod S a w) {b : Nat} (hb : a.heap.size ≤ b ∨ S b) (o : Obj) : Mod S a (putBlk w b o) :=
  ⟨h.os, h.tape, h.output, by simpa using h.size, fun k hk hs => (putBlk_other w b k o (by
      rintro rfl
      rcases hb with hb | hb
      · omega
      · exact hs hb)).trans (h.block k hk hs)⟩

theorem alloc_size (w : World) (o : Obj) : (w.alloc o).heap.size = w.heap.size + 1 := by simp
theorem size_drew (w : World) : w.drew.heap.size = w.heap.size := rfl
theorem heap_drew' (w : World) (k : Nat) : w.drew.heap[k]? = w.heap[k]? := rfl

/-! ### Steps by a run equation -/
section
variable {P : Program} {ops : Array Oper} {rest : List Oper} {o : Oper} {a : Act} {w w' : World} {Q : Exit → Act → World → Prop} {v : Value}
theorem wpList_val (hg : o.guard = none) (hr : (execOp a.eval o).run P w = .ok (.value v) w') (h : wpList P ops Q rest (a.put o.dst v) w') : wpList P ops Q (o :: rest) a w :=
  wpList_plain hg fun _ hK => by unfold Oper.wp; rw [hr]; exact hK _ _ h
theorem wpList_skp (hg : o.guard = none) (hr : (execOp a.eval o).run P w = .ok .skip w') (h : wpList P ops Q rest (a.put o.dst undef) w') : wpList P ops Q (o :: rest) a w :=
  wpList_plain hg fun _ hK => by unfold Oper.wp; rw [hr]; exact hK _ _ h
theorem still_val {K : Act → Prop} (hg : o.guard = none) (hr : (execOp a.eval o).run P w = .ok (.value v) w) (h : wpStill P ops w K rest (a.put o.dst v)) : wpStill P ops w K (o :: rest) a :=
  wpStill_step fun K' hK => by
    rw [if_pos (by simp [Region.wanted, hg])]
    unfold Oper.still; rw [hr, Oper.stillUpon_value]; exact hK _ h
end

/-- a region that draws and only reads: in the world behind the draw, whatever that is -/
theorem region_still {P : Program} {id : Nat} {Q : Exit → Act → World → Prop} {a : Act} {w : World} {l : List Oper} (hm : P.follows .mixedOrders = true) (hB : Region.lexB .any l.toArray = true)
    (h : ∀ w', w' = w.drew → wpStill P l.toArray w' (fun a' => Q .normal a' w') l a) : (Code.region id l.toArray true).wp P Q a w :=
  wp_region_still_lit hm hB (h _ rfl)
/-- a region that draws, reads in its first n operations, and whose others come in the text's order -/
theorem region_tail {P : Program} {id : Nat} {Q : Exit → Act → World → Prop} {a : Act} {w : World} {l : List Oper} (n : Nat) (hm : P.follows .mixedOrders = true) (hB : Region.lexTailB .any l.toArray n = true)
    (h : ∀ w', w' = w.drew → wpStill P l.toArray w' (fun a' => wpList P l.toArray Q (l.drop n) a' w') (l.take n) a) : (Code.region id l.toArray true).wp P Q a w :=
  wp_region_still_tail n hm hB (h _ rfl)

/-! ### Maps: block b is a map with just these pairs -/
def kv (e : MapEntry) : Value × Value := (e.key, e.val)
structure MapIs (P : Program) (k : TypeId) (w : World) (b : Nat) (l : List (Value × Value)) : Prop where
  ex : ∃ es clock, w.heap[b]? = some (.map es clock) ∧ (es.toList.map kv).Perm l ∧ (∀ e ∈ es.toList, e.born < clock) ∧ (es.toList.map (·.born)).Nodup
  key : ∀ p ∈ l, ∃ x, keyOf P k p.1 = some x
  nodup : (l.map (·.1)).Nodup

section
variable {P : Program} {k : TypeId} {w w' : World} {b : Nat} {l : List (Value × Value)}
theorem MapIs.of_block (h : MapIs P k w b l) (hb : w'.heap[b]? = w.heap[b]?) : MapIs P k w' b l :=
  ⟨by obtain ⟨es, c, h1, h2⟩ := h.ex; exact ⟨es, c, hb.trans h1, h2⟩, h.key, h.nodup⟩
theorem MapIs.drew (h : MapIs P k w b l) : MapIs P k w.drew b l := h.of_block rfl
theorem MapIs.drewN (h : MapIs P k w b l) (n : Nat) : MapIs P k (w.drewN n) b l := h.of_block rfl
theorem MapIs.lt (h : MapIs P k w b l) : b < w.heap.size := by
  obtain ⟨es, c, h1, _⟩ := h.ex
  rcases Nat.lt_or_ge b w.heap.size with hlt | hge
  · exact hlt
  · rw [Array.getElem?_eq_none hge] at h1; cases h1
theorem MapIs.mod {S : Nat → Prop} (h : MapIs P k w b l) (hm : Mod S w w') (hs : ¬ S b) : MapIs P k w' b l := h.of_block (hm.block b h.lt hs)
theorem MapIs.alloc (h : MapIs P k w b l) (o : Obj) : MapIs P k (w.alloc o) b l := h.of_block (Below.heap_alloc w o b h.lt)
theorem MapIs.setCell (h : MapIs P k w b l) {p : Addr} (hp : b ≠ p.block) (u : Value) : MapIs P k (w.setCell p u) b l := h.of_block (Below.heap_setCell w p u b hp)
theorem MapIs.perm (h : MapIs P k w b l) {l' : List (Value × Value)} (hp : l.Perm l') : MapIs P k w b l' :=
  ⟨by obtain ⟨es, c, h1, h2, h3⟩ := h.ex; exact ⟨es, c, h1, h2.trans hp, h3⟩, fun p hp' => h.key p (hp.mem_iff.2 hp'), (hp.map _).nodup_iff.1 h.nodup⟩
theorem MapIs.made (w : World) : MapIs P k (w.alloc (.map #[] 0)) w.heap.size [] :=
  ⟨⟨#[], 0, heap_alloc_new w _, by simp, by simp, by simp⟩, by simp, by simp⟩

theorem find_spec (K : Keyed P k) (w : World) {x : Value} {lx : Lit} (hx : keyOf P k x = some lx) {es : List MapEntry} {l : List (Value × Value)} (hp : (es.map kv).Perm l) (hk : ∀ p ∈ l, ∃ x, keyOf P k p.1 = some x) :
    ((Instr.findKey k x es).run P w = .ok none w ∧ ∀ p ∈ l, p.1 ≠ x) ∨ ∃ j e, (Instr.findKey k x es).run P w = .ok (some (j, e.val)) w ∧ es[j]? = some e ∧ e.key = x ∧ (x, e.val) ∈ l := by
  rcases K.find w hx es (fun e he => hk (kv e) (hp.mem_iff.1 (List.mem_map.2 ⟨e, he, rfl⟩))) with ⟨h1, h2⟩ | ⟨j, e, h1, h2, h3⟩
  · refine .inl ⟨h1, fun p hp' => ?_⟩
    obtain ⟨e, he, rfl⟩ := List.mem_map.1 (hp.mem_iff.2 hp')
    exact h2 e he
  · exact .inr ⟨j, e, h1, h2, h3, by rw [← h3]; exact hp.mem_iff.1 (List.mem_map.2 ⟨e, List.mem_of_getElem? h2, rfl⟩)⟩

theorem uniq_of_nodup {l : List (Value × Value)} (h : (l.map (·.1)).Nodup) {x u v : Value} (hu : (x, u) ∈ l) (hv : (x, v) ∈ l) : u = v := by
  induction l with
  | nil => cases hu
  | cons p r ih =>
    simp only [List.map_cons, List.nodup_cons] at h
    rcases List.mem_cons.1 hu with e1 | hu'
    · rcases List.mem_cons.1 hv with e2 | hv'
      · exact (Prod.mk.inj (e1.trans e2.symm)).2
      · exact absurd (by rw [← e1]; exact List.mem_map_of_mem (f := (·.1)) hv') h.1
    · rcases List.mem_cons.1 hv with e2 | hv'
      · exact absurd (by rw [← e2]; exact List.mem_map_of_mem (f := (·.1)) hu') h.1
      · exact ih h.2 hu' hv'

/-- m[x], x there -/
theorem MapIs.look (h : MapIs P k w b l) (K : Keyed P k) {t e : TypeId} (ht : P.underlying t = some (.map k e)) {x v : Value} (hm : (x, v) ∈ l) :
    (Instr.lookup t (.map (some b)) x false).run P w = .ok v w := by
  obtain ⟨es, c, h1, h2, _⟩ := h.ex
  obtain ⟨lx, hx⟩ := h.key _ hm
  rcases find_spec K w hx h2 h.key with ⟨_, hf⟩ | ⟨j, e', hr, _, hk, hin⟩
  · exact absurd rfl (hf _ hm)
  · have hv : e'.val = v := uniq_of_nodup h.nodup hin hm
    have hc := K.check w es.isEmpty hx
    simp only [Instr.lookup, Sem.run_bind, run_underlying ht, Result.andThen_ok, getObj, Sem.run, h1, hc, hr, Sem.run_pure, hv]
    simp
/-- m[x], x not there -/
theorem MapIs.look_no (h : MapIs P k w b l) (K : Keyed P k) {t e : TypeId} (ht : P.underlying t = some (.map k e)) {z : Value} (hz : ∀ w, (zeroValue e).run P w = .ok z w) {x : Value} {lx : Lit} (hx : keyOf P k x = some lx) (hm : ∀ p ∈ l, p.1 ≠ x) :
    (Instr.lookup t (.map (some b)) x false).run P w = .ok z w := by
  obtain ⟨es, c, h1, h2, _⟩ := h.ex
  rcases find_spec K w hx h2 h.key with ⟨hr, _⟩ | ⟨j, e', _, _, hk, hin⟩
  · have hc := K.check w es.isEmpty hx
    simp only [Instr.lookup, Sem.run_bind, run_underlying ht, Result.andThen_ok, getObj, Sem.run, h1, hc, hr, Sem.run_pure, hz w]
    simp
  · exact absurd rfl (hm _ hin)

/-- m[x] = v, x not there -/
theorem MapIs.store_new (h : MapIs P k w b l) (K : Keyed P k) {t e : TypeId} (ht : P.underlying t = some (.map k e)) {x v : Value} {lx : Lit} (hx : keyOf P k x = some lx) (hm : ∀ p ∈ l, p.1 ≠ x) :
    ∃ o, (Instr.mapUpdate t (.map (some b)) x v).run P w = .ok () (putBlk w b o) ∧ MapIs P k (putBlk w b o) b ((x, v) :: l) := by
  have hlt := h.lt
  obtain ⟨es, c, h1, h2, h3, h4⟩ := h.ex
  rcases find_spec K w hx h2 h.key with ⟨hr, _⟩ | ⟨j, e', _, _, hk, hin⟩
  · have hc := K.check w false hx
    refine ⟨.map (es.push { key := x, val := v, born := c }) (c + 1), ?_, ?_⟩
    · simp only [Instr.mapUpdate, Sem.run_bind, run_underlying ht, Result.andThen_ok, getObj, Sem.run, h1, hc, hr, setObj]
      rfl
    · refine ⟨⟨_, _, putBlk_same w b _ hlt, ?_, ?_, ?_⟩, ?_, ?_⟩
      · simp only [Array.toList_push, List.map_append, List.map_cons, List.map_nil]
        exact List.perm_append_comm.trans (h2.cons _)
      · simp only [Array.toList_push, List.mem_append, List.mem_singleton]
        rintro e (he | rfl)
        · exact Nat.lt_succ_of_lt (h3 e he)
        · exact Nat.lt_succ_self _
      · simp only [Array.toList_push, List.map_append, List.map_cons, List.map_nil]
        refine List.nodup_append.2 ⟨h4, by simp, ?_⟩
        intro y hy z hz
        obtain ⟨e, he, rfl⟩ := List.mem_map.1 hy
        have := h3 e he
        simp at hz
        omega
      · intro p hp
        rcases List.mem_cons.1 hp with rfl | hp
        · exact ⟨lx, hx⟩
        · exact h.key p hp
      · simp only [List.map_cons, List.nodup_cons]
        refine ⟨fun hin => ?_, h.nodup⟩
        obtain ⟨p, hp, e⟩ := List.mem_map.1 hin
        exact hm p hp e
  · exact absurd rfl (hm _ hin)

theorem modify_set {α : Type} {xs : Array α} {i : Nat} {f : α → α} (h : i < xs.size) : xs.modify i f = xs.set i (f xs[i]) h := by
  apply Array.ext
  · simp
  · intro j h1 h2
    simp [Array.getElem_modify, Array.getElem_set]
    split
    · subst_vars; rfl
    · rfl
theorem mem_perm {α : Type} {x : α} : ∀ {l : List α}, x ∈ l → ∃ l', l.Perm (x :: l')
  | y :: r, h => by
    rcases List.mem_cons.1 h with rfl | h
    · exact ⟨r, List.Perm.refl _⟩
    · obtain ⟨l', hl⟩ := mem_perm h
      exact ⟨y :: l', (hl.cons y).trans (List.Perm.swap _ _ _)⟩
theorem erase_list_perm {α : Type} : ∀ (l : List α) (j : Nat) (h : j < l.length), l.Perm (l[j] :: l.eraseIdx j)
  | x :: r, 0, _ => by simp
  | x :: r, j + 1, h => by
    simp only [List.getElem_cons_succ, List.eraseIdx_cons_succ]
    exact ((erase_list_perm r j (by simpa using h)).cons x).trans (List.Perm.swap _ _ _)
theorem erase_perm {es : Array MapEntry} {j : Nat} {e : MapEntry} (hj : es[j]? = some e) : es.toList.Perm (e :: (es.eraseIdxIfInBounds j).toList) := by
  have hlt : j < es.size := by
    rcases Nat.lt_or_ge j es.size with h | h
    · exact h
    · rw [Array.getElem?_eq_none h] at hj; cases hj
  have he : es.toList[j]'(by simpa using hlt) = e := by
    have := Array.getElem?_eq_getElem hlt
    rw [this] at hj
    simpa using hj
  rw [Array.eraseIdxIfInBounds, dif_pos hlt, Array.toList_eraseIdx, ← he]
  exact erase_list_perm es.toList j (by simpa using hlt)

/-- m[x] = v, x there -/
theorem MapIs.store_old (h : MapIs P k w b l) (K : Keyed P k) {t e : TypeId} (ht : P.underlying t = some (.map k e)) {x u v : Value} {l' : List (Value × Value)} (hl : l.Perm ((x, u) :: l')) :
    ∃ o, (Instr.mapUpdate t (.map (some b)) x v).run P w = .ok () (putBlk w b o) ∧ MapIs P k (putBlk w b o) b ((x, v) :: l') := by
  have hlt := h.lt
  have hm : (x, u) ∈ l := hl.mem_iff.2 (by simp)
  obtain ⟨lx, hx⟩ := h.key _ hm
  have hn : ((x, u) :: l').map (·.1) |>.Nodup := (hl.map _).nodup_iff.1 h.nodup
  obtain ⟨es, c, h1, h2, h3, h4⟩ := h.ex
  rcases find_spec K w hx h2 h.key with ⟨_, hf⟩ | ⟨j, e', hr, hj, hk, hin⟩
  · exact absurd rfl (hf _ hm)
  · have hc := K.check w false hx
    have hs := K.stays w hx
    rw [Array.getElem?_toList] at hj
    have hp := erase_perm hj
    have hlt' : j < es.size := by
      rcases Nat.lt_or_ge j es.size with h | h
      · exact h
      · rw [Array.getElem?_eq_none h] at hj; cases hj
    have hje : es[j] = e' := by rw [Array.getElem?_eq_getElem hlt'] at hj; simpa using hj
    have hmod : es.modify j (fun e => { e with key := x, val := v }) = es.set j { e' with key := x, val := v } hlt' := by
      rw [modify_set hlt', hje]
    have hp2 : (es.set j { e' with key := x, val := v } hlt').toList.Perm ({ e' with key := x, val := v } :: (es.eraseIdxIfInBounds j).toList) := by
      have h5 := erase_perm (es := es.set j { e' with key := x, val := v } hlt') (j := j) (e := { e' with key := x, val := v }) (by simp)
      have h6 : ((es.set j { e' with key := x, val := v } hlt').eraseIdxIfInBounds j).toList = (es.eraseIdxIfInBounds j).toList := by
        rw [Array.eraseIdxIfInBounds, dif_pos (by simpa using hlt'), Array.eraseIdxIfInBounds, dif_pos hlt']
        simp [Array.toList_eraseIdx, List.eraseIdx_set_eq]
      rwa [h6] at h5
    refine ⟨.map (es.modify j fun e => { e with key := x, val := v }) c, ?_, ?_⟩
    · simp only [Instr.mapUpdate, Sem.run_bind, run_underlying ht, Result.andThen_ok, getObj, Sem.run, h1, hc, hr, setObj, hj, Option.map_some, Option.getD_some, hk, hs]
      rfl
    · have hkv : kv e' = (x, u) := by
        have : e'.val = u := uniq_of_nodup h.nodup hin hm
        simp [kv, hk, this]
      have hrest : ((es.eraseIdxIfInBounds j).toList.map kv).Perm l' := by
        have := (hp.map kv).symm.trans (h2.trans hl)
        rw [List.map_cons, hkv] at this
        exact this.cons_inv
      refine ⟨⟨_, _, putBlk_same w b _ hlt, ?_, ?_, ?_⟩, ?_, ?_⟩
      · rw [hmod]
        exact (hp2.map kv).trans (by simp only [List.map_cons, kv]; exact hrest.cons _)
      · rw [hmod]
        intro e he
        rcases List.mem_cons.1 (hp2.mem_iff.1 he) with rfl | he
        · exact h3 e' (hp.mem_iff.2 (by simp))
        · exact h3 e (hp.mem_iff.2 (List.mem_cons_of_mem _ he))
      · rw [hmod]
        exact (hp2.map _).nodup_iff.2 (by simpa using (hp.map (·.born)).nodup_iff.1 h4)
      · intro p hp
        rcases List.mem_cons.1 hp with rfl | hp
        · exact ⟨lx, hx⟩
        · exact h.key p (hl.mem_iff.2 (by simp [hp]))
      · simpa using hn

/-- delete(m, x), x there -/
theorem MapIs.drop (h : MapIs P k w b l) (K : Keyed P k) {t e : TypeId} {ts : Array TypeId} (hts : ts[0]? = some t) (ht : P.underlying t = some (.map k e)) {x u : Value} {l' : List (Value × Value)} (hl : l.Perm ((x, u) :: l')) :
    ∃ o, (∀ ty, (Builtin.delete_ ts ty #[.map (some b), x]).run P w = .ok (.tuple #[]) (putBlk w b o)) ∧ MapIs P k (putBlk w b o) b l' := by
  have hlt := h.lt
  have hm : (x, u) ∈ l := hl.mem_iff.2 (by simp)
  obtain ⟨lx, hx⟩ := h.key _ hm
  have hn : ((x, u) :: l').map (·.1) |>.Nodup := (hl.map _).nodup_iff.1 h.nodup
  obtain ⟨es, c, h1, h2, h3, h4⟩ := h.ex
  rcases find_spec K w hx h2 h.key with ⟨_, hf⟩ | ⟨j, e', hr, hj, hk, hin⟩
  · exact absurd rfl (hf _ hm)
  · have hc := K.check w es.isEmpty hx
    rw [Array.getElem?_toList] at hj
    have hp := erase_perm hj
    refine ⟨.map (es.eraseIdxIfInBounds j) c, ?_, ?_⟩
    · intro ty
      simp only [Builtin.delete_, hts, Sem.run_bind, run_underlying ht, Result.andThen_ok, getObj, Sem.run, h1, hc, hr, setObj, List.getElem?_toArray, List.getElem?_cons_zero, List.getElem?_cons_succ]
      rfl
    · have hkv : kv e' = (x, u) := by
        have : e'.val = u := uniq_of_nodup h.nodup hin hm
        simp [kv, hk, this]
      have hrest : ((es.eraseIdxIfInBounds j).toList.map kv).Perm l' := by
        have := (hp.map kv).symm.trans (h2.trans hl)
        rw [List.map_cons, hkv] at this
        exact this.cons_inv
      refine ⟨⟨_, _, putBlk_same w b _ hlt, hrest, fun e he => h3 e (hp.mem_iff.2 (List.mem_cons_of_mem _ he)), ?_⟩, fun p hp => h.key p (hl.mem_iff.2 (by simp [hp])), by simpa using (List.nodup_cons.1 hn).2⟩
      exact (by simpa using (hp.map (·.born)).nodup_iff.1 h4 : _ ∧ _).2

/-! ### Ranging over a map: block r is an iterator over block b; `left` is still to come -/
structure Ranging (P : Program) (k : TypeId) (w : World) (r b : Nat) (l left : List (Value × Value)) : Prop where
  ex : ∃ es clock seen, w.heap[b]? = some (.map es clock) ∧ w.heap[r]? = some (.mapIter (some b) clock seen clock) ∧ (es.toList.map kv).Perm l ∧ (∀ e ∈ es.toList, e.born < clock) ∧
    (es.toList.map (·.born)).Nodup ∧ ((es.toList.filter (fun e => !seen.contains e.born)).map kv).Perm left
  key : ∀ p ∈ l, ∃ x, keyOf P k p.1 = some x
  nodup : (l.map (·.1)).Nodup
/-- the entry that the last step has come to -/
def Cur (w : World) (r b : Nat) (p : Value × Value) : Prop :=
  ∃ es clock seen stamp e, w.heap[b]? = some (.map es clock) ∧ w.heap[r]? = some (.mapIter (some b) clock seen clock) ∧ seen.back? = some stamp ∧ es.find? (·.born == stamp) = some e ∧ kv e = p

theorem Ranging.map {r : Nat} {left : List (Value × Value)} (h : Ranging P k w r b l left) : MapIs P k w b l :=
  ⟨by obtain ⟨es, c, _, h1, _, h2, h3, h4, _⟩ := h.ex; exact ⟨es, c, h1, h2, h3, h4⟩, h.key, h.nodup⟩
theorem Ranging.of_blocks {r : Nat} {left : List (Value × Value)} (h : Ranging P k w r b l left) (hb : w'.heap[b]? = w.heap[b]?) (hr : w'.heap[r]? = w.heap[r]?) : Ranging P k w' r b l left :=
  ⟨by obtain ⟨es, c, s, h1, h2, h3⟩ := h.ex; exact ⟨es, c, s, hb.trans h1, hr.trans h2, h3⟩, h.key, h.nodup⟩
theorem Ranging.lt {r : Nat} {left : List (Value × Value)} (h : Ranging P k w r b l left) : r < w.heap.size := by
  obtain ⟨es, c, s, h1, h2, h3⟩ := h.ex
  rcases Nat.lt_or_ge r w.heap.size with hlt | hge
  · exact hlt
  · rw [Array.getElem?_eq_none hge] at h2; cases h2
theorem Ranging.mod {S : Nat → Prop} {r : Nat} {left : List (Value × Value)} (h : Ranging P k w r b l left) (hm : Mod S w w') (hs : ¬ S b) (hs' : ¬ S r) : Ranging P k w' r b l left :=
  h.of_blocks (hm.block b h.map.lt hs) (hm.block r h.lt hs')
theorem Cur.of_blocks {r : Nat} {p : Value × Value} (h : Cur w r b p) (hb : w'.heap[b]? = w.heap[b]?) (hr : w'.heap[r]? = w.heap[r]?) : Cur w' r b p := by
  obtain ⟨es, c, s, st, e, h1, h2, h3⟩ := h; exact ⟨es, c, s, st, e, hb.trans h1, hr.trans h2, h3⟩
theorem Ranging.perm_left {r : Nat} {left left' : List (Value × Value)} (h : Ranging P k w r b l left) (hp : left.Perm left') : Ranging P k w r b l left' :=
  ⟨by obtain ⟨es, c, s, h1, h2, h3, h4, h5, h6⟩ := h.ex; exact ⟨es, c, s, h1, h2, h3, h4, h5, h6.trans hp⟩, h.key, h.nodup⟩
theorem Ranging.sub {r : Nat} {left : List (Value × Value)} (h : Ranging P k w r b l left) : ∀ p ∈ left, p ∈ l := by
  obtain ⟨es, c, s, h1, h2, h3, h4, h5, h6⟩ := h.ex
  intro p hp
  obtain ⟨e, he, rfl⟩ := List.mem_map.1 (h6.mem_iff.2 hp)
  exact h3.mem_iff.1 (List.mem_map.2 ⟨e, (List.mem_filter.1 he).1, rfl⟩)

/-- range m -/
theorem MapIs.range (h : MapIs P k w b l) {t e : TypeId} (ht : P.underlying t = some (.map k e)) :
    ∃ o, (Instr.range t (.map (some b))).run P w = .ok (.pointer (some ⟨w.heap.size, 0, none⟩)) (w.alloc o) ∧ Ranging P k (w.alloc o) w.heap.size b l l := by
  have hlt := h.lt
  obtain ⟨es, c, h1, h2, h3, h4⟩ := h.ex
  refine ⟨.mapIter (some b) c #[] c, ?_, ⟨es, c, #[], (Below.heap_alloc w _ b hlt).trans h1, heap_alloc_new w _, h2, h3, h4, ?_⟩, h.key, h.nodup⟩
  · simp only [Instr.range, Sem.run_bind, run_underlying ht, Result.andThen_ok, getObj, Sem.run, h1, newObj, Sem.run_pure]
    rfl
  · rw [List.filter_eq_self.2 (by simp)]; exact h2

theorem Ranging.next_end {r : Nat} (h : Ranging P k w r b l []) (ty : TypeId) : (Instr.next (.pointer (some ⟨r, 0, none⟩)) false ty).run P w = .ok (.tuple #[.bool false]) w := by
  obtain ⟨es, c, s, h1, h2, h3, h4, h5, h6⟩ := h.ex
  have hl : es.toList.filter (fun e => !s.contains e.born) = [] := by simpa using h6.eq_nil
  have hl' : es.filter (fun e => !s.contains e.born) = #[] := by
    apply Array.toList_inj.1; rw [Array.toList_filter]; exact hl
  have hno : (!s.isEmpty && !es.isEmpty && es.all (fun e => decide (e.born ≥ c))) = false := by
    by_cases he : es.isEmpty = true
    · simp [he]
    · have : es.all (fun e => decide (e.born ≥ c)) = false := by
        have hpos : 0 < es.size := by
          rcases Nat.eq_zero_or_pos es.size with h0 | h0
          · exact absurd (by simp [Array.isEmpty, h0]) he
          · exact h0
        rw [Array.all_eq_false]
        exact ⟨0, hpos, by have := h4 es[0] (by simp); simp; omega⟩
      rw [this]; simp
  simp only [Instr.next, Sem.run_bind, Result.andThen_ok, getObj, Sem.run, h1, h2, hno, hl']
  simp [choose, Sem.run, Question.forced, Sem.run_bind]

theorem nodup_kv {es : List MapEntry} (h : (es.map (·.born)).Nodup) : es.Nodup := by
  induction es with
  | nil => exact .nil
  | cons e r ih =>
    simp only [List.map_cons, List.nodup_cons] at h ⊢
    exact ⟨fun hin => h.1 (List.mem_map.2 ⟨e, hin, rfl⟩), ih h.2⟩

theorem Ranging.next_some {r : Nat} {left : List (Value × Value)} (h : Ranging P k w r b l left) (hne : left ≠ []) :
    ∃ p left' w', (∀ ty, (Instr.next (.pointer (some ⟨r, 0, none⟩)) false ty).run P w = .ok (.tuple #[.bool true, p.1, p.2]) w') ∧ left.Perm (p :: left') ∧ Ranging P k w' r b l left' ∧ Cur w' r b p ∧ Mod (· = r) w w' ∧ w'.heap.size = w.heap.size := by
  have hrl := h.lt
  obtain ⟨es, c, s, h1, h2, h3, h4, h5, h6⟩ := h.ex
  have hbr : b ≠ r := by rintro rfl; rw [h1] at h2; cases h2
  have hno : (!s.isEmpty && !es.isEmpty && es.all (fun e => decide (e.born ≥ c))) = false := by
    by_cases he : es.isEmpty = true
    · simp [he]
    · have : es.all (fun e => decide (e.born ≥ c)) = false := by
        have hpos : 0 < es.size := by
          rcases Nat.eq_zero_or_pos es.size with h0 | h0
          · exact absurd (by simp [Array.isEmpty, h0]) he
          · exact h0
        rw [Array.all_eq_false]
        exact ⟨0, hpos, by have := h4 es[0] (by simp); simp; omega⟩
      rw [this]; simp
  -- what is left
  obtain ⟨L, hL⟩ : ∃ L, L = es.filter (fun e => !s.contains e.born) := ⟨_, rfl⟩
  have hLl : L.toList = es.toList.filter (fun e => !s.contains e.born) := by rw [hL, Array.toList_filter]
  have hLm : ∀ e ∈ L, e ∈ es.toList ∧ s.contains e.born = false := by
    intro e he
    have : e ∈ L.toList := by simpa using he
    rw [hLl, List.mem_filter] at this
    exact ⟨this.1, by simpa using this.2⟩
  have hLne : L.isEmpty = false := by
    cases hl : L.isEmpty
    · rfl
    · have : L = #[] := by simpa [Array.isEmpty_iff] using hl
      rw [← hLl, this] at h6
      exact absurd h6.symm.eq_nil hne
  have hold : L.filter (fun e => decide (e.born < c)) = L := by
    rw [Array.filter_eq_self]
    intro e he
    simpa using h4 e (hLm e he).1
  have hnew : L.filter (fun e => decide (e.born ≥ c)) = #[] := by
    rw [Array.filter_eq_empty_iff]
    intro e he
    have := h4 e (hLm e he).1
    simp; omega
  have hcand : ((if (L.filter (fun e => decide (e.born < c))).isEmpty then #[none] else #[]) ++ (L.filter (fun e => decide (e.born < c)) ++ L.filter (fun e => decide (e.born ≥ c))).map some : Array (Option MapEntry)) = L.map some := by
    rw [hold, hLne, hnew]; simp
  -- the draw
  have hpos : 0 < L.size := by
    rcases Nat.eq_zero_or_pos L.size with h0 | h0
    · exact absurd hLne (by simp [Array.isEmpty, h0])
    · exact h0
  obtain ⟨j, wj, hj, hch, hwh, hwo⟩ : ∃ j wj, j < L.size ∧ (choose (.mapNext (L.map some).size)).run P w = .ok j wj ∧ wj.heap = w.heap ∧ (wj.os = w.os ∧ wj.tape = w.tape ∧ wj.output = w.output) := by
    by_cases hf : (Question.mapNext (L.map some).size).forced = true
    · exact ⟨0, w, hpos, by simp only [choose, Sem.run]; rw [if_pos hf], rfl, rfl, rfl, rfl⟩
    · refine ⟨_, { w with drawn := w.drawn + 1 }, ?_, by simp only [choose, Sem.run]; rw [if_neg hf], rfl, rfl, rfl, rfl⟩
      simp only [Question.cut, Array.size_map]
      exact Nat.mod_lt _ hpos
  have hget : (L.map some)[j]? = some (some L[j]) := by simp [hj]
  obtain ⟨e, he⟩ : ∃ e, e = L[j] := ⟨_, rfl⟩
  have heL : e ∈ L := by rw [he]; exact Array.getElem_mem hj
  obtain ⟨hees, hens⟩ := hLm e heL
  have hset : (setObj r (.mapIter (some b) c (s.push e.born) c)).run P wj = .ok () (putBlk wj r (.mapIter (some b) c (s.push e.born) c)) := by
    have h2' : wj.heap[r]? = some (.mapIter (some b) c s c) := by rw [hwh]; exact h2
    simp only [setObj, Sem.run, h2']; rfl
  have hnd := nodup_kv h5
  have hfilt : (es.toList.filter (fun e' => !(s.push e.born).contains e'.born)) = (L.toList.filter (fun e' => !(e'.born == e.born))) := by
    rw [hLl, List.filter_filter]
    apply List.filter_congr
    intro x hx
    have hcp : (s.push e.born).contains x.born = (s.contains x.born || x.born == e.born) := by
      rw [Bool.eq_iff_iff]; simp [Array.mem_push]
    rw [hcp, Bool.not_or, Bool.and_comm]
  have hperm : L.toList.Perm (e :: L.toList.filter (fun e' => !(e'.born == e.born))) := by
    have hndL : (L.toList.map (·.born)).Nodup := by rw [hLl]; exact h5.sublist (List.filter_sublist.map _)
    have heL' : e ∈ L.toList := by simpa using heL
    generalize L.toList = M at hndL heL'
    induction M with
    | nil => cases heL'
    | cons x M ih =>
      simp only [List.map_cons, List.nodup_cons] at hndL
      rcases List.mem_cons.1 heL' with rfl | hin
      · have : (e :: M).filter (fun e' => !(e'.born == e.born)) = M := by
          rw [List.filter_cons_of_neg (by simp), List.filter_eq_self]
          intro y hy
          have : y.born ≠ e.born := fun hh => hndL.1 (by rw [← hh]; exact List.mem_map_of_mem hy)
          simpa using this
        rw [this]
      · have hx : x.born ≠ e.born := fun hh => hndL.1 (by rw [hh]; exact List.mem_map_of_mem hin)
        rw [List.filter_cons_of_pos (by simpa using hx)]
        exact ((ih hndL.2 hin).cons x).trans (List.Perm.swap _ _ _)
  have hwr : r < wj.heap.size := by rw [hwh]; exact hrl
  have hb' : (putBlk wj r (.mapIter (some b) c (s.push e.born) c)).heap[b]? = some (.map es c) := (putBlk_other _ _ _ _ hbr).trans (by rw [hwh]; exact h1)
  have hr' := putBlk_same wj r (.mapIter (some b) c (s.push e.born) c) hwr
  refine ⟨kv e, (L.toList.filter (fun e' => !(e'.born == e.born))).map kv, putBlk wj r (.mapIter (some b) c (s.push e.born) c), ?_, ?_, ⟨⟨es, c, s.push e.born, hb', hr', h3, h4, h5, ?_⟩, h.key, h.nodup⟩, ?_, ?_, ?_⟩
  · intro ty
    simp only [Instr.next, Sem.run_bind, Result.andThen_ok, getObj, Sem.run, h1, h2, hno, Bool.false_eq_true, if_false]
    simp only [← hL, hcand]
    simp only [hch, Result.andThen_ok, hget, ← he, Sem.run_bind, hset, Sem.run_pure, kv]
  · rw [← hLl] at h6
    exact h6.symm.trans (hperm.map kv)
  · rw [hfilt]
  · refine ⟨es, c, s.push e.born, e.born, e, hb', hr', by simp, ?_, rfl⟩
    rw [← Array.find?_toList]
    have : ∀ M : List MapEntry, (M.map (·.born)).Nodup → e ∈ M → M.find? (·.born == e.born) = some e := by
      intro M
      induction M with
      | nil => intro _ h; cases h
      | cons x M ih =>
        intro hn hm
        simp only [List.map_cons, List.nodup_cons] at hn
        rcases List.mem_cons.1 hm with rfl | hm
        · simp
        · have hx : x.born ≠ e.born := fun hh => hn.1 (by rw [hh]; exact List.mem_map_of_mem hm)
          rw [List.find?_cons_of_neg (by simpa using hx)]
          exact ih hn.2 hm
    exact this _ h5 hees
  · exact (show Mod (· = r) w wj from ⟨hwo.1, hwo.2.1, hwo.2.2, by rw [hwh]; exact Nat.le_refl _, fun k _ _ => by rw [hwh]⟩).putBlk (.inr rfl) _
  · simp [hwh]

theorem Cur.entry {r : Nat} {p : Value × Value} (h : Cur w r b p) : (Instr.entry (.pointer (some ⟨r, 0, none⟩))).run P w = .ok (.tuple #[p.1, p.2]) w := by
  obtain ⟨es, c, s, st, e, h1, h2, h3, h4, rfl⟩ := h
  simp only [Instr.entry, Sem.run_bind, Result.andThen_ok, getObj, Sem.run, h1, h2, h3, h4, kv]
  simp

/-- delete(m, x) in a round over m, x being no key that is still to come -/
theorem Ranging.drop {r : Nat} {left : List (Value × Value)} (h : Ranging P k w r b l left) (K : Keyed P k) {t e : TypeId} {ts : Array TypeId} (hts : ts[0]? = some t) (ht : P.underlying t = some (.map k e)) {x u : Value} {l' : List (Value × Value)}
    (hl : l.Perm ((x, u) :: l')) (hnl : (x, u) ∉ left) :
    ∃ o, (∀ ty, (Builtin.delete_ ts ty #[.map (some b), x]).run P w = .ok (.tuple #[]) (putBlk w b o)) ∧ Ranging P k (putBlk w b o) r b l' left := by
  have hlt := h.map.lt
  have hm : (x, u) ∈ l := hl.mem_iff.2 (by simp)
  obtain ⟨lx, hx⟩ := h.key _ hm
  have hn : ((x, u) :: l').map (·.1) |>.Nodup := (hl.map _).nodup_iff.1 h.nodup
  have hkey := h.key
  have hnod := h.nodup
  obtain ⟨es, c, s, h1, hr0, h2, h3, h4, h5⟩ := h.ex
  have hbr : r ≠ b := by rintro rfl; rw [h1] at hr0; cases hr0
  rcases find_spec K w hx h2 hkey with ⟨_, hf⟩ | ⟨j, e', hr, hj, hk, hin⟩
  · exact absurd rfl (hf _ hm)
  · have hc := K.check w es.isEmpty hx
    rw [Array.getElem?_toList] at hj
    have hp := erase_perm hj
    have hkv : kv e' = (x, u) := by
      have : e'.val = u := uniq_of_nodup hnod hin hm
      simp [kv, hk, this]
    have hrest : ((es.eraseIdxIfInBounds j).toList.map kv).Perm l' := by
      have := (hp.map kv).symm.trans (h2.trans hl)
      rw [List.map_cons, hkv] at this
      exact this.cons_inv
    refine ⟨.map (es.eraseIdxIfInBounds j) c, ?_, ⟨_, _, s, putBlk_same w b _ hlt, (putBlk_other _ _ _ _ hbr).trans hr0, hrest, fun e he => h3 e (hp.mem_iff.2 (List.mem_cons_of_mem _ he)), ?_, ?_⟩, fun p hp => hkey p (hl.mem_iff.2 (List.mem_cons_of_mem _ hp)), by simpa using (List.nodup_cons.1 hn).2⟩
    · intro ty
      simp only [Builtin.delete_, hts, Sem.run_bind, run_underlying ht, Result.andThen_ok, getObj, Sem.run, h1, hc, hr, setObj, List.getElem?_toArray, List.getElem?_cons_zero, List.getElem?_cons_succ]
      rfl
    · exact (by simpa using (hp.map (·.born)).nodup_iff.1 h4 : _ ∧ _).2
    · refine List.Perm.trans ?_ h5
      refine List.Perm.map _ ?_
      refine ((hp.filter _).trans ?_).symm
      rw [List.filter_cons_of_neg]
      intro hs
      refine hnl (h5.mem_iff.1 (List.mem_map.2 ⟨e', List.mem_filter.2 ⟨hp.mem_iff.2 (by simp), hs⟩, hkv⟩))
end
end Go.Proofs.YtabebkffcmajkaaGreatDoor

namespace Go.Proofs.YtabebkffcmajkaaGreatDoor
open Go.RowKit Go.Maps
/-! ### A block that is known whole -/
def Blk (w : World) (g : Nat) (t : TypeId) (cs : Array Value) : Prop := w.heap[g]? = some (.cells cs t (0, 0))
section
variable {w w' : World} {g : Nat} {t : TypeId} {cs : Array Value}
theorem Blk.lt (h : Blk w g t cs) : g < w.heap.size := by
  rcases Nat.lt_or_ge g w.heap.size with hlt | hge
  · exact hlt
  · unfold Blk at h; rw [Array.getElem?_eq_none hge] at h; cases h
theorem Blk.cell (h : Blk w g t cs) (i : Nat) : w.cell? ⟨g, i, none⟩ = cs[i]? := cell_of_row w g i cs t (0, 0) h
theorem Blk.frozen (h : Blk w g t cs) (i : Nat) : w.frozen? ⟨g, i, none⟩ = false := by
  unfold Blk at h
  simp [World.frozen?, h]
theorem Blk.new (w : World) (t : TypeId) (cs : Array Value) : Blk (w.alloc (.cells cs t)) w.heap.size t cs := heap_alloc_new w _
theorem Blk.drew (h : Blk w g t cs) : Blk w.drew g t cs := h
theorem Blk.alloc (h : Blk w g t cs) (o : Obj) : Blk (w.alloc o) g t cs := (Below.heap_alloc w o g h.lt).trans h
theorem Blk.set_ (h : Blk w g t cs) (i : Nat) (u : Value) : Blk (w.setCell ⟨g, i, none⟩ u) g t (cs.setIfInBounds i u) := by
  unfold Blk at h ⊢
  simp [World.setCell, Array.getElem?_modify, h]
theorem Blk.row (h : Blk w g t cs) (cs' : Array Value) : Blk (w.setRow g cs') g t cs' := setRow_heap w g cs cs' t _ h
theorem Blk.mod {S : Nat → Prop} (h : Blk w g t cs) (hm : Mod S w w') (hs : ¬ S g) : Blk w' g t cs := (hm.block g h.lt hs).trans h
theorem Blk.of_block (h : Blk w g t cs) (hb : w'.heap[g]? = w.heap[g]?) : Blk w' g t cs := hb.trans h
end
theorem Mod.setRow {S : Nat → Prop} {a w : World} (h : Mod S a w) {g : Nat} (hg : a.heap.size ≤ g ∨ S g) (cs : Array Value) : Mod S a (w.setRow g cs) :=
  ⟨h.os, h.tape, h.output, by simpa using h.size, fun k hk hs => (setRow_other w g k cs (by
      rintro rfl
      rcases hg with hg | hg
      · omega
      · exact hs hg)).trans (h.block k hk hs)⟩
/-- a variable that is laid and then stored into, whole -/
theorem alloc_setRow (w : World) (cs cs' : Array Value) (t : TypeId) : (w.alloc (.cells cs t)).setRow w.heap.size cs' = w.alloc (.cells cs' t) := by
  unfold World.setRow World.alloc
  congr 1
  apply Array.ext_getElem?
  intro i
  by_cases hi : i = w.heap.size
  · subst hi; simp [Array.getElem_modify]
  · rw [Array.getElem?_modify, if_neg (Ne.symm hi), Array.getElem?_push, Array.getElem?_push, if_neg hi, if_neg hi]

theorem alloc2_setRow (w : World) (cs cs' : Array Value) (t : TypeId) (o : Obj) : ((w.alloc (.cells cs t)).alloc o).setRow w.heap.size cs' = (w.alloc (.cells cs' t)).alloc o := by
  unfold World.setRow World.alloc
  congr 1
  apply Array.ext_getElem?
  intro i
  by_cases hi : i = w.heap.size
  · subst hi; simp [Array.getElem?_modify, Array.getElem?_push, Array.getElem_push]
  · rw [Array.getElem?_modify, if_neg (Ne.symm hi), Array.getElem?_push, Array.getElem?_push, Array.getElem?_push, Array.getElem?_push, if_neg hi, if_neg hi]
    simp
theorem results_cell_tmp {P : Program} {fn : Func} {p q : Tmp} {ty : TypeId} (h : fn.results = #[.cell p ty, .tmp q]) (tmps : Array Value) (w : World) (g : Nat) (t : TypeId) (cs : Array Value) (fr : Nat × Nat) (d : TypeDesc)
    (hp : tmps.getD p undef = .pointer (some ⟨g, 0, none⟩)) (hg : w.heap[g]? = some (.cells cs t fr))
    (hu : P.underlying ty = some d) (hd : (match d with | .struct _ | .array _ _ => true | _ => false) = true) (hi : (P.info? ty).map (·.size) = some cs.size) :
    (results fn tmps).run P w = .ok (.tuple #[.agg cs, tmps.getD q undef]) w := by
  have hp' : tmps[p]?.getD undef = .pointer (some ⟨g, 0, none⟩) := by simpa using hp
  simp [results, h, hp', asAddr, run_loadVar_row w g t ty cs fr d hg hu hd hi]

section
variable {P : Program} {ops : Array Oper} {rest : List Oper} {o : Oper} {a : Act} {w w' : World} {Q : Exit → Act → World → Prop} {v : Value}
/-! what one operation does, out of what its instruction does -/
theorem ex_lookup {v : Value} {t : TypeId} {x y : Operand} {c : Bool} (h : o.op = .lookup t x y c) (hr : (Instr.lookup t (a.eval x) (a.eval y) c).run P w = .ok v w') : (execOp a.eval o).run P w = .ok (.value v) w' := by
  unfold execOp; simp only [h, Sem.run_bind, hr, Result.andThen_ok, Sem.run_pure]
theorem ex_load {v : Value} {t : TypeId} {x : Operand} (h : o.op = .load t x) (hr : (Instr.loadAt t (a.eval x)).run P w = .ok v w') : (execOp a.eval o).run P w = .ok (.value v) w' := by
  unfold execOp; simp only [h, Sem.run_bind, hr, Result.andThen_ok, Sem.run_pure]
theorem ex_build {v : Value} {t : TypeId} {ps : List (Nat × Operand)} (h : o.op = .build t ps.toArray) (hr : (Instr.build t (ps.map fun (i, x) => (i, a.eval x)).toArray).run P w = .ok v w') : (execOp a.eval o).run P w = .ok (.value v) w' := by
  unfold execOp; simp only [h, Sem.run_bind, List.map_toArray, hr, Result.andThen_ok, Sem.run_pure]
theorem ex_buildSlice {v : Value} {t : TypeId} {n : Nat} {ps : List (Nat × Operand)} (h : o.op = .buildSlice t n ps.toArray) (hr : (Instr.buildSlice t n (ps.map fun (i, x) => (i, a.eval x)).toArray).run P w = .ok v w') : (execOp a.eval o).run P w = .ok (.value v) w' := by
  unfold execOp; simp only [h, Sem.run_bind, List.map_toArray, hr, Result.andThen_ok, Sem.run_pure]
theorem ex_convert {v : Value} {s t : TypeId} {x : Operand} (h : o.op = .convert s t x) (hr : (Go.convert s t (a.eval x)).run P w = .ok v w') : (execOp a.eval o).run P w = .ok (.value v) w' := by
  unfold execOp; simp only [h, Sem.run_bind, hr, Result.andThen_ok, Sem.run_pure]
theorem ex_makeMap {v : Value} {t : TypeId} {x : Option Operand} (h : o.op = .makeMap t x) (hr : (Instr.makeMap t (x.map a.eval)).run P w = .ok v w') : (execOp a.eval o).run P w = .ok (.value v) w' := by
  unfold execOp; simp only [h, Sem.run_bind, hr, Result.andThen_ok, Sem.run_pure]
theorem ex_makeSlice {v : Value} {t : TypeId} {x y : Operand} (h : o.op = .makeSlice t x y) (hr : (Instr.makeSlice t (a.eval x) (a.eval y)).run P w = .ok v w') : (execOp a.eval o).run P w = .ok (.value v) w' := by
  unfold execOp; simp only [h, Sem.run_bind, hr, Result.andThen_ok, Sem.run_pure]
theorem ex_box {v : Value} {t : TypeId} {x : Operand} (h : o.op = .box t x) (hr : (Instr.box t (a.eval x)).run P w = .ok v w') : (execOp a.eval o).run P w = .ok (.value v) w' := by
  unfold execOp; simp only [h, Sem.run_bind, hr, Result.andThen_ok, Sem.run_pure]
theorem ex_range {v : Value} {t : TypeId} {x : Operand} (h : o.op = .range t x) (hr : (Instr.range t (a.eval x)).run P w = .ok v w') : (execOp a.eval o).run P w = .ok (.value v) w' := by
  unfold execOp; simp only [h, Sem.run_bind, hr, Result.andThen_ok, Sem.run_pure]
theorem ex_next {v : Value} {x : Operand} {b : Bool} (h : o.op = .next x b) (hr : (Instr.next (a.eval x) b o.type).run P w = .ok v w') : (execOp a.eval o).run P w = .ok (.value v) w' := by
  unfold execOp; simp only [h, Sem.run_bind, hr, Result.andThen_ok, Sem.run_pure]
theorem ex_entry {v : Value} {x : Operand} (h : o.op = .entry x) (hr : (Instr.entry (a.eval x)).run P w = .ok v w') : (execOp a.eval o).run P w = .ok (.value v) w' := by
  unfold execOp; simp only [h, Sem.run_bind, hr, Result.andThen_ok, Sem.run_pure]
theorem ex_slice {v : Value} {t : TypeId} {x : Operand} {lo hi mx : Option Operand} (h : o.op = .slice t x lo hi mx) (hr : (Instr.sliceAt t (a.eval x) (lo.map a.eval) (hi.map a.eval) (mx.map a.eval)).run P w = .ok v w') : (execOp a.eval o).run P w = .ok (.value v) w' := by
  unfold execOp; simp only [h, Sem.run_bind, hr, Result.andThen_ok, Sem.run_pure]
theorem ex_indexAddr {v : Value} {t : TypeId} {x y : Operand} (h : o.op = .indexAddr t x y) (hr : (Instr.indexAt t (a.eval x) (a.eval y)).run P w = .ok v w') : (execOp a.eval o).run P w = .ok (.value v) w' := by
  unfold execOp; simp only [h, Sem.run_bind, hr, Result.andThen_ok, Sem.run_pure]
theorem ex_mapUpdate {t : TypeId} {m k x : Operand} (h : o.op = .mapUpdate t m k x) (hr : (Instr.mapUpdate t (a.eval m) (a.eval k) (a.eval x)).run P w = .ok () w') : (execOp a.eval o).run P w = .ok .skip w' := by
  unfold execOp; simp only [h, Sem.run_bind, hr, Result.andThen_ok, Sem.run_pure]
theorem ex_store {t : TypeId} {m x : Operand} (h : o.op = .store t m x) (hr : (Instr.storeAt t (a.eval m) (a.eval x)).run P w = .ok () w') : (execOp a.eval o).run P w = .ok .skip w' := by
  unfold execOp; simp only [h, Sem.run_bind, hr, Result.andThen_ok, Sem.run_pure]
theorem ex_append {v : Value} {xs : List Operand} {ts : Array TypeId} (h : o.op = .call { callee := .builtin .append, args := xs.toArray, argTypes := ts }) (hr : (Builtin.append_ ts o.type (xs.map a.eval).toArray).run P w = .ok v w') : (execOp a.eval o).run P w = .ok (.value v) w' := by
  unfold execOp; simp only [h, resolve, invoke, builtin, Sem.run_bind, Sem.run_pure, List.map_toArray, hr, Result.andThen_ok]
theorem ex_copy {v : Value} {xs : List Operand} {ts : Array TypeId} (h : o.op = .call { callee := .builtin .copy, args := xs.toArray, argTypes := ts }) (hr : (Builtin.copy_ ts o.type (xs.map a.eval).toArray).run P w = .ok v w') : (execOp a.eval o).run P w = .ok (.value v) w' := by
  unfold execOp; simp only [h, resolve, invoke, builtin, Sem.run_bind, Sem.run_pure, List.map_toArray, hr, Result.andThen_ok]
theorem ex_delete {v : Value} {xs : List Operand} {ts : Array TypeId} (h : o.op = .call { callee := .builtin .delete, args := xs.toArray, argTypes := ts }) (hr : (Builtin.delete_ ts o.type (xs.map a.eval).toArray).run P w = .ok v w') : (execOp a.eval o).run P w = .ok (.value v) w' := by
  unfold execOp; simp only [h, resolve, invoke, builtin, Sem.run_bind, Sem.run_pure, List.map_toArray, hr, Result.andThen_ok]
theorem ex_len {v : Value} {xs : List Operand} {ts : Array TypeId} (h : o.op = .call { callee := .builtin .len, args := xs.toArray, argTypes := ts }) (hr : (Builtin.len_ ts o.type (xs.map a.eval).toArray).run P w = .ok v w') : (execOp a.eval o).run P w = .ok (.value v) w' := by
  unfold execOp; simp only [h, resolve, invoke, builtin, Sem.run_bind, Sem.run_pure, List.map_toArray, hr, Result.andThen_ok]
theorem run_loadRow {g : Nat} {t ty : TypeId} {cs : Array Value} {d : TypeDesc} (hg : Blk w g t cs) (hu : P.underlying ty = some d) (hd : (match d with | .struct _ | .array _ _ => true | _ => false) = true) (hi : (P.info? ty).map (·.size) = some cs.size) :
    (Instr.loadAt ty (.pointer (some ⟨g, 0, none⟩))).run P w = .ok (.agg cs) w := by
  simp only [Instr.loadAt, Instr.sureAddr, Sem.run_bind, Sem.run_pure, Result.andThen_ok, run_loadVar_row w g t ty cs (0, 0) d hg hu hd hi]
/-- guards: is this the operation that writes slot n; that stores to tx? -/
theorem at_slot (n : Nat) {op : Op} {ty : TypeId} {pos : String} {after : Array Edge} {g : Option (Nat × Bool)} (h : wpList P ops Q (⟨some n, op, ty, pos, after, g⟩ :: rest) a w) : wpList P ops Q (⟨some n, op, ty, pos, after, g⟩ :: rest) a w := h
theorem at_update {t : TypeId} {m k x : Operand} {d : Option Tmp} {ty : TypeId} {pos : String} {after : Array Edge} {g : Option (Nat × Bool)} (h : wpList P ops Q (⟨d, .mapUpdate t m k x, ty, pos, after, g⟩ :: rest) a w) : wpList P ops Q (⟨d, .mapUpdate t m k x, ty, pos, after, g⟩ :: rest) a w := h
theorem at_delete_ {xs : Array Operand} {ts : Array TypeId} {d : Option Tmp} {ty : TypeId} {pos : String} {after : Array Edge} {g : Option (Nat × Bool)} (h : wpList P ops Q (⟨d, .call ⟨.builtin .delete, xs, ts⟩, ty, pos, after, g⟩ :: rest) a w) : wpList P ops Q (⟨d, .call ⟨.builtin .delete, xs, ts⟩, ty, pos, after, g⟩ :: rest) a w := h
theorem at_none (t : TypeId) (x y : Nat) {ty : TypeId} {pos : String} {after : Array Edge} {g : Option (Nat × Bool)} (h : wpList P ops Q (⟨none, .store t (.tmp x) (.tmp y), ty, pos, after, g⟩ :: rest) a w) : wpList P ops Q (⟨none, .store t (.tmp x) (.tmp y), ty, pos, after, g⟩ :: rest) a w := h
/-- `x := v` of a struct in a variable of its own: two operations -/
theorem wpList_declare {o1 o2 : Oper} (hg1 : o1.guard = none) (hg2 : o2.guard = none) (t : TypeId) (d : Tmp) (y : Operand) (h1 : o1.op = .alloc t) (hd1 : o1.dst = some d) (h2 : o2.op = .store t (.tmp d) y)
    (z cells : Array Value) (hz : ∀ w, (zeroValue t).run P w = .ok (.agg z) w) (hi : (P.info? t).map (·.size) = some cells.size) (hzc : z.size = cells.size) (hone : cells.all (·.oneCell') = true)
    (hlt : d < a.tmps.size) (hy : (a.put (some d) (.pointer (some ⟨w.heap.size, 0, none⟩))).eval y = .agg cells)
    (h : wpList P ops Q rest ((a.put (some d) (.pointer (some ⟨w.heap.size, 0, none⟩))).put o2.dst undef) (w.alloc (.cells cells t))) : wpList P ops Q (o1 :: o2 :: rest) a w := by
  refine wpList_val hg1 (v := .pointer (some ⟨w.heap.size, 0, none⟩)) (w' := w.alloc (.cells z t)) ?_ ?_
  · unfold execOp
    simp only [h1, Instr.alloc, newVar, newRow, newObj, Sem.run_bind, hz, Result.andThen_ok, Value.cells, Sem.run, Sem.run_pure]
    rfl
  · rw [hd1]
    refine wpList_store_row hg2 t (.tmp d) y h2 w.heap.size cells ?_ hy t z (Blk.new w t z) hi hzc hone ?_
    · simp [Act.eval, Act.put, hlt]
    · rw [alloc_setRow]; exact h
theorem wpList_alloc (hg : o.guard = none) (t : TypeId) (h1 : o.op = .alloc t) (z : Value) (hz : ∀ w, (zeroValue t).run P w = .ok z w)
    (h : wpList P ops Q rest (a.put o.dst (.pointer (some ⟨w.heap.size, 0, none⟩))) (w.alloc (.cells z.cells t))) : wpList P ops Q (o :: rest) a w := by
  refine wpList_val hg (v := .pointer (some ⟨w.heap.size, 0, none⟩)) (w' := w.alloc (.cells z.cells t)) ?_ h
  unfold execOp
  simp only [h1, Instr.alloc, newVar, newRow, newObj, Sem.run_bind, hz, Result.andThen_ok, Sem.run, Sem.run_pure]
  rfl
end
end Go.Proofs.YtabebkffcmajkaaGreatDoor

/-! The index's key as a value; its type is one whose values are keys. -/
namespace Go.Proofs.YtabebkffcmajkaaGreatDoor
open Go.RowKit Go.Maps

def keyCells (d : Int) (s : ByteArray) : List Value :=
  .int .i64 d :: .int .i64 s.size :: (s.data.toList.map (fun b => Value.int .u8 (b.toNat : Int)) ++ List.replicate (28 - s.size) (.int .u8 0))
def keyA (d : Int) (s : ByteArray) : Array Value := (keyCells d s).toArray
def keyV (d : Int) (s : ByteArray) : Value := .agg (keyA d s)

theorem keyCells_length (d : Int) (s : ByteArray) (h : s.size ≤ 28) : (keyCells d s).length = 30 := by
  have : s.data.toList.length = s.size := by simp
  simp [keyCells]
  omega
theorem keyA_size (d : Int) (s : ByteArray) (h : s.size ≤ 28) : (keyA d s).size = 30 := by simpa [keyA] using keyCells_length d s h

theorem map_inj {α β : Type} {f : α → β} (hf : ∀ a b, f a = f b → a = b) : ∀ {l l' : List α}, l.map f = l'.map f → l = l'
  | [], [], _ => rfl
  | [], _ :: _, h => by simp at h
  | _ :: _, [], h => by simp at h
  | a :: l, b :: l', h => by
    simp only [List.map_cons, List.cons.injEq] at h
    rw [hf _ _ h.1, map_inj hf h.2]
theorem keyA_inj {d d' : Int} {s s' : ByteArray} (h : keyA d s = keyA d' s') : d = d' ∧ s = s' := by
  have h1 : keyCells d s = keyCells d' s' := by simpa [keyA] using h
  unfold keyCells at h1
  simp only [List.cons.injEq, Value.int.injEq, true_and] at h1
  obtain ⟨h2, h3, h4⟩ := h1
  refine ⟨h2, ?_⟩
  have hsz : s.size = s'.size := by omega
  have hl : (s.data.toList.map (fun b => Value.int .u8 (b.toNat : Int))) = s'.data.toList.map (fun b => Value.int .u8 (b.toNat : Int)) :=
    (List.append_inj h4 (by simpa using hsz)).1
  have hl' : s.data.toList = s'.data.toList := by
    exact map_inj (fun a b hab => by
      simp only [Value.int.injEq, true_and] at hab
      exact UInt8.toNat_inj.1 (by omega)) hl
  have : s.data = s'.data := Array.toList_inj.1 hl'
  cases s; cases s'; simp_all

theorem laidOut : laidOutB Tryz.prog = true := by kernel_rfl
theorem keyKeyed : Keyed Tryz.prog 133 := Keyed.of_law (deep_law_gate laidOut (of_decide_eq_true (by kernel_rfl)) (of_decide_eq_true (by kernel_rfl)) (by kernel_rfl) (by kernel_rfl))
theorem intKeyed : Keyed Tryz.prog 3 := int_keyed Tryz.underlying3

theorem wf_i64 {d : Int} (h1 : -9223372036854775808 ≤ d) (h2 : d ≤ 9223372036854775807) : (Lit.int .i64 d).wf = true := WalkArith.wf_i64 ⟨h1, h2⟩

theorem keyLits_array {P : Program} {t n e : Nat} {cs : List Value} {d : Nat} (ht : P.underlying t = some (.array n e)) :
    P.keyLits (d + 1) t cs = if cs.length = P.cellsOf t then ((List.range n).mapM fun i => P.keyLits d e ((cs.drop (i * P.cellsOf e)).take (P.cellsOf e))).map List.flatten else none := by
  conv => lhs; unfold Program.keyLits
  simp only [ht]
theorem keyLits_struct {P : Program} {t : Nat} {fs : Array Field} {cs : List Value} {d : Nat} (ht : P.underlying t = some (.struct fs)) :
    P.keyLits (d + 1) t cs = if cs.length = P.cellsOf t ∧ fs.all (·.name != "_") = true then (fs.toList.mapM fun f => P.keyLits d f.type ((cs.drop f.offset).take (P.cellsOf f.type))).map List.flatten else none := by
  conv => lhs; unfold Program.keyLits
  simp only [ht]
theorem tsize : Tryz.prog.types.size = 195 := by kernel_rfl
theorem cells55 : Tryz.prog.cellsOf 133 = 30 := by kernel_rfl
theorem cells53 : Tryz.prog.cellsOf 131 = 28 := by kernel_rfl
theorem cells5 : Tryz.prog.cellsOf 5 = 1 := by kernel_rfl
theorem cells3 : Tryz.prog.cellsOf 3 = 1 := by kernel_rfl
theorem mapM_ex {α β : Type} {f : α → Option β} : ∀ {l : List α}, (∀ x ∈ l, ∃ y, f x = some y) → ∃ ys, l.mapM f = some ys
  | [], _ => ⟨[], rfl⟩
  | x :: l, h => by
    obtain ⟨y, hy⟩ := h x (by simp)
    obtain ⟨ys, hys⟩ := mapM_ex (l := l) (fun z hz => h z (by simp [hz]))
    exact ⟨y :: ys, by simp [List.mapM_cons, hy, hys]⟩
theorem keyOf_key (d : Int) (s : ByteArray) (hd : (Lit.int .i64 d).wf = true) (hs : s.size ≤ 28) : ∃ l, keyOf Tryz.prog 133 (keyV d s) = some l := by
  have hlen := keyCells_length d s hs
  have hu8 : ∀ c ∈ (keyCells d s).drop 2, ∃ n : Int, c = .int .u8 n ∧ (Lit.int .u8 n).wf = true := by
    intro c hc
    simp only [keyCells, List.drop_succ_cons, List.drop_zero, List.mem_append, List.mem_map, List.mem_replicate] at hc
    rcases hc with ⟨b, _, rfl⟩ | ⟨_, rfl⟩
    · exact ⟨_, rfl, WalkArith.wf_u8 ⟨by omega, by have := b.toNat_lt; omega⟩⟩
    · exact ⟨_, rfl, WalkArith.wf_u8 ⟨by omega, by omega⟩⟩
  have hform : (keyV d s).formed Tryz.prog 133 = true := by
    unfold keyV Value.formed
    simp only [Tryz.underlying133, cells55, keyA_size d s hs, beq_self_eq_true]
  have hlits : ∃ ls, Tryz.prog.keyLits (Tryz.prog.types.size + 1) 133 (keyV d s).cells.toList = some ls := by
    have hc : (keyV d s).cells.toList = keyCells d s := by simp [keyV, Value.cells, keyA]
    rw [hc]
    have hsz : (Lit.int .i64 (s.size : Int)).wf = true := wf_i64 (by omega) (by omega)
    rw [tsize]
    have h1 : Tryz.prog.keyLits (194 + 1) 3 (((keyCells d s).drop 0).take 1) = some [.int .i64 d] := by
      simp [Program.keyLits, Tryz.underlying3, keyCells, hd]
    have h2 : Tryz.prog.keyLits (194 + 1) 3 (((keyCells d s).drop 1).take 1) = some [.int .i64 s.size] := by
      simp [Program.keyLits, Tryz.underlying3, keyCells, hsz]
    have h3 : ∃ ls, Tryz.prog.keyLits (194 + 1) 131 (((keyCells d s).drop 2).take 28) = some ls := by
      have hl28 : ((keyCells d s).drop 2).length = 28 := by rw [List.length_drop, hlen]
      rw [List.take_of_length_le (by omega)]
      generalize (keyCells d s).drop 2 = cs at hu8 hl28
      obtain ⟨ys, hys⟩ := mapM_ex (f := fun i => Tryz.prog.keyLits (193 + 1) 5 ((cs.drop (i * 1)).take 1)) (l := List.range 28) (fun i hi => by
        have hi' : i < cs.length := by rw [hl28]; simpa using hi
        obtain ⟨n, hn, hw⟩ := hu8 cs[i] (List.getElem_mem hi')
        refine ⟨[.int .u8 n], ?_⟩
        have e : (cs.drop (i * 1)).take 1 = [cs[i]] := by
          rw [Nat.mul_one, List.drop_eq_getElem_cons hi']; rfl
        show Tryz.prog.keyLits _ 5 ((cs.drop (i * 1)).take 1) = _
        rw [e, hn]
        simp [Program.keyLits, Tryz.underlying5, hw])
      refine ⟨ys.flatten, ?_⟩
      rw [keyLits_array Tryz.underlying131, cells53, if_pos hl28, cells5, hys]
      rfl
    obtain ⟨l3, h3⟩ := h3
    refine ⟨[[.int .i64 d], [.int .i64 s.size], l3].flatten, ?_⟩
    show Tryz.prog.keyLits (194 + 1 + 1) 133 (keyCells d s) = _
    rw [keyLits_struct Tryz.underlying133, cells55, if_pos ⟨hlen, by simp⟩]
    simp only [List.mapM_cons, List.mapM_nil, cells3, cells53, h1, h2, h3]
    rfl
  obtain ⟨ls, hls⟩ := hlits
  refine ⟨.string (keyBytes ls), ?_⟩
  have hkt : Tryz.prog.keyType 133 = true := by kernel_rfl
  unfold keyOf
  simp only [Tryz.underlying133, hkt, hform, hls, Bool.and_self, if_true, Option.map_some]
end Go.Proofs.YtabebkffcmajkaaGreatDoor

/-! Walks: keyOf, key.name. -/
namespace Go.Proofs.YtabebkffcmajkaaGreatDoor
open Go.RowKit Go.Maps

def zeroK : Array Value := keyA 0 ByteArray.empty
theorem zero55 (w : World) : (zeroValue 133).run Tryz.prog w = .ok (.agg zeroK) w := by kernel_rfl
theorem size55 : (Tryz.prog.info? 133).map (·.size) = some 30 := by kernel_rfl
theorem size5 : (Tryz.prog.info? 5).map (·.size) = some 1 := by kernel_rfl
theorem keyA_one (d : Int) (s : ByteArray) : (keyA d s).all (·.oneCell') = true := by
  rw [Array.all_eq_true_iff_forall_mem]
  intro v hv
  simp only [keyA, keyCells, List.mem_toArray, List.mem_cons, List.mem_append, List.mem_map, List.mem_replicate] at hv
  rcases hv with rfl | rfl | ⟨b, _, rfl⟩ | ⟨_, rfl⟩ <;> rfl

/-- a struct of type 133 with its first two fields given -/
def headK (d n : Int) : Array Value := (.int .i64 d :: .int .i64 n :: List.replicate 28 (.int .u8 0)).toArray
theorem run_buildK (d n : Int) (w : World) : (Instr.build 133 #[(0, .int .i64 d), (1, .int .i64 n)]).run Tryz.prog w = .ok (.agg (headK d n)) w := by
  kernel_rfl
theorem run_buildK0 (w : World) : (Instr.build 133 #[]).run Tryz.prog w = .ok (.agg zeroK) w := by
  kernel_rfl

theorem headK_copy (d : Int) (s : ByteArray) :
    ((headK d s.size).toList.take 2 ++ Go.Lib.byteCells s.data.toList ++ (headK d s.size).toList.drop (2 + s.size)).toArray = keyA d s := by
  have e : (headK d s.size).toList.drop (2 + s.size) = List.replicate (28 - s.size) (.int .u8 0) := by
    rw [← List.drop_drop]
    simp only [headK, List.drop_succ_cons, List.drop_zero]
    exact List.drop_replicate
  rw [e]
  simp [headK, keyA, keyCells, Go.Lib.byteCells]
theorem headK_one (d n : Int) : (headK d n).all (·.oneCell') = true := by
  rw [Array.all_eq_true_iff_forall_mem]
  intro v hv
  simp only [headK, List.mem_toArray, List.mem_cons, List.mem_replicate] at hv
  rcases hv with rfl | rfl | ⟨_, rfl⟩ <;> rfl
theorem headK_size (d n : Int) : (headK d n).size = 30 := by rfl
theorem zeroK_size : zeroK.size = 30 := by rfl
theorem agg_cells (z : Array Value) : (Value.agg z).cells = z := rfl

theorem size55' {c : Array Value} (h : c.size = 30) : (Tryz.prog.info? 133).map (·.size) = some c.size := by rw [h]; exact size55

theorem run_copyK (d : Int) (s : ByteArray) (w : World) (h : s.size ≤ 28) :
    (Builtin.copy_ #[145, 9] 3 #[.slice (some ⟨w.heap.size, 2, none⟩) 28 28, .string s]).run Tryz.prog (w.alloc (.cells (headK d s.size) 133)) = .ok (.int .i64 s.size) (w.alloc (.cells (keyA d s) 133)) := by
  rw [Go.Lib.run_copy_row_string _ 145 9 3 5 w.heap.size 2 28 28 s (headK d s.size) 133 Tryz.underlying145 size5 (heap_alloc_new w _) h (by rw [headK_size]; omega), headK_copy d s, alloc_setRow]
  rfl

set_option maxRecDepth 100000 in
set_option maxHeartbeats 400000 in
theorem keyOf_good (d : Int) (s : ByteArray) (w : World) (h : s.size ≤ 28) :
    Calls Tryz.prog 76 #[.int .i64 d, .string s] w fun e w' => e = .returned (.tuple #[keyV d s, .bool true]) ∧ Mod None_ w w' := by
  have hle : (28 < (s.size : Int)) = False := by simp; omega
  have hcp := run_copyK d s (w.alloc (.cells zeroK 133)) h
  have hsz : (w.alloc (.cells zeroK 133)).heap.size = w.heap.size + 1 := by simp
  rw [hsz] at hcp
  have hk := keyA_size d s h
  go_enter Tryz.func76, Tryz.ntmps76
  go_wp2_with (first
    | ((with_reducible refine at_slot 6 ?_); refine wpList_declare rfl rfl 133 6 (.tmp 10) rfl rfl rfl zeroK (headK d s.size) zero55 (size55' (headK_size _ _)) (zeroK_size.trans (headK_size _ _).symm) (headK_one _ _) (by simp) rfl ?_; go_frame; rw [hsz])
    | ((with_reducible refine at_slot 4 ?_); refine wpList_alloc rfl 133 rfl (.agg zeroK) zero55 ?_; simp only [agg_cells]; go_frame)
    | ((with_reducible refine at_slot 19 ?_); refine wpList_load_row rfl 133 (.tmp 6) rfl (w.heap.size + 1) rfl 133 (keyA d s) (0, 0) _ (by rw [← hsz]; exact heap_alloc_new _ _) Tryz.underlying133 rfl (size55' hk) ?_; go_frame)
    | ((with_reducible refine at_none 133 4 19 ?_); refine wpList_store_row rfl 133 (.tmp 4) (.tmp 19) rfl w.heap.size (keyA d s) rfl rfl 133 zeroK (heap_alloc2_old _ _ _) (size55' hk) (zeroK_size.trans hk.symm) (keyA_one d s) ?_; rw [alloc2_setRow]; go_frame))
  exact bodyPost_ret (results_cell_tmp rfl _ _ w.heap.size 133 (keyA d s) (0, 0) _ rfl (heap_alloc2_old _ _ _) Tryz.underlying133 rfl (size55' hk)) rfl ⟨rfl, ((Mod.refl _ w).alloc _).alloc _⟩

set_option maxRecDepth 100000 in
set_option maxHeartbeats 400000 in
theorem keyOf_bad (d : Int) (s : ByteArray) (w : World) (h : 28 < s.size) :
    Calls Tryz.prog 76 #[.int .i64 d, .string s] w fun e w' => e = .returned (.tuple #[keyV 0 ByteArray.empty, .bool false]) ∧ Mod None_ w w' := by
  have hle : (28 < (s.size : Int)) = True := by simp; omega
  have hsz : (w.alloc (.cells zeroK 133)).heap.size = w.heap.size + 1 := by simp
  go_enter Tryz.func76, Tryz.ntmps76
  go_wp2_with (first
    | ((with_reducible refine at_slot 6 ?_); refine wpList_declare rfl rfl 133 6 (.tmp 10) rfl rfl rfl zeroK (headK d s.size) zero55 (size55' (headK_size _ _)) (zeroK_size.trans (headK_size _ _).symm) (headK_one _ _) (by simp) rfl ?_; go_frame; rw [hsz])
    | ((with_reducible refine at_slot 4 ?_); refine wpList_alloc rfl 133 rfl (.agg zeroK) zero55 ?_; simp only [agg_cells]; go_frame)
    | ((with_reducible refine at_none 133 4 14 ?_); refine wpList_store_row rfl 133 (.tmp 4) (.tmp 14) rfl w.heap.size zeroK rfl rfl 133 zeroK (heap_alloc2_old _ _ _) (size55' zeroK_size) rfl (keyA_one 0 _) ?_; rw [alloc2_setRow]; go_frame))
  exact bodyPost_ret (results_cell_tmp rfl _ _ w.heap.size 133 zeroK (0, 0) _ rfl (heap_alloc2_old _ _ _) Tryz.underlying133 rfl (size55' zeroK_size)) rfl ⟨rfl, ((Mod.refl _ w).alloc _).alloc _⟩
end Go.Proofs.YtabebkffcmajkaaGreatDoor

/-! The index: what its four blocks hold; the counts. -/
namespace Go.Proofs.YtabebkffcmajkaaGreatDoor
open Go.RowKit Go.Maps

/-- block b is a map from numbers to their counts, of which none is 0 -/
def Counts (w : World) (b : Nat) (f : Int → Nat) : Prop :=
  ∃ l, MapIs Tryz.prog 3 w b l ∧ ∀ p, p ∈ l ↔ ∃ d, f d ≠ 0 ∧ p = (.int .i64 d, .int .i64 (f d))
theorem Counts.of_block {w w' : World} {b : Nat} {f : Int → Nat} (h : Counts w b f) (hb : w'.heap[b]? = w.heap[b]?) : Counts w' b f := by
  obtain ⟨l, h1, h2⟩ := h; exact ⟨l, h1.of_block hb, h2⟩
theorem Counts.lt {w : World} {b : Nat} {f : Int → Nat} (h : Counts w b f) : b < w.heap.size := by obtain ⟨l, h1, h2⟩ := h; exact h1.lt
theorem Counts.mod {S : Nat → Prop} {w w' : World} {b : Nat} {f : Int → Nat} (h : Counts w b f) (hm : Mod S w w') (hs : ¬ S b) : Counts w' b f := h.of_block (hm.block b h.lt hs)
theorem Counts.congr {w : World} {b : Nat} {f g : Int → Nat} (h : Counts w b f) (hf : ∀ d, f d = g d) : Counts w b g := by
  obtain rfl : f = g := funext hf; exact h
theorem Counts.made (w : World) : Counts (w.alloc (.map #[] 0)) w.heap.size (fun _ => 0) := ⟨[], MapIs.made w, by simp⟩

theorem zero3 (w : World) : (zeroValue 3).run Tryz.prog w = .ok (.int .i64 0) w := by kernel_rfl
theorem keyOf_int {d : Int} (hd : (Lit.int .i64 d).wf = true) : keyOf Tryz.prog 3 (.int .i64 d) = some (.int .i64 d) := by
  simp [keyOf, mapKey, Tryz.underlying3, hd]
theorem key_wf {d : Int} {x : Lit} (h : keyOf Tryz.prog 3 (.int .i64 d) = some x) : (Lit.int .i64 d).wf = true := by
  simp only [keyOf, mapKey, Tryz.underlying3] at h
  split at h
  · rename_i h'; exact h'.2
  · cases h

theorem Counts.look {w : World} {b : Nat} {f : Int → Nat} (h : Counts w b f) (d : Int) (hd : (Lit.int .i64 d).wf = true) :
    (Instr.lookup 128 (.map (some b)) (.int .i64 d) false).run Tryz.prog w = .ok (.int .i64 (f d)) w := by
  obtain ⟨l, h1, h2⟩ := h
  by_cases h0 : f d = 0
  · rw [h0]
    exact h1.look_no intKeyed Tryz.underlying128 zero3 (keyOf_int hd) (fun p hp e => by
      obtain ⟨d', hd', rfl⟩ := (h2 p).1 hp
      simp only [Value.int.injEq, true_and] at e
      subst e; exact hd' h0)
  · exact h1.look intKeyed Tryz.underlying128 ((h2 _).2 ⟨d, h0, rfl⟩)

def upd (f : Int → Nat) (n : Int) (v : Nat) : Int → Nat := fun d => if d = n then v else f d

/-- a store of a count that is not 0 -/
theorem Counts.store {w : World} {b : Nat} {f : Int → Nat} (h : Counts w b f) (n : Int) (hn : (Lit.int .i64 n).wf = true) (v : Nat) (hv : v ≠ 0) :
    ∃ o, (Instr.mapUpdate 128 (.map (some b)) (.int .i64 n) (.int .i64 v)).run Tryz.prog w = .ok () (putBlk w b o) ∧ Counts (putBlk w b o) b (upd f n v) := by
  obtain ⟨l, h1, h2⟩ := h
  by_cases h0 : f n = 0
  · obtain ⟨o, hr, hm⟩ := h1.store_new intKeyed Tryz.underlying128 (v := .int .i64 v) (keyOf_int hn) (fun p hp e => by
      obtain ⟨d', hd', rfl⟩ := (h2 p).1 hp
      simp only [Value.int.injEq, true_and] at e
      subst e; exact hd' h0)
    refine ⟨o, hr, _, hm, fun p => ?_⟩
    simp only [List.mem_cons, h2, upd]
    constructor
    · rintro (rfl | ⟨d, hd, rfl⟩)
      · exact ⟨n, by simpa using hv, by simp⟩
      · refine ⟨d, ?_, ?_⟩ <;> (have : d ≠ n := by rintro rfl; exact hd h0
                                simp [this, hd])
    · rintro ⟨d, hd, rfl⟩
      by_cases e : d = n
      · subst e; simp
      · simp only [e, if_false] at hd ⊢
        exact .inr ⟨d, hd, rfl⟩
  · have hin : (Value.int .i64 n, Value.int .i64 (f n : Int)) ∈ l := (h2 _).2 ⟨n, h0, rfl⟩
    obtain ⟨l', hl⟩ := mem_perm hin
    obtain ⟨o, hr, hm⟩ := h1.store_old intKeyed Tryz.underlying128 (v := .int .i64 v) hl
    have hnd : ∀ p ∈ l', p.1 ≠ Value.int .i64 n := by
      have := (hl.map (·.1)).nodup_iff.1 h1.nodup
      simp only [List.map_cons, List.nodup_cons] at this
      intro p hp e
      exact this.1 (by rw [← e]; exact List.mem_map_of_mem hp)
    refine ⟨o, hr, _, hm, fun p => ?_⟩
    simp only [List.mem_cons, upd]
    constructor
    · rintro (rfl | hp)
      · exact ⟨n, by simpa using hv, by simp⟩
      · obtain ⟨d, hd, rfl⟩ := (h2 p).1 (hl.mem_iff.2 (List.mem_cons_of_mem _ hp))
        have : d ≠ n := by rintro rfl; exact hnd _ hp rfl
        exact ⟨d, by simpa [this] using hd, by simp [this]⟩
    · rintro ⟨d, hd, rfl⟩
      by_cases e : d = n
      · subst e; simp
      · simp only [e, if_false] at hd ⊢
        have := hl.mem_iff.1 ((h2 _).2 ⟨d, hd, rfl⟩)
        rcases List.mem_cons.1 this with e' | hp
        · simp only [Prod.mk.injEq, Value.int.injEq, true_and] at e'
          exact absurd e'.1 e
        · exact .inr hp
/-- a store of 0, and the delete behind it -/
theorem Counts.store0 {w : World} {b : Nat} {f : Int → Nat} (h : Counts w b f) (n : Int) (h0 : f n ≠ 0) :
    ∃ o o', (Instr.mapUpdate 128 (.map (some b)) (.int .i64 n) (.int .i64 0)).run Tryz.prog w = .ok () (putBlk w b o) ∧
      (Instr.lookup 128 (.map (some b)) (.int .i64 n) false).run Tryz.prog (putBlk w b o) = .ok (.int .i64 0) (putBlk w b o) ∧
      (∀ ty, (Builtin.delete_ #[128, 3] ty #[.map (some b), .int .i64 n]).run Tryz.prog (putBlk w b o) = .ok (.tuple #[]) (putBlk (putBlk w b o) b o')) ∧ Counts (putBlk (putBlk w b o) b o') b (upd f n 0) := by
  obtain ⟨l, h1, h2⟩ := h
  have hin : (Value.int .i64 n, Value.int .i64 (f n : Int)) ∈ l := (h2 _).2 ⟨n, h0, rfl⟩
  obtain ⟨l', hl⟩ := mem_perm hin
  obtain ⟨o, hr, hm⟩ := h1.store_old intKeyed Tryz.underlying128 (v := .int .i64 0) hl
  have hlook := hm.look intKeyed Tryz.underlying128 (x := .int .i64 n) (v := .int .i64 0) (by simp)
  obtain ⟨o', hd, hm'⟩ := hm.drop intKeyed (ts := #[128, 3]) rfl Tryz.underlying128 (List.Perm.refl _)
  have hnd : ∀ p ∈ l', p.1 ≠ Value.int .i64 n := by
    have := (hl.map (·.1)).nodup_iff.1 h1.nodup
    simp only [List.map_cons, List.nodup_cons] at this
    intro p hp e
    exact this.1 (by rw [← e]; exact List.mem_map_of_mem hp)
  refine ⟨o, o', hr, hlook, hd, _, hm', fun p => ?_⟩
  simp only [upd]
  constructor
  · intro hp
    obtain ⟨d, hd, rfl⟩ := (h2 p).1 (hl.mem_iff.2 (List.mem_cons_of_mem _ hp))
    have : d ≠ n := by rintro rfl; exact hnd _ hp rfl
    exact ⟨d, by simpa [this] using hd, by simp [this]⟩
  · rintro ⟨d, hd, rfl⟩
    by_cases e : d = n
    · subst e; simp at hd
    · simp only [e, if_false] at hd ⊢
      have := hl.mem_iff.1 ((h2 _).2 ⟨d, hd, rfl⟩)
      rcases List.mem_cons.1 this with e' | hp
      · simp only [Prod.mk.injEq, Value.int.injEq, true_and] at e'
        exact absurd e'.1 e
      · exact hp
end Go.Proofs.YtabebkffcmajkaaGreatDoor

/-! Walks: count. -/
namespace Go.Proofs.YtabebkffcmajkaaGreatDoor
open Go.RowKit Go.Maps

theorem putBlk_mod (w : World) (b : Nat) (o : Obj) : Mod (· = b) w (putBlk w b o) := Mod.putBlk (Mod.refl (· = b) w) (.inr rfl) o

set_option maxHeartbeats 400000 in
theorem count_up (w : World) (b : Nat) (f : Int → Nat) (n : Int) (hn : (Lit.int .i64 n).wf = true) (h : Counts w b f) (hb : f n + 1 < 4611686018427387904) :
    Calls Tryz.prog 77 #[.map (some b), .int .i64 n, .int .i64 1] w fun e w' => e = .returned (.tuple #[]) ∧ Mod (· = b) w w' ∧ w'.heap.size = w.heap.size ∧ Counts w' b (upd f n (f n + 1)) := by
  obtain ⟨o, hs, hc⟩ := h.store n hn (f n + 1) (by omega)
  have hl := h.look n hn
  have hl2 := hc.look n hn
  have e1 : upd f n (f n + 1) n = f n + 1 := by simp [upd]
  rw [e1] at hl2
  obtain ⟨w1, hw1⟩ : ∃ w1, w1 = putBlk w b o := ⟨_, rfl⟩
  have hM : Mod (· = b) w w1 := by rw [hw1]; exact putBlk_mod w b o
  have hS : w1.heap.size = w.heap.size := by rw [hw1]; simp
  rw [← hw1] at hs hc hl2
  clear hw1
  obtain ⟨c, hcv⟩ : ∃ c, c = f n := ⟨_, rfl⟩
  rw [← hcv] at hs hl2 hb hl
  have hc0 : (((c : Int) + 1) == 0) = false := by simp; omega
  have hb' : (c : Int) + 1 < 4611686018427387904 := by omega
  have hp : 0 ≤ (c : Int) := by omega
  have HS := hide hS
  have e2 : ((c + 1 : Nat) : Int) = (c : Int) + 1 := by omega
  rw [e2] at hs hl2
  clear hS e1 hcv hb e2
  go_enter Tryz.func77, Tryz.ntmps77
  go_wp2_with (first
    | ((with_reducible refine at_slot 8 ?_); refine wpList_val rfl (ex_lookup rfl hl) ?_; go_frame)
    | ((with_reducible refine at_slot 13 ?_); refine wpList_val rfl (ex_lookup rfl hl2) ?_; go_frame)
    | ((with_reducible refine at_update ?_); refine wpList_skp rfl (ex_mapUpdate rfl hs) ?_; go_frame))
  go_end0
  exact ⟨rfl, hM, HS.out, hc⟩

set_option maxHeartbeats 400000 in
theorem count_down (w : World) (b : Nat) (f : Int → Nat) (n : Int) (hn : (Lit.int .i64 n).wf = true) (h : Counts w b f) (h0 : f n ≠ 0) (hb : f n < 4611686018427387904) :
    Calls Tryz.prog 77 #[.map (some b), .int .i64 n, .int .i64 (-1)] w fun e w' => e = .returned (.tuple #[]) ∧ Mod (· = b) w w' ∧ w'.heap.size = w.heap.size ∧ Counts w' b (upd f n (f n - 1)) := by
  have hl := h.look n hn
  obtain ⟨c, hcv⟩ : ∃ c, c = f n := ⟨_, rfl⟩
  by_cases h1 : f n = 1
  · obtain ⟨o, o', hs, hl2, hd, hc⟩ := h.store0 n h0
    obtain ⟨w1, hw1⟩ : ∃ w1, w1 = putBlk w b o := ⟨_, rfl⟩
    rw [← hw1] at hs hl2 hd hc
    obtain ⟨w2, hw2⟩ : ∃ w2, w2 = putBlk w1 b o' := ⟨_, rfl⟩
    rw [← hw2] at hd hc
    have hM : Mod (· = b) w w2 := by rw [hw2, hw1]; exact Mod.putBlk (putBlk_mod w b o) (.inr rfl) o'
    have hS : w2.heap.size = w.heap.size := by rw [hw2, hw1]; simp
    have HS := hide hS
    have HC : Counts w2 b (upd f n (f n - 1)) := by rw [h1]; exact hc
    rw [h1] at hl
    replace hl : (Instr.lookup 128 (.map (some b)) (.int .i64 n) false).run Tryz.prog w = .ok (.int .i64 1) w := hl
    clear hw1 hw2 hS hcv h0 h1 hc
    go_enter Tryz.func77, Tryz.ntmps77
    go_wp2_with (first
      | ((with_reducible refine at_slot 8 ?_); refine wpList_val rfl (ex_lookup rfl hl) ?_; go_frame)
      | ((with_reducible refine at_slot 13 ?_); refine wpList_val rfl (ex_lookup rfl hl2) ?_; go_frame)
      | ((with_reducible refine at_update ?_); refine wpList_skp rfl (ex_mapUpdate rfl hs) ?_; go_frame))
    go_end0
    exact ⟨rfl, hM, HS.out, HC⟩
  · obtain ⟨o, hs, hc⟩ := h.store n hn (f n - 1) (by omega)
    have hl2 := hc.look n hn
    have e1 : upd f n (f n - 1) n = f n - 1 := by simp [upd]
    rw [e1] at hl2
    obtain ⟨w1, hw1⟩ : ∃ w1, w1 = putBlk w b o := ⟨_, rfl⟩
    have hM : Mod (· = b) w w1 := by rw [hw1]; exact putBlk_mod w b o
    have hS : w1.heap.size = w.heap.size := by rw [hw1]; simp
    rw [← hw1] at hs hc hl2
    clear hw1
    have e2 : ((f n - 1 : Nat) : Int) = (f n : Int) - 1 := by omega
    rw [e2] at hs hl2
    rw [← hcv] at hs hl2 hb hl h1 h0
    have hc0 : (((c : Int) - 1) == 0) = false := by simp; omega
    have hc1 : (1 : Int) < c := by omega
    have hb' : (c : Int) < 4611686018427387904 := by omega
    have HS := hide hS
    have e3 : (c : Int) + -1 = (c : Int) - 1 := by omega
    clear hS e1 hcv hb e2 h0 h1
    have HE := hide e3
    clear e3
    go_enter Tryz.func77, Tryz.ntmps77
    go_wp2_with (first
      | ((with_reducible refine at_slot 8 ?_); refine wpList_val rfl (ex_lookup rfl hl) ?_; go_frame)
      | ((with_reducible refine at_slot 13 ?_); refine wpList_val rfl (ex_lookup rfl hl2) ?_; go_frame)
      | ((with_reducible refine at_update ?_); refine wpList_skp rfl (ex_mapUpdate rfl (by simpa [Act.eval, HE.out] using hs)) ?_; go_frame))
    go_end0
    exact ⟨rfl, hM, HS.out, hc⟩
end Go.Proofs.YtabebkffcmajkaaGreatDoor

/-! Walks: isInode, place, ino, ValidName, good. -/
namespace Go.Proofs.YtabebkffcmajkaaGreatDoor
open Go.RowKit Go.Maps

theorem getD_lt {α : Type} {l : List α} {i : Nat} {d : α} (h : i < l.length) : l.getD i d = l[i] := by simp [List.getD_eq_getElem?_getD, h]
def isInodeB (n : Int) : Bool := decide (1 ≤ n ∧ n ≤ 256)
theorem isInode_any (n : Int) (w : World) :
    Calls Tryz.prog 75 #[.int .i64 n] w fun e w' => e = .returned (.bool (isInodeB n)) ∧ w = w' := by
  go_enter Tryz.func75, Tryz.ntmps75
  go_wp2
  all_goals (go_ret; simp [isInodeB]; try omega)

def okByte (c : UInt8) : Bool := c != 0 && c != 47
def goodName (s : ByteArray) : Bool :=
  decide (1 ≤ s.size) && decide (s.size ≤ 28) && !(s.toList == [46]) && !(s.toList == [46, 46]) && s.data.toList.all okByte

set_option maxRecDepth 100000 in
set_option maxHeartbeats 400000 in
theorem validName_any (s : ByteArray) (w : World) :
    Calls Tryz.prog 71 #[.string s] w fun e w' => e = .returned (.bool (goodName s)) ∧ Mod (fun _ => False) w w' := by
  by_cases h0 : s.size = 0
  · have h0' : ((s.size : Int) == 0) = true := by simp [h0]
    have hg : goodName s = false := by simp [goodName, h0]
    have HG := hide hg
    clear hg h0
    go_enter Tryz.func71, Tryz.ntmps71
    go_wp2
    go_ret
    exact ⟨by rw [HG.out]; rfl, Mod.refl _ _⟩
  · have h0' : ((s.size : Int) == 0) = false := by
      rw [beq_eq_false_iff_ne]
      omega
    by_cases h1 : 28 < s.size
    · have hg : goodName s = false := by
        unfold goodName
        rw [decide_eq_false (p := s.size ≤ 28) (by omega)]
        simp
      have HG := hide hg
      have h1' : (28 : Int) < s.size := by omega
      clear hg h0 h1
      go_enter Tryz.func71, Tryz.ntmps71
      go_wp2
      go_ret
      exact ⟨by rw [HG.out]; rfl, Mod.refl _ _⟩
    · have h1' : ¬ (28 : Int) < s.size := by omega
      cases h2 : (s.toList == [46]) with
      | true =>
        have hg : goodName s = false := by simp [goodName, h2]
        have HG := hide hg
        clear hg h0
        go_enter Tryz.func71, Tryz.ntmps71
        go_wp2
        go_ret
        exact ⟨by rw [HG.out]; rfl, Mod.refl _ _⟩
      | false =>
        cases h3 : (s.toList == [46, 46]) with
        | true =>
          have hg : goodName s = false := by simp [goodName, h3]
          have HG := hide hg
          clear hg h0
          go_enter Tryz.func71, Tryz.ntmps71
          go_wp2
          go_ret
          exact ⟨by rw [HG.out]; rfl, Mod.refl _ _⟩
        | false =>
          have hg : goodName s = s.data.toList.all okByte := by
            unfold goodName
            rw [h2, h3, decide_eq_true (p := 1 ≤ s.size) (by omega), decide_eq_true (p := s.size ≤ 28) (by omega)]
            simp
          obtain ⟨w1, c, hcv, hM, hcell⟩ : ∃ w1 c, (Go.convert 9 145 (.string s)).run Tryz.prog w = .ok (.slice (some ⟨w.heap.size, 0, none⟩) s.size c) w1 ∧ Mod (fun _ => False) w w1 ∧
              ∀ j, j < s.size → w1.cell? ⟨w.heap.size, j, none⟩ = some (.int .u8 ((s.data.toList.getD j 0).toNat : Int)) :=
            ⟨_, _, Go.Lib.run_convert_string_bytes w 9 145 5 s Tryz.underlying9 Tryz.underlying145 Tryz.underlying5,
             ⟨rfl, rfl, rfl, by rw [Go.Lib.bytesWorld_size]; omega, fun k hk _ => Go.Lib.bytesWorld_at_old w 5 s k hk⟩, fun j hj => Go.Lib.bytesWorld_cell w 5 s j hj⟩
          have HG := hide hg
          have HC := hide hcell
          have hsz : s.size ≤ 28 := by omega
          have hlen : s.data.toList.length = s.size := by simp
          have HL := hide hlen
          clear hg hcell h0 h1 hlen
          go_enter Tryz.func71, Tryz.ntmps71
          go_wp2
          go_loop [24] (fun i => ∃ k : Nat, k ≤ s.size ∧ i = .int .i64 k ∧ ∀ j, j < k → okByte (s.data.toList.getD j 0) = true) (fun i => s.size - (intOf i).toNat)
          case atStart => exact ⟨0, Nat.zero_le _, rfl, by omega⟩
          case round =>
            obtain ⟨k, hk, rfl, hok⟩ := hrel
            have HO := hide hok
            clear hok
            by_cases hlt : k < s.size
            · have hc := HC.out k hlt
              obtain ⟨b, hb⟩ : ∃ b, b = s.data.toList.getD k 0 := ⟨_, rfl⟩
              rw [← hb] at hc
              have HB := hide hb
              clear hb
              have hbl := b.toNat_lt
              by_cases hb0 : b.toNat = 0
              · have hb0' : ((b.toNat : Int) == 0) = true := by rw [hb0]; rfl
                have hbad : s.data.toList.all okByte = false := by
                  rw [List.all_eq_false]
                  refine ⟨b, ?_, ?_⟩
                  · rw [HB.out, getD_lt (by rw [HL.out]; exact hlt)]; exact List.getElem_mem _
                  · have : b = 0 := UInt8.toNat_inj.1 hb0
                    subst this; decide
                have HBad := hide hbad
                clear hb0 hbad
                go_wp2
                go_ret
                exact ⟨by rw [HG.out, HBad.out]; rfl, hM⟩
              · have hb0' : ((b.toNat : Int) == 0) = false := by rw [beq_eq_false_iff_ne]; omega
                by_cases hb1 : b.toNat = 47
                · have hb1' : ((b.toNat : Int) == 47) = true := by rw [hb1]; rfl
                  have hbad : s.data.toList.all okByte = false := by
                    rw [List.all_eq_false]
                    refine ⟨b, ?_, ?_⟩
                    · rw [HB.out, getD_lt (by rw [HL.out]; exact hlt)]; exact List.getElem_mem _
                    · have : b = 47 := UInt8.toNat_inj.1 hb1
                      subst this; decide
                  have HBad := hide hbad
                  clear hb0 hb1 hbad
                  go_wp2
                  go_ret
                  exact ⟨by rw [HG.out, HBad.out]; rfl, hM⟩
                · have hb1' : ((b.toNat : Int) == 47) = false := by rw [beq_eq_false_iff_ne]; omega
                  have hbok : okByte b = true := by
                    unfold okByte
                    rw [Bool.and_eq_true, bne_iff_ne, bne_iff_ne]
                    exact ⟨fun e => hb0 (by rw [e]; rfl), fun e => hb1 (by rw [e]; rfl)⟩
                  have HBok := hide hbok
                  clear hb0 hb1 hbok
                  go_wp2
                  go_round
                  case rel =>
                    refine ⟨k + 1, by omega, by go_num, fun j hj => ?_⟩
                    by_cases e : j = k
                    · subst e; rw [← HB.out]; exact HBok.out
                    · exact HO.out j (by omega)
                  case measure => simp [intOf]; omega
            · have hall : s.data.toList.all okByte = true := by
                rw [List.all_eq_true]
                intro x hx
                obtain ⟨j, hj, rfl⟩ := List.getElem_of_mem hx
                have := HO.out j (by have := HL.out; omega)
                rwa [getD_lt hj] at this
              have HA := hide hall
              clear hall
              go_wp2
              go_ret
              exact ⟨by rw [HG.out, HA.out]; rfl, hM⟩
end Go.Proofs.YtabebkffcmajkaaGreatDoor

/-! The index as a list of rows. -/
namespace Go.Proofs.YtabebkffcmajkaaGreatDoor
open Go.RowKit Go.Maps

structure Row where
  dir : Int
  name : ByteArray
  ino : Int
  deriving DecidableEq
def Row.kv (r : Row) : Value × Value := (keyV r.dir r.name, .int .i64 r.ino)
def Row.Ok (r : Row) : Prop := (1 ≤ r.dir ∧ r.dir ≤ 256) ∧ (1 ≤ r.ino ∧ r.ino ≤ 256) ∧ goodName r.name = true
def cntDir (rows : List Row) (d : Int) : Nat := (rows.filter (fun r => decide (r.dir = d))).length
def cntIno (rows : List Row) (n : Int) : Nat := (rows.filter (fun r => decide (r.ino = n))).length
/-- what a name in a directory stands for; 0: nothing -/
def findIno (rows : List Row) (d : Int) (s : ByteArray) : Int := ((rows.find? (fun r => decide (r.dir = d ∧ r.name = s))).map (·.ino)).getD 0

theorem goodName_size {s : ByteArray} (h : goodName s = true) : 1 ≤ s.size ∧ s.size ≤ 28 := by
  unfold goodName at h
  simp only [Bool.and_eq_true, decide_eq_true_eq] at h
  exact ⟨h.1.1.1.1, h.1.1.1.2⟩

structure IndexAt (w : World) (b : Nat) (rows : List Row) : Prop where
  blk : Blk w (b + 3) 130 #[.map (some b), .map (some (b + 1)), .map (some (b + 2))]
  inos : MapIs Tryz.prog 133 w b (rows.map Row.kv)
  names : Counts w (b + 1) (cntDir rows)
  links : Counts w (b + 2) (cntIno rows)
  ok : ∀ r ∈ rows, r.Ok

/-- the index's blocks -/
def Ix (b : Nat) : Nat → Prop := fun k => b ≤ k ∧ k < b + 4

section
variable {w w' : World} {b : Nat} {rows : List Row}
theorem IndexAt.of_blocks (h : IndexAt w b rows) (hb : ∀ k, b ≤ k → k < b + 4 → w'.heap[k]? = w.heap[k]?) : IndexAt w' b rows :=
  ⟨h.blk.of_block (hb _ (by omega) (by omega)), h.inos.of_block (hb _ (by omega) (by omega)), h.names.of_block (hb _ (by omega) (by omega)), h.links.of_block (hb _ (by omega) (by omega)), h.ok⟩
theorem IndexAt.lt (h : IndexAt w b rows) : b + 3 < w.heap.size := h.blk.lt
theorem IndexAt.mod {S : Nat → Prop} (h : IndexAt w b rows) (hm : Mod S w w') (hs : ∀ k, b ≤ k → k < b + 4 → ¬ S k) : IndexAt w' b rows :=
  h.of_blocks fun k h1 h2 => hm.block k (by have := h.lt; omega) (hs k h1 h2)
theorem IndexAt.kept (h : IndexAt w b rows) (hm : Mod None_ w w') : IndexAt w' b rows := h.mod hm fun _ _ _ f => f.elim
theorem IndexAt.drew (h : IndexAt w b rows) : IndexAt w.drew b rows := h.of_blocks fun _ _ _ => rfl
theorem IndexAt.alloc (h : IndexAt w b rows) (o : Obj) : IndexAt (w.alloc o) b rows := h.kept ((Mod.refl _ w).alloc o)

theorem Row.Ok.wf {r : Row} (h : r.Ok) : (Lit.int .i64 r.dir).wf = true := wf_i64 (by have := h.1; omega) (by have := h.1; omega)
theorem Row.Ok.size {r : Row} (h : r.Ok) : r.name.size ≤ 28 := (goodName_size h.2.2).2

theorem IndexAt.nodup (h : IndexAt w b rows) : (rows.map (fun r => (r.dir, r.name))).Nodup := by
  have hn := h.inos.nodup
  rw [List.map_map] at hn
  refine (List.pairwise_map.2 ?_)
  refine (List.pairwise_map.1 hn).imp ?_
  intro x y hne e
  simp only [Prod.mk.injEq] at e
  exact hne (by simp [Row.kv, e.1, e.2])

theorem kv_mem {d : Int} {s : ByteArray} {v : Value} : (keyV d s, v) ∈ rows.map Row.kv ↔ ∃ r ∈ rows, r.dir = d ∧ r.name = s ∧ v = .int .i64 r.ino := by
  rw [List.mem_map]
  constructor
  · rintro ⟨r, hr, e⟩
    simp only [Row.kv, Prod.mk.injEq, keyV, Value.agg.injEq] at e
    obtain ⟨h1, h2⟩ := keyA_inj e.1
    exact ⟨r, hr, h1, h2, e.2.symm⟩
  · rintro ⟨r, hr, rfl, rfl, rfl⟩
    exact ⟨r, hr, rfl⟩

theorem find_none {d : Int} {s : ByteArray} (h : rows.find? (fun r => decide (r.dir = d ∧ r.name = s)) = none) : ∀ p ∈ rows.map Row.kv, p.1 ≠ keyV d s := by
  rintro ⟨k, v⟩ hp e
  simp only at e
  subst e
  obtain ⟨r, hr, h1, h2, _⟩ := kv_mem.1 hp
  have := List.find?_eq_none.1 h r hr
  simp [h1, h2] at this
theorem find_some {d : Int} {s : ByteArray} {r : Row} (h : rows.find? (fun r => decide (r.dir = d ∧ r.name = s)) = some r) : r ∈ rows ∧ r.dir = d ∧ r.name = s := by
  have h1 := List.find?_some h
  simp only [decide_eq_true_eq] at h1
  exact ⟨List.mem_of_find?_eq_some h, h1.1, h1.2⟩

theorem zero3' (w : World) : (zeroValue 3).run Tryz.prog w = .ok (.int .i64 0) w := zero3 w
/-- x.inos[k] -/
theorem look_of (h : MapIs Tryz.prog 133 w b (rows.map Row.kv)) (d : Int) (s : ByteArray) (hd : (Lit.int .i64 d).wf = true) (hs : s.size ≤ 28) :
    (Instr.lookup 127 (.map (some b)) (keyV d s) false).run Tryz.prog w = .ok (.int .i64 (findIno rows d s)) w := by
  cases hf : rows.find? (fun r => decide (r.dir = d ∧ r.name = s)) with
  | none =>
    obtain ⟨l, hl⟩ := keyOf_key d s hd hs
    have : findIno rows d s = 0 := by unfold findIno; rw [hf]; rfl
    rw [this]
    exact h.look_no keyKeyed Tryz.underlying127 zero3 hl (find_none hf)
  | some r =>
    obtain ⟨h1, h2, h3⟩ := find_some hf
    have : findIno rows d s = r.ino := by unfold findIno; rw [hf]; rfl
    rw [this]
    exact h.look keyKeyed Tryz.underlying127 (kv_mem.2 ⟨r, h1, h2, h3, rfl⟩)
theorem IndexAt.look (h : IndexAt w b rows) (d : Int) (s : ByteArray) (hd : (Lit.int .i64 d).wf = true) (hs : s.size ≤ 28) :
    (Instr.lookup 127 (.map (some b)) (keyV d s) false).run Tryz.prog w = .ok (.int .i64 (findIno rows d s)) w := look_of h.inos d s hd hs
theorem findIno_ne {d : Int} {s : ByteArray} (_hok : ∀ r ∈ rows, r.Ok) (h : findIno rows d s ≠ 0) : ∃ r ∈ rows, r.dir = d ∧ r.name = s ∧ findIno rows d s = r.ino := by
  cases hf : rows.find? (fun r => decide (r.dir = d ∧ r.name = s)) with
  | none => exact absurd (by unfold findIno; rw [hf]; rfl) h
  | some r =>
    obtain ⟨h1, h2, h3⟩ := find_some hf
    exact ⟨r, h1, h2, h3, by unfold findIno; rw [hf]; rfl⟩
theorem findIno_zero {d : Int} {s : ByteArray} (hok : ∀ r ∈ rows, r.Ok) (h : findIno rows d s = 0) : rows.find? (fun r => decide (r.dir = d ∧ r.name = s)) = none := by
  cases hf : rows.find? (fun r => decide (r.dir = d ∧ r.name = s)) with
  | none => rfl
  | some r =>
    obtain ⟨h1, h2, h3⟩ := find_some hf
    have e : findIno rows d s = r.ino := by unfold findIno; rw [hf]; rfl
    have := (hok r h1).2.1
    omega
theorem findIno_mem {r : Row} (hn : (rows.map (fun r => (r.dir, r.name))).Nodup) (h : r ∈ rows) : findIno rows r.dir r.name = r.ino := by
  induction rows with
  | nil => cases h
  | cons x l ih =>
    simp only [List.map_cons, List.nodup_cons] at hn
    unfold findIno
    rcases List.mem_cons.1 h with rfl | h
    · rw [List.find?_cons_of_pos (by simp)]; rfl
    · have hne : ¬ (x.dir = r.dir ∧ x.name = r.name) := fun e => hn.1 (by rw [e.1, e.2]; exact List.mem_map_of_mem (f := fun r : Row => (r.dir, r.name)) h)
      rw [List.find?_cons_of_neg (by simpa using hne)]
      exact ih hn.2 h
theorem findIno_bd {d : Int} {s : ByteArray} (hok : ∀ r ∈ rows, r.Ok) : 0 ≤ findIno rows d s ∧ findIno rows d s ≤ 256 := by
  by_cases h : findIno rows d s = 0
  · omega
  · obtain ⟨r, hr, _, _, e⟩ := findIno_ne hok h
    have := (hok r hr).2.1
    omega
theorem findIno_long {d : Int} {s : ByteArray} (hok : ∀ r ∈ rows, r.Ok) (h : 28 < s.size) : findIno rows d s = 0 := by
  by_cases h0 : findIno rows d s = 0
  · exact h0
  · obtain ⟨r, hr, _, e, _⟩ := findIno_ne hok h0
    have := (hok r hr).size
    rw [e] at this; omega
theorem findIno_bad {d : Int} {s : ByteArray} (hok : ∀ r ∈ rows, r.Ok) (h : goodName s = false) : findIno rows d s = 0 := by
  by_cases h0 : findIno rows d s = 0
  · exact h0
  · obtain ⟨r, hr, _, e, _⟩ := findIno_ne hok h0
    have := (hok r hr).2.2
    rw [e, h] at this; cases this
theorem cntDir_le (rows : List Row) (d : Int) : cntDir rows d ≤ rows.length := List.length_filter_le _ _
theorem cntIno_le (rows : List Row) (d : Int) : cntIno rows d ≤ rows.length := List.length_filter_le _ _

/-- the cells that a walk reads -/
theorem IndexAt.cells (h : IndexAt w b rows) : w.cell? ⟨b + 3, 0, none⟩ = some (.map (some b)) ∧ w.cell? ⟨b + 3, 1, none⟩ = some (.map (some (b + 1))) ∧ w.cell? ⟨b + 3, 2, none⟩ = some (.map (some (b + 2))) :=
  ⟨h.blk.cell 0, h.blk.cell 1, h.blk.cell 2⟩
end
end Go.Proofs.YtabebkffcmajkaaGreatDoor

/-! Walks: New. -/
namespace Go.Proofs.YtabebkffcmajkaaGreatDoor
open Go.RowKit Go.Maps

set_option maxRecDepth 100000 in
set_option maxHeartbeats 400000 in
theorem new_any (w : World) : Calls Tryz.prog 53 #[] w fun e w' => e = .returned (.pointer (some ⟨w.heap.size + 3, 0, none⟩)) ∧ IndexAt w' w.heap.size [] ∧ Mod None_ w w' ∧ w'.heap.size = w.heap.size + 4 := by
  have hmm := @run_makeMap Tryz.prog
  go_enter Tryz.func53, Tryz.ntmps53
  go_wp2
  go_ret
  refine ⟨rfl, ⟨?_, ?_, ?_, ?_, by simp⟩, (((((Mod.refl _ w).alloc _).alloc _).alloc _).alloc _), by simp⟩
  · have := Blk.new (((w.alloc (.map #[] 0)).alloc (.map #[] 0)).alloc (.map #[] 0)) 130 #[.map (some w.heap.size), .map (some (w.heap.size + 1)), .map (some (w.heap.size + 1 + 1))]
    simp only [alloc_size] at this
    exact this
  · exact (((MapIs.made w).alloc _).alloc _).alloc _
  · have := (((Counts.made (w.alloc (.map #[] 0))).mod ((Mod.refl None_ _).alloc (.map #[] 0)) id).mod ((Mod.refl None_ _).alloc (.cells #[.map (some w.heap.size), .map (some (w.heap.size + 1)), .map (some (w.heap.size + 1 + 1))] 130)) id)
    rw [alloc_size] at this
    exact this
  · have := ((Counts.made ((w.alloc (.map #[] 0)).alloc (.map #[] 0))).mod ((Mod.refl None_ _).alloc (.cells #[.map (some w.heap.size), .map (some (w.heap.size + 1)), .map (some (w.heap.size + 1 + 1))] 130)) id)
    rw [alloc_size, alloc_size] at this
    exact this

end Go.Proofs.YtabebkffcmajkaaGreatDoor

/-! Walks: out. -/
namespace Go.Proofs.YtabebkffcmajkaaGreatDoor
open Go.RowKit Go.Maps

theorem perm_cnt_dir {rows rows' : List Row} {r : Row} (hp : rows.Perm (r :: rows')) (d : Int) : cntDir rows' d = upd (cntDir rows) r.dir (cntDir rows r.dir - 1) d := by
  have h : ∀ d, cntDir rows d = cntDir (r :: rows') d := fun d => (hp.filter _).length_eq
  unfold upd
  split
  · rename_i e; subst e
    rw [h]; simp [cntDir]
  · rename_i e
    rw [h]; simp [cntDir, Ne.symm e]
theorem perm_cnt_ino {rows rows' : List Row} {r : Row} (hp : rows.Perm (r :: rows')) (d : Int) : cntIno rows' d = upd (cntIno rows) r.ino (cntIno rows r.ino - 1) d := by
  have h : ∀ d, cntIno rows d = cntIno (r :: rows') d := fun d => (hp.filter _).length_eq
  unfold upd
  split
  · rename_i e; subst e
    rw [h]; simp [cntIno]
  · rename_i e
    rw [h]; simp [cntIno, Ne.symm e]
theorem cntDir_pos {rows : List Row} {r : Row} (h : r ∈ rows) : cntDir rows r.dir ≠ 0 := by
  unfold cntDir
  intro h0
  have := List.eq_nil_of_length_eq_zero h0
  have hm : r ∈ rows.filter (fun x => decide (x.dir = r.dir)) := List.mem_filter.2 ⟨h, by simp⟩
  rw [this] at hm; cases hm
theorem cntIno_pos {rows : List Row} {r : Row} (h : r ∈ rows) : cntIno rows r.ino ≠ 0 := by
  unfold cntIno
  intro h0
  have := List.eq_nil_of_length_eq_zero h0
  have hm : r ∈ rows.filter (fun x => decide (x.ino = r.ino)) := List.mem_filter.2 ⟨h, by simp⟩
  rw [this] at hm; cases hm

/-- the index's counts -/
def Ct (b : Nat) : Nat → Prop := fun k => k = b + 1 ∨ k = b + 2

set_option maxRecDepth 100000 in
set_option maxHeartbeats 1000000 in
theorem out_any (w : World) (b : Nat) (rows rows' : List Row) (r : Row) (hp : rows.Perm (r :: rows')) (hlen : rows.length < 4611686018427387904) (h : IndexAt w b rows) :
    Calls Tryz.prog 123 #[.pointer (some ⟨b + 3, 0, none⟩), keyV r.dir r.name] w fun e w' => e = .returned (.tuple #[]) ∧ Mod (Ix b) w w' ∧ IndexAt w' b rows' ∧
      ∀ ri left, Ranging Tryz.prog 133 w ri b (rows.map Row.kv) left → r.kv ∉ left → (ri < b ∨ b + 4 ≤ ri) → Ranging Tryz.prog 133 w' ri b (rows'.map Row.kv) left := by
  have hr : r ∈ rows := hp.mem_iff.2 (by simp)
  have hok := h.ok r hr
  have hk := keyA_size r.dir r.name hok.size
  have HK := hide hk
  have hwd := hok.wf
  have hwi : (Lit.int .i64 r.ino).wf = true := wf_i64 (by have := hok.2.1; omega) (by have := hok.2.1; omega)
  have hk0 : (keyA r.dir r.name)[0]? = some (.int .i64 r.dir) := by simp [keyA, keyCells]
  have hbox : (Instr.box 133 (keyV r.dir r.name)).run Tryz.prog w = .ok (.pointer (some ⟨w.heap.size, 0, none⟩)) (w.alloc (.cells (keyA r.dir r.name) 133)) := rfl
  have HR := hide hr
  have HP := hide hp
  have hbl := h.lt
  have HI := hide h
  have HO := hide hok
  have hn0 := cntDir_pos hr
  have hn1 := Nat.lt_of_le_of_lt (cntDir_le rows r.dir) hlen
  have hi0 := cntIno_pos hr
  have hi1 := Nat.lt_of_le_of_lt (cntIno_le rows r.ino) hlen
  clear hk h hr hp hok
  go_enter Tryz.func123, Tryz.ntmps123
  go_wp2_with (first
    | ((with_reducible refine at_slot 3 ?_); refine wpList_val rfl (ex_box rfl hbox) ?_; go_frame))
  clear hbox
  -- the first region
  have hI2 : IndexAt (w.alloc (.cells (keyA r.dir r.name) 133)).drew b rows := (HI.out.alloc _).drew
  have hB2 : Blk (w.alloc (.cells (keyA r.dir r.name) 133)).drew w.heap.size 133 (keyA r.dir r.name) := (Blk.new w 133 _).drew
  have hM2 : Mod None_ w (w.alloc (.cells (keyA r.dir r.name) 133)).drew := ((Mod.refl _ w).alloc _).drew
  refine region_tail 6 (by kernel_rfl) (by kernel_rfl) ?_
  rintro w2 hw2
  rw [← hw2] at hI2 hB2 hM2
  clear hw2
  simp only [List.take_succ_cons, List.take_zero, List.drop_succ_cons, List.drop_zero]
  obtain ⟨c0, c1, c2⟩ := hI2.cells
  have ck := (hB2.cell 0).trans hk0
  repeat still_step
  refine wpStill_nil ?_
  go_wp2_with (go_at_call 77; refine (count_down w2 (b + 1) (cntDir rows) r.dir hwd hI2.names hn0 hn1).mono ?_; rintro e w3 ⟨rfl, hm3, hs3, hcn⟩)
  have hblk3 := hI2.blk.mod hm3 (by omega)
  have hB3 := hB2.mod hm3 (by omega)
  have hino3 := hI2.inos.mod hm3 (by omega)
  have hlnk3 := hI2.links.mod hm3 (by omega)
  have hM3 : Mod (Ct b) w w3 := hM2.none.trans' hm3 (fun k _ e => by unfold Ct; omega)
  have HS3 := hide hs3
  clear hI2 hB2 hM2 hs3 c0 c1 c2 ck hm3
  refine region_tail 10 (by kernel_rfl) (by kernel_rfl) ?_
  rintro w4 hw4
  have hblk4 := hblk3.drew
  have hB4 := hB3.drew
  have hino4 := hino3.drew
  have hlnk4 : Counts w3.drew (b + 2) (cntIno rows) := hlnk3.of_block rfl
  have hnam4 : Counts w3.drew (b + 1) _ := hcn.of_block rfl
  have hM4 := hM3.drew
  rw [← hw4] at hblk4 hB4 hino4 hlnk4 hnam4 hM4
  clear hw4 hblk3 hB3 hino3 hlnk3 hM3 hcn
  simp only [List.take_succ_cons, List.take_zero, List.drop_succ_cons, List.drop_zero]
  have c0 : w4.cell? ⟨b + 3, 0, none⟩ = some (.map (some b)) := hblk4.cell 0
  have c2 : w4.cell? ⟨b + 3, 2, none⟩ = some (.map (some (b + 2))) := hblk4.cell 2
  repeat still_step
  refine still_val rfl (ex_load rfl (run_loadRow hB4 Tryz.underlying133 rfl (size55' HK.out))) ?_
  go_frame
  refine still_val rfl (ex_lookup rfl (look_of hino4 r.dir r.name hwd HO.out.size)) ?_
  go_frame
  refine wpStill_nil ?_
  have hfi : findIno rows r.dir r.name = r.ino := findIno_mem HI.out.nodup HR.out
  rw [hfi]
  clear hfi
  go_wp2_with (go_at_call 77; refine (count_down w4 (b + 2) (cntIno rows) r.ino hwi hlnk4 hi0 hi1).mono ?_; rintro e w5 ⟨rfl, hm5, hs5, hcl⟩)
  have hblk5 := hblk4.mod hm5 (by omega)
  have hB5 := hB4.mod hm5 (by omega)
  have hino5 := hino4.mod hm5 (by omega)
  have hnam5 := hnam4.mod hm5 (by omega)
  have hM5 : Mod (Ct b) w w5 := hM4.trans' hm5 (fun k _ e => by unfold Ct; omega)
  clear hblk4 hB4 hino4 hnam4 hlnk4 hM4 c0 c2 hs5 hm5
  refine region_tail 5 (by kernel_rfl) (by kernel_rfl) ?_
  rintro w6 hw6
  have hblk6 := hblk5.drew
  have hB6 := hB5.drew
  have hino6 := hino5.drew
  have hlnk6 : Counts w5.drew (b + 2) _ := hcl.of_block rfl
  have hnam6 : Counts w5.drew (b + 1) _ := hnam5.of_block rfl
  have hM6 := hM5.drew
  rw [← hw6] at hblk6 hB6 hino6 hlnk6 hnam6 hM6
  clear hw6 hblk5 hB5 hino5 hnam5 hM5 hcl
  simp only [List.take_succ_cons, List.take_zero, List.drop_succ_cons, List.drop_zero]
  have c0 : w6.cell? ⟨b + 3, 0, none⟩ = some (.map (some b)) := hblk6.cell 0
  repeat still_step
  refine still_val rfl (ex_load rfl (run_loadRow hB6 Tryz.underlying133 rfl (size55' HK.out))) ?_
  go_frame
  refine wpStill_nil ?_
  have hpk : (rows.map Row.kv).Perm ((keyV r.dir r.name, .int .i64 r.ino) :: rows'.map Row.kv) := HP.out.map Row.kv
  obtain ⟨o, hdel, hm7⟩ := hino6.drop keyKeyed (ts := #[127, 133]) rfl Tryz.underlying127 hpk
  have hI7 : IndexAt (putBlk w6 b o) b rows' :=
    ⟨hblk6.of_block (putBlk_other _ _ _ _ (by omega)), hm7, (hnam6.of_block (putBlk_other _ _ _ _ (by omega))).congr (fun d => (perm_cnt_dir HP.out d).symm),
      (hlnk6.of_block (putBlk_other _ _ _ _ (by omega))).congr (fun d => (perm_cnt_ino HP.out d).symm), fun x hx => HI.out.ok x (HP.out.mem_iff.2 (List.mem_cons_of_mem _ hx))⟩
  have hM7 : Mod (Ix b) w (putBlk w6 b o) := (hM6.mono (fun k _ e => by unfold Ct at e; unfold Ix; omega)).putBlk (.inr ⟨by omega, by omega⟩) o
  have hRg : ∀ ri left, Ranging Tryz.prog 133 w ri b (rows.map Row.kv) left → r.kv ∉ left → (ri < b ∨ b + 4 ≤ ri) → Ranging Tryz.prog 133 (putBlk w6 b o) ri b (rows'.map Row.kv) left := by
    intro ri left hg hnl hri
    have hg6 := hg.mod hM6 (by unfold Ct; omega) (by unfold Ct; omega)
    obtain ⟨o', hdel', hg'⟩ := hg6.drop keyKeyed (ts := #[127, 133]) rfl Tryz.underlying127 hpk hnl
    have e := (hdel 0).symm.trans (hdel' 0)
    injection e with _ e
    rw [e]; exact hg'
  have HD := hide hI7
  have HRg := hide hRg
  clear hI7 hRg hm7 hpk
  generalize putBlk w6 b o = w7 at hdel hM7 HD HRg
  refine wpList_val rfl (ex_delete rfl (hdel _)) ?_
  go_frame
  go_wp2
  go_end0
  exact ⟨rfl, hM7, HD.out, HRg.out⟩
end Go.Proofs.YtabebkffcmajkaaGreatDoor

/-! Walks: Put. -/
namespace Go.Proofs.YtabebkffcmajkaaGreatDoor
open Go.RowKit Go.Maps

/-- Put's answer, and the rows behind it -/
def putErr (rows : List Row) (d : Int) (s : ByteArray) (i : Int) : Int :=
  if isInodeB d = false ∨ isInodeB i = false then 83 else if goodName s = false then 80 else if findIno rows d s ≠ 0 then 81 else 0
def putRows (rows : List Row) (d : Int) (s : ByteArray) (i : Int) : List Row := if putErr rows d s i = 0 then ⟨d, s, i⟩ :: rows else rows

def PutPost (w : World) (b : Nat) (rows : List Row) (d : Int) (s : ByteArray) (i : Int) : Ending → World → Prop :=
  fun e w' => e = .returned (.int .i64 (putErr rows d s i)) ∧ Mod (Ix b) w w' ∧ IndexAt w' b (putRows rows d s i)
theorem PutPost.of_err {w w' : World} {b : Nat} {rows : List Row} {d : Int} {s : ByteArray} {i n : Int} (he : putErr rows d s i = n) (hn : n ≠ 0) (hm : Mod None_ w w') (h : IndexAt w b rows) :
    PutPost w b rows d s i (.returned (.int .i64 n)) w' := by
  refine ⟨by rw [he], hm.none, ?_⟩
  unfold putRows
  rw [if_neg (by rw [he]; exact hn)]
  exact h.kept hm

set_option maxRecDepth 100000 in
set_option maxHeartbeats 400000 in
theorem put_inode (w : World) (b : Nat) (rows : List Row) (d : Int) (s : ByteArray) (i : Int) (h : IndexAt w b rows) (hc : isInodeB d = false ∨ isInodeB i = false) :
    Calls Tryz.prog 64 #[.pointer (some ⟨b + 3, 0, none⟩), .int .i64 d, .string s, .int .i64 i] w (PutPost w b rows d s i) := by
  have hf : PutPost w b rows d s i (.returned (.int .i64 83)) w := PutPost.of_err (by unfold putErr; rw [if_pos hc]) (by decide) (Mod.refl _ _) h
  have HF := hide hf
  clear hf h
  cases hd : isInodeB d with
  | false =>
    go_enter Tryz.func64, Tryz.ntmps64
    go_wp2_with (go_at_call 75; refine (isInode_any _ _).mono ?_; rintro e w1 ⟨rfl, rfl⟩)
    go_ret
    exact HF.out
  | true =>
    have hi : isInodeB i = false := hc.resolve_left (by simp [hd])
    clear hc
    go_enter Tryz.func64, Tryz.ntmps64
    go_wp2_with (go_at_call 75; refine (isInode_any _ _).mono ?_; rintro e w1 ⟨rfl, rfl⟩)
    go_ret
    exact HF.out

set_option maxRecDepth 100000 in
set_option maxHeartbeats 400000 in
theorem put_name (w : World) (b : Nat) (rows : List Row) (d : Int) (s : ByteArray) (i : Int) (h : IndexAt w b rows) (hd : isInodeB d = true) (hi : isInodeB i = true) (hs : goodName s = false) :
    Calls Tryz.prog 64 #[.pointer (some ⟨b + 3, 0, none⟩), .int .i64 d, .string s, .int .i64 i] w (PutPost w b rows d s i) := by
  have hf : ∀ w', Mod None_ w w' → PutPost w b rows d s i (.returned (.int .i64 80)) w' := fun w' hm => PutPost.of_err (by unfold putErr; rw [if_neg (by simp [hd, hi]), if_pos hs]) (by decide) hm h
  have HF := hide hf
  clear hf h
  go_enter Tryz.func64, Tryz.ntmps64
  go_wp2_with (first
    | (go_at_call 75; refine (isInode_any _ _).mono ?_; rintro e w1 ⟨rfl, rfl⟩)
    | (go_at_call 71; refine (validName_any _ _).mono ?_; rintro e w1 ⟨rfl, hm1⟩))
  go_ret
  exact HF.out _ hm1

theorem cntDir_cons (rows : List Row) (r : Row) (d : Int) : cntDir (r :: rows) d = upd (cntDir rows) r.dir (cntDir rows r.dir + 1) d := by
  unfold upd cntDir
  rw [List.filter_cons]
  split
  · rename_i e
    have e' : r.dir = d := by simpa using e
    rw [if_pos e'.symm, e']; rfl
  · rename_i e
    have e' : ¬ r.dir = d := by simpa using e
    rw [if_neg (fun h => e' h.symm)]
theorem cntIno_cons (rows : List Row) (r : Row) (d : Int) : cntIno (r :: rows) d = upd (cntIno rows) r.ino (cntIno rows r.ino + 1) d := by
  unfold upd cntIno
  rw [List.filter_cons]
  split
  · rename_i e
    have e' : r.ino = d := by simpa using e
    rw [if_pos e'.symm, e']; rfl
  · rename_i e
    have e' : ¬ r.ino = d := by simpa using e
    rw [if_neg (fun h => e' h.symm)]

set_option maxRecDepth 100000 in
set_option maxHeartbeats 1000000 in
theorem put_rest (w : World) (b : Nat) (rows : List Row) (d : Int) (s : ByteArray) (i : Int) (hlen : rows.length < 4611686018427387900) (h : IndexAt w b rows) (hd : isInodeB d = true) (hi : isInodeB i = true) (hs : goodName s = true) :
    Calls Tryz.prog 64 #[.pointer (some ⟨b + 3, 0, none⟩), .int .i64 d, .string s, .int .i64 i] w (PutPost w b rows d s i) := by
  have hsz := (goodName_size hs).2
  have hd' : 1 ≤ d ∧ d ≤ 256 := by simpa [isInodeB] using hd
  have hi' : 1 ≤ i ∧ i ≤ 256 := by simpa [isInodeB] using hi
  have hwd : (Lit.int .i64 d).wf = true := wf_i64 (by omega) (by omega)
  have hwi : (Lit.int .i64 i).wf = true := wf_i64 (by omega) (by omega)
  have HK := hide (keyA_size d s hsz)
  have HI := hide h
  have hbl := h.lt
  have hl1 := Nat.lt_of_le_of_lt (cntDir_le rows d) hlen
  have hl2 := Nat.lt_of_le_of_lt (cntIno_le rows i) hlen
  clear h hd' hi'
  go_enter Tryz.func64, Tryz.ntmps64
  go_wp2_with (first
    | (go_at_call 75; refine (isInode_any _ _).mono ?_; rintro e w1 ⟨rfl, rfl⟩)
    | (go_at_call 71; refine (validName_any _ _).mono ?_; rintro e w1 ⟨rfl, hm1⟩)
    | (go_at_call 76; refine (keyOf_good _ _ _ hsz).mono ?_; rintro e w2 ⟨rfl, hm2⟩)
    | ((with_reducible refine at_slot 9 ?_); refine wpList_declare rfl rfl 133 9 (.tmp 26) rfl rfl rfl zeroK (keyA d s) zero55 (size55' HK.out) (zeroK_size.trans HK.out.symm) (keyA_one d s) (by simp) rfl ?_; go_frame))
  have hm3 : Mod None_ w (w2.alloc (.cells (keyA d s) 133)).drew := ((hm1.trans hm2).alloc _).drew
  have hI3 : IndexAt (w2.alloc (.cells (keyA d s) 133)).drew b rows := HI.out.kept hm3
  have hB3 : Blk (w2.alloc (.cells (keyA d s) 133)).drew w2.heap.size 133 (keyA d s) := (Blk.new w2 133 _).drew
  have hge : w.heap.size ≤ w2.heap.size := Nat.le_trans hm1.size hm2.size
  generalize w2.heap.size = g at hB3 hge ⊢
  refine region_still (by kernel_rfl) (by kernel_rfl) ?_
  rintro w3 hw3
  rw [← hw3] at hI3 hB3 hm3
  clear hw3 hm1 hm2
  obtain ⟨c0, c1, c2⟩ := hI3.cells
  repeat still_step
  refine still_val rfl (ex_load rfl (run_loadRow hB3 Tryz.underlying133 rfl (size55' HK.out))) ?_
  go_frame
  refine still_val rfl (ex_lookup rfl (hI3.look d s hwd hsz)) ?_
  go_frame
  repeat still_step
  refine wpStill_nil ?_
  cases hfi : (findIno rows d s != 0) with
  | true =>
    have hf : PutPost w b rows d s i (.returned (.int .i64 81)) w3 := PutPost.of_err (by unfold putErr; rw [if_neg (by simp [hd, hi]), if_neg (by simp [hs]), if_pos (by simpa using hfi)]) (by decide) hm3 HI.out
    have HF := hide hf
    clear hf
    go_wp2
    go_ret
    exact HF.out
  | false =>
    have hz : findIno rows d s = 0 := by simpa using hfi
    have he : putErr rows d s i = 0 := by unfold putErr; rw [if_neg (by simp [hd, hi]), if_neg (by simp [hs]), if_neg (by simp [hz])]
    have HE := hide he
    have HN := hide (find_none (findIno_zero HI.out.ok hz))
    clear hz he
    go_wp2
    have hI4 := hI3.drew
    have hB4 := hB3.drew
    have hm4 := hm3.drew
    refine region_tail 6 (by kernel_rfl) (by kernel_rfl) ?_
    rintro w4 hw4
    rw [← hw4] at hI4 hB4 hm4
    clear hw4 hI3 hB3 hm3 c0 c1 c2
    obtain ⟨c0, c1, c2⟩ := hI4.cells
    simp only [List.take_succ_cons, List.take_zero, List.drop_succ_cons, List.drop_zero]
    repeat still_step
    refine still_val rfl (ex_load rfl (run_loadRow hB4 Tryz.underlying133 rfl (size55' HK.out))) ?_
    go_frame
    repeat still_step
    refine wpStill_nil ?_
    obtain ⟨lk, hlk⟩ := keyOf_key d s hwd hsz
    obtain ⟨o, hst, hmp⟩ := hI4.inos.store_new keyKeyed Tryz.underlying127 (v := .int .i64 i) hlk HN.out
    have hblk5 : Blk (putBlk w4 b o) (b + 3) 130 _ := hI4.blk.of_block (putBlk_other _ _ _ _ (by omega))
    have hnam5 : Counts (putBlk w4 b o) (b + 1) (cntDir rows) := hI4.names.of_block (putBlk_other _ _ _ _ (by omega))
    have hlnk5 : Counts (putBlk w4 b o) (b + 2) (cntIno rows) := hI4.links.of_block (putBlk_other _ _ _ _ (by omega))
    have hm5 : Mod (Ix b) w (putBlk w4 b o) := hm4.none.putBlk (.inr ⟨by omega, by omega⟩) o
    generalize putBlk w4 b o = w5 at hst hmp hblk5 hnam5 hlnk5 hm5
    refine wpList_skp rfl (ex_mapUpdate rfl hst) ?_
    go_frame
    clear hI4 hB4 hm4 c0 c1 c2 hst HN hlk
    have c1 : w5.cell? ⟨b + 3, 1, none⟩ = some (.map (some (b + 1))) := hblk5.cell 1
    go_wp2_with fail
    refine (count_up w5 (b + 1) (cntDir rows) d hwd hnam5 (by omega)).mono ?_
    rintro e w6 ⟨rfl, hm6, hs6, hcn⟩
    have hblk6 := hblk5.mod hm6 (by omega)
    have c2 : w6.cell? ⟨b + 3, 2, none⟩ = some (.map (some (b + 2))) := hblk6.cell 2
    have hmp6 := hmp.mod hm6 (by omega)
    have hlnk6 := hlnk5.mod hm6 (by omega)
    have hM6 : Mod (Ix b) w w6 := hm5.trans' hm6 (fun k _ e => by unfold Ix; omega)
    clear hblk5 hmp hlnk5 hnam5 hm5 hm6 hs6 c1
    go_wp2_with fail
    refine (count_up w6 (b + 2) (cntIno rows) i hwi hlnk6 (by omega)).mono ?_
    rintro e w7 ⟨rfl, hm7, hs7, hcl⟩
    have hfin : PutPost w b rows d s i (.returned (.int .i64 0)) w7 := by
      refine ⟨by rw [HE.out], hM6.trans' hm7 (fun k _ e => by unfold Ix; omega), ?_⟩
      unfold putRows
      rw [if_pos HE.out]
      refine ⟨hblk6.mod hm7 (by omega), hmp6.mod hm7 (by omega), (hcn.mod hm7 (by omega)).congr (fun x => (cntDir_cons rows ⟨d, s, i⟩ x).symm), hcl.congr (fun x => (cntIno_cons rows ⟨d, s, i⟩ x).symm), ?_⟩
      intro r hr
      rcases List.mem_cons.1 hr with rfl | hr
      · exact ⟨by simpa [isInodeB] using hd, by simpa [isInodeB] using hi, hs⟩
      · exact HI.out.ok r hr
    have HF := hide hfin
    clear hfin hs7 hcl hcn hmp6 hlnk6 hblk6 c2 hM6 hm7
    go_wp2
    go_ret
    exact HF.out

theorem put_any (w : World) (b : Nat) (rows : List Row) (d : Int) (s : ByteArray) (i : Int) (hlen : rows.length < 4611686018427387900) (h : IndexAt w b rows) :
    Calls Tryz.prog 64 #[.pointer (some ⟨b + 3, 0, none⟩), .int .i64 d, .string s, .int .i64 i] w (PutPost w b rows d s i) := by
  by_cases hc : isInodeB d = false ∨ isInodeB i = false
  · exact put_inode w b rows d s i h hc
  · have hd : isInodeB d = true := by simpa using fun h => hc (.inl h)
    have hi : isInodeB i = true := by simpa using fun h => hc (.inr h)
    cases hs : goodName s with
    | false => exact put_name w b rows d s i h hd hi hs
    | true => exact put_rest w b rows d s i hlen h hd hi hs
end Go.Proofs.YtabebkffcmajkaaGreatDoor

/-! Walks: Drop. -/
namespace Go.Proofs.YtabebkffcmajkaaGreatDoor
open Go.RowKit Go.Maps

def dropRows (rows : List Row) (d : Int) (s : ByteArray) : List Row := rows.filter (fun r => !decide (r.dir = d ∧ r.name = s))
def dropErr (rows : List Row) (d : Int) (s : ByteArray) : Int := if findIno rows d s = 0 then 82 else 0
def DropPost (w : World) (b : Nat) (rows : List Row) (d : Int) (s : ByteArray) : Ending → World → Prop :=
  fun e w' => e = .returned (.tuple #[.int .i64 (findIno rows d s), .int .i64 (dropErr rows d s)]) ∧ Mod (Ix b) w w' ∧ IndexAt w' b (dropRows rows d s)

theorem dropRows_none {rows : List Row} {d : Int} {s : ByteArray} (h : rows.find? (fun r => decide (r.dir = d ∧ r.name = s)) = none) : dropRows rows d s = rows := by
  unfold dropRows
  rw [List.filter_eq_self]
  intro r hr
  have := List.find?_eq_none.1 h r hr
  simp only [Bool.not_eq_true] at this
  rw [this]; rfl
theorem drop_perm {rows : List Row} {r : Row} (hn : (rows.map (fun r => (r.dir, r.name))).Nodup) (h : r ∈ rows) : rows.Perm (r :: dropRows rows r.dir r.name) := by
  induction rows with
  | nil => cases h
  | cons x l ih =>
    simp only [List.map_cons, List.nodup_cons] at hn
    rcases List.mem_cons.1 h with rfl | h
    · have : dropRows (r :: l) r.dir r.name = l := by
        unfold dropRows
        rw [List.filter_cons_of_neg (by simp), List.filter_eq_self]
        intro y hy
        have hne : ¬ (y.dir = r.dir ∧ y.name = r.name) := fun e => hn.1 (by rw [← e.1, ← e.2]; exact List.mem_map_of_mem (f := fun r : Row => (r.dir, r.name)) hy)
        rw [decide_eq_false hne]; rfl
      rw [this]
    · have hne : ¬ (x.dir = r.dir ∧ x.name = r.name) := fun e => hn.1 (by rw [e.1, e.2]; exact List.mem_map_of_mem (f := fun r : Row => (r.dir, r.name)) h)
      have : dropRows (x :: l) r.dir r.name = x :: dropRows l r.dir r.name := by
        unfold dropRows
        rw [List.filter_cons_of_pos (by rw [decide_eq_false hne]; rfl)]
      rw [this]
      exact ((ih hn.2 h).cons x).trans (List.Perm.swap _ _ _)

set_option maxRecDepth 100000 in
set_option maxHeartbeats 1000000 in
theorem drop_any (w : World) (b : Nat) (rows : List Row) (d : Int) (s : ByteArray) (hlen : rows.length < 4611686018427387900) (hwd : (Lit.int .i64 d).wf = true) (h : IndexAt w b rows) :
    Calls Tryz.prog 122 #[.pointer (some ⟨b + 3, 0, none⟩), .int .i64 d, .string s] w (DropPost w b rows d s) := by
  by_cases hsz : s.size ≤ 28
  · have HK := hide (keyA_size d s hsz)
    have HI := hide h
    have hbl := h.lt
    have hfb := findIno_bd (d := d) (s := s) h.ok
    clear h
    go_enter Tryz.func122, Tryz.ntmps122
    go_wp2_with (first
      | (go_at_call 76; refine (keyOf_good _ _ _ hsz).mono ?_; rintro e w2 ⟨rfl, hm2⟩)
      | ((with_reducible refine at_slot 8 ?_); refine wpList_declare rfl rfl 133 8 (.tmp 15) rfl rfl rfl zeroK (keyA d s) zero55 (size55' HK.out) (zeroK_size.trans HK.out.symm) (keyA_one d s) (by simp) rfl ?_; go_frame))
    have hm3 : Mod None_ w (w2.alloc (.cells (keyA d s) 133)).drew := (hm2.alloc _).drew
    have hI3 : IndexAt (w2.alloc (.cells (keyA d s) 133)).drew b rows := HI.out.kept hm3
    have hB3 : Blk (w2.alloc (.cells (keyA d s) 133)).drew w2.heap.size 133 (keyA d s) := (Blk.new w2 133 _).drew
    have hge : w.heap.size ≤ w2.heap.size := hm2.size
    generalize w2.heap.size = g at hB3 hge ⊢
    refine region_still (by kernel_rfl) (by kernel_rfl) ?_
    rintro w3 hw3
    rw [← hw3] at hI3 hB3 hm3
    clear hw3 hm2
    obtain ⟨c0, c1, c2⟩ := hI3.cells
    repeat still_step
    refine still_val rfl (ex_load rfl (run_loadRow hB3 Tryz.underlying133 rfl (size55' HK.out))) ?_
    go_frame
    refine still_val rfl (ex_lookup rfl (hI3.look d s hwd hsz)) ?_
    go_frame
    repeat still_step
    refine wpStill_nil ?_
    cases hfi : (findIno rows d s == 0) with
    | true =>
      have hz : findIno rows d s = 0 := by simpa using hfi
      have hf : DropPost w b rows d s (.returned (.tuple #[.int .i64 0, .int .i64 82])) w3 := by
        refine ⟨by unfold dropErr; rw [hz]; rfl, hm3.none, ?_⟩
        rw [dropRows_none (findIno_zero HI.out.ok hz)]
        exact hI3
      have HF := hide hf
      clear hf hz
      go_wp2
      go_ret2
      exact HF.out
    | false =>
      have hz : findIno rows d s ≠ 0 := by simpa using hfi
      obtain ⟨r, hr, h1, h2, h3⟩ := findIno_ne HI.out.ok hz
      have hp : rows.Perm (r :: dropRows rows d s) := by rw [← h1, ← h2]; exact drop_perm HI.out.nodup hr
      have hrun := out_any w3 b rows (dropRows rows d s) r hp (by omega) hI3
      rw [h1, h2] at hrun
      have HO := hide hrun
      have HZ := hide hz
      have hld := run_loadRow (P := Tryz.prog) hB3 Tryz.underlying133 rfl (size55' HK.out)
      have HL := hide hld
      clear hrun hz hp h1 h2 h3 hr hld
      go_wp2_with ((with_reducible refine at_slot 30 ?_); refine wpList_val rfl (ex_load rfl HL.out) ?_; go_frame)
      refine Calls.mono HO.out ?_
      rintro e w4 ⟨rfl, hm4, hI4, _⟩
      have hf : DropPost w b rows d s (.returned (.tuple #[.int .i64 (findIno rows d s), .int .i64 0])) w4 :=
        ⟨by unfold dropErr; rw [if_neg HZ.out], hm3.none.trans hm4, hI4⟩
      have HF := hide hf
      clear hf hm4 hI4 c0 c1 c2
      go_wp2
      go_ret2
      exact HF.out
  · have hs' : 28 < s.size := by omega
    have hz := findIno_long h.ok (d := d) hs'
    have hf : ∀ w', Mod None_ w w' → DropPost w b rows d s (.returned (.tuple #[.int .i64 0, .int .i64 82])) w' := fun w' hm => by
      refine ⟨by unfold dropErr; rw [hz]; rfl, hm.none, ?_⟩
      rw [dropRows_none (findIno_zero h.ok hz)]
      exact h.kept hm
    have HF := hide hf
    have HI := hide h
    clear h hf hz
    go_enter Tryz.func122, Tryz.ntmps122
    go_wp2_with (first
      | (go_at_call 76; refine (keyOf_bad _ _ _ hs').mono ?_; rintro e w2 ⟨rfl, hm2⟩)
      | ((with_reducible refine at_slot 8 ?_); refine wpList_declare rfl rfl 133 8 (.tmp 15) rfl rfl rfl zeroK zeroK zero55 (size55' zeroK_size) rfl (keyA_one 0 _) (by simp) rfl ?_; go_frame))
    have hm3 : Mod None_ w (w2.alloc (.cells zeroK 133)).drew := (hm2.alloc _).drew
    have hI3 : IndexAt (w2.alloc (.cells zeroK 133)).drew b rows := HI.out.kept hm3
    have hB3 : Blk (w2.alloc (.cells zeroK 133)).drew w2.heap.size 133 zeroK := (Blk.new w2 133 _).drew
    have hge : w.heap.size ≤ w2.heap.size := hm2.size
    generalize w2.heap.size = g at hB3 hge ⊢
    refine region_still (by kernel_rfl) (by kernel_rfl) ?_
    rintro w3 hw3
    rw [← hw3] at hI3 hB3 hm3
    clear hw3 hm2
    obtain ⟨c0, c1, c2⟩ := hI3.cells
    repeat still_step
    refine still_val rfl (ex_load rfl (run_loadRow hB3 Tryz.underlying133 rfl (size55' zeroK_size))) ?_
    go_frame
    refine still_val rfl (ex_lookup rfl (hI3.look 0 ByteArray.empty (by decide) (by decide))) ?_
    go_frame
    repeat still_step
    refine wpStill_nil ?_
    go_wp2
    go_ret2
    exact HF.out _ hm3
end Go.Proofs.YtabebkffcmajkaaGreatDoor
