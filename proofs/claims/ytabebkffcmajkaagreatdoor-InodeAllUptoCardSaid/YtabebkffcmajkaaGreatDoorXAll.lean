/-
  furrowlaw09.InodeAll answers true for every script whose values and letters are 1,048,576 at most: every call over a node that goes on answers as the document's does, and the lists that were answered stay what their holder made of them; the sums' table lies as the program's text lays it.
-/
import Derived.Deep.MidRow
import Derived.Test.YtabebkffcmajkaaGreatDoorCards
import Derived.Test.YtabebkffcmajkaaGreatDoorTie
import Derived.WalkKit
import Derived.ProofKit
import Derived.OpenShut
import Derived.ShutString
import Derived.Deep.DeepHandedRow
import Derived.Lib.LaidTab
import Derived.Test.YtabebkffcmajkaaGreatDoorGB
import Derived.Test.YtabebkffcmajkaaGreatDoorGA
import Derived.Test.YtabebkffcmajkaaGreatDoorG6
import Derived.Test.YtabebkffcmajkaaGreatDoorG2
set_option linter.unusedVariables false
set_option linter.unusedSimpArgs false
/-! Plain: how long a node's lists grow. -/
namespace Go.Proofs.YtabebkffcmajkaaGreatDoor
open Go.RowKit Go.Maps Go.Shelf
attribute [local go_sem] quietV loudUpon Oper.semAt_some

def UptoN (c : Nat) (n : NodeD) : Prop := n.map.length ≤ 2000 ∧ (n.names.length ≤ 2000 + c ∧ n.log.length ≤ 2000)
theorem UptoN.mid {c : Nat} {n : NodeD} (h : UptoN c n) (hc : c ≤ 50000) : MidN n := by
  obtain ⟨h1, h2, h3⟩ := h
  exact ⟨by omega, by omega, by omega⟩
theorem UptoN.up {c c' : Nat} {n : NodeD} (h : UptoN c n) (hc : c ≤ c') : UptoN c' n := ⟨h.1, Nat.le_trans h.2.1 (by omega), h.2.2⟩
theorem upto_small {n : NodeD} (h : smallB n = true) : UptoN 0 n := by
  simp only [smallB, Bool.and_eq_true, decide_eq_true_eq] at h
  exact h
theorem upto_zero : UptoN 0 zeroN := ⟨Nat.zero_le _, Nat.zero_le _, Nat.zero_le _⟩
theorem dMap_len (D : SenseD) : (dMap D).length ≤ 512 := by
  cases D with
  | file z f => exact runs_len f
  | dir R => exact Nat.zero_le _
theorem dNames_len (D : SenseD) : (dNames D).length ≤ lenD D := by
  cases D with
  | file z f => exact Nat.zero_le _
  | dir R => exact names_len R
theorem apply_upto {n : NodeD} (e : EntD) {c : Nat} (h : UptoN c n) : UptoN (c + 1) (applyN n e) := by
  unfold applyN
  by_cases h0 : applyErr n e = 0
  · rw [if_pos h0]
    have h1 := dMap_len (onD e (senseD n))
    have h2 := dNames_len (onD e (senseD n))
    have h3 := lenD_on e (senseD n)
    have h4 := lenD_sense n
    obtain ⟨_, h5, h6⟩ := h
    refine ⟨?_, ?_, h6⟩
    · show (dMap (onD e (senseD n))).length ≤ 2000; omega
    · show (dNames (onD e (senseD n))).length ≤ 2000 + (c + 1); omega
  · rw [if_neg h0]
    exact upto_zero.up (Nat.zero_le _)
theorem play_lenB : ∀ (l : List EntD) (D : SenseD), lenD (playD D l).2 ≤ lenD D + l.length
  | [], D => Nat.le_refl _
  | x :: l, D => by
    unfold playD
    by_cases h : stepErr D x = 0
    · rw [if_pos h]
      have h1 := play_lenB l (onD x D)
      have h2 := lenD_on x D
      rw [List.length_cons]
      omega
    · rw [if_neg h]
      exact Nat.le_add_right _ _
theorem play_wfB : ∀ (l : List EntD) (D : SenseD), WfD D → WfD (playD D l).2
  | [], D, h => h
  | x :: l, D, h => by
    unfold playD
    by_cases h0 : stepErr D x = 0
    · rw [if_pos h0]; exact play_wfB l _ (step_wf h h0)
    · rw [if_neg h0]; exact h
theorem replay_upto (k : Int) (l : List EntD) (hl : l.length ≤ 2000) : UptoN 0 (replayN k l) := by
  unfold replayN
  by_cases h : replayErr k l = 0
  · rw [if_pos h]
    have h1 := dMap_len (playD (zeroD k) l).2
    have h2 := dNames_len (playD (zeroD k) l).2
    have h3 := play_lenB l (zeroD k)
    have h4 : lenD (zeroD k) = 0 := by unfold zeroD; split <;> rfl
    refine ⟨?_, ?_, Nat.zero_le _⟩
    · show (dMap (playD (zeroD k) l).2).length ≤ 2000; omega
    · show (dNames (playD (zeroD k) l).2).length ≤ 2000 + 0; omega
  · rw [if_neg h]
    exact upto_zero
theorem replay_nodeB (k : Int) (l : List EntD) : (∀ r ∈ (replayN k l).map, r.Ok) ∧ I64 (replayN k l).kind ∧ I64 (replayN k l).size := by
  unfold replayN
  by_cases h : replayErr k l = 0
  · rw [if_pos h]
    have hw := play_wfB l _ (wf_zero k)
    exact ⟨node_ok (j := 0) hw, node_i64 (j := 0) hw⟩
  · rw [if_neg h]
    exact ⟨(fun r hm => by cases hm), i64_small (Int.le_refl _) (by show (0 : Int) ≤ 1000000; omega), i64_small (Int.le_refl _) (by show (0 : Int) ≤ 1000000; omega)⟩
theorem NodeIn.nodeA {w : World} {n : NodeD} {e : EntD} {vm vn vl : Value} (h1 : ListAt encRun 3 w vm (nodeA n e).map) (h2 : ListAt encDent 2 w vn (nodeA n e).names) (h3 : ListAt encInt 1 w vl (nodeA n e).log) : NodeIn w (nodeA n e) vm vn vl := by
  have h := apply_facts n e
  rw [apply_node] at h
  exact ⟨h1, h2, h3, h.1, h.2.1, h.2.2⟩
/-- a list that stays where S is written -/
def OffS (S : Nat → Prop) (v : Value) (k : Nat) : Prop := 0 < k → ∀ g, v.ownBlock = some g → ¬ S g
structure NodeOff (S : Nat → Prop) (n : NodeD) (vm vn vl : Value) : Prop where
  map : OffS S vm n.map.length
  names : OffS S vn n.names.length
  log : OffS S vl n.log.length
theorem NodeIn.modO {S : Nat → Prop} {w w' : World} {n : NodeD} {vm vn vl : Value} (h : NodeIn w n vm vn vl) (hm : Mod S w w') (ho : NodeOff S n vm vn vl) : NodeIn w' n vm vn vl :=
  ⟨h.map.modX hm ho.map, h.names.modX hm ho.names, h.log.modX hm ho.log, h.runs, h.kind, h.size⟩
theorem NodeOff.mono {S T : Nat → Prop} {n : NodeD} {vm vn vl : Value} (h : NodeOff S n vm vn vl) (hs : ∀ g, T g → S g) : NodeOff T n vm vn vl :=
  ⟨fun h0 g hg ht => h.map h0 g hg (hs g ht), fun h0 g hg ht => h.names h0 g hg (hs g ht), fun h0 g hg ht => h.log h0 g hg (hs g ht)⟩
theorem listAt_below {α : Type} {enc : α → List Value} {sz : Nat} {w : World} {v : Value} {l : List α} (h : ListAt enc sz w v l) (h0 : 0 < l.length) {g : Nat} (hg : v.ownBlock = some g) : g < w.heap.size := by
  obtain ⟨A, c, rfl, _, _, h4⟩ := h
  obtain ⟨g2, o, rfl, hg2, _⟩ := h4 h0
  have e2 : some g2 = some g := hg
  cases e2
  exact hg2
/-- what is written later than all lists were there leaves them -/
theorem NodeIn.off_new {S : Nat → Prop} {w : World} {n : NodeD} {vm vn vl : Value} (h : NodeIn w n vm vn vl) (hs : ∀ g, S g → w.heap.size ≤ g) : NodeOff S n vm vn vl :=
  ⟨fun h0 g hg hS => by have := listAt_below h.map h0 hg; have := hs g hS; omega, fun h0 g hg hS => by have := listAt_below h.names h0 hg; have := hs g hS; omega, fun h0 g hg hS => by have := listAt_below h.log h0 hg; have := hs g hS; omega⟩
theorem NodeOff.or {S T : Nat → Prop} {n : NodeD} {vm vn vl : Value} (h : NodeOff S n vm vn vl) (h' : NodeOff T n vm vn vl) : NodeOff (fun g => S g ∨ T g) n vm vn vl :=
  ⟨fun h0 g hg hS => hS.elim (h.map h0 g hg) (h'.map h0 g hg), fun h0 g hg hS => hS.elim (h.names h0 g hg) (h'.names h0 g hg), fun h0 g hg hS => hS.elim (h.log h0 g hg) (h'.log h0 g hg)⟩
theorem Fresh.off {α : Type} {enc : α → List Value} {sz : Nat} {w wa wb : World} {S : Nat → Prop} {v0 v : Value} {l l0 : List α} (h : Fresh w v0 v l.length) (hl0 : ListAt enc sz wa v0 l0) (hl : ListAt enc sz wb v l) (h0 : OffS S v0 l0.length) (hs : ∀ g, S g → g < w.heap.size) : OffS S v l.length := fun hk g hg hS => by
  rcases h hk with h1 | h1
  · subst h1
    have he : l0.length = l.length := by
      obtain ⟨A, c, e, _⟩ := hl0
      obtain ⟨A', c', e', _⟩ := hl
      rw [e] at e'
      simp only [Value.slice.injEq] at e'
      exact e'.2.1
    exact h0 (by omega) g hg hS
  · have := h1 g hg; have := hs g hS; omega
theorem fresh_off {w wa wb : World} {S : Nat → Prop} {n N : NodeD} {vm vn vl bm bn bl : Value} (hF1 : Fresh w vm bm N.map.length) (hF2 : Fresh w vn bn N.names.length) (hF3 : Fresh w vl bl N.log.length) (h0 : NodeIn wa n vm vn vl) (h : NodeIn wb N bm bn bl) (hO : NodeOff S n vm vn vl) (hs : ∀ g, S g → g < w.heap.size) : NodeOff S N bm bn bl :=
  ⟨hF1.off h0.map h.map hO.map hs, hF2.off h0.names h.names hO.names hs, hF3.off h0.log h.log hO.log hs⟩
theorem NodeOwn.in_of {b : Nat} {w : World} {n : NodeD} {vm vn vl : Value} (h : NodeOwn b w n vm vn vl) (h1 : ∀ r ∈ n.map, r.Ok) (h2 : I64 n.kind) (h3 : I64 n.size) : NodeIn w n vm vn vl :=
  ⟨list_of_ownRow (enc := encRun) (fun _ => rfl) h.map, list_of_ownRow (enc := encDent) (fun _ => rfl) h.names, list_of_ownRow (enc := encInt) (fun _ => rfl) h.log, h1, h2, h3⟩
theorem NodeOwn.in_A {b : Nat} {w : World} {n : NodeD} {e : EntD} {vm vn vl : Value} (h : NodeOwn b w (nodeA n e) vm vn vl) : NodeIn w (nodeA n e) vm vn vl := by
  have hf := apply_facts n e
  rw [apply_node] at hf
  exact h.in_of hf.1 hf.2.1 hf.2.2
theorem NodeOwn.ls_ge {b : Nat} {w : World} {n : NodeD} {vm vn vl : Value} (h : NodeOwn b w n vm vn vl) {g : Nat} (hg : NodeLS vm vn vl g) : b ≤ g ∧ g < w.heap.size := by
  rcases hg with h1 | h1 | h1
  · obtain ⟨h2, _, h3⟩ := own_blk h.map h1; exact ⟨h2, (Array.getElem?_eq_some_iff.1 h3).1⟩
  · obtain ⟨h2, _, h3⟩ := own_blk h.names h1; exact ⟨h2, (Array.getElem?_eq_some_iff.1 h3).1⟩
  · obtain ⟨h2, _, h3⟩ := own_blk h.log h1; exact ⟨h2, (Array.getElem?_eq_some_iff.1 h3).1⟩
theorem NodeOwn.ls_ne {b : Nat} {w : World} {n : NodeD} {vm vn vl : Value} (h : NodeOwn b w n vm vn vl) {q : Nat} {t : TypeId} {cs : Array Value} (hq : Blk w q t cs) (h1 : t ≠ 73) (h2 : t ≠ 75) (h3 : t ≠ 3) : ¬ NodeLS vm vn vl q := fun hg => by
  rcases hg with h4 | h4 | h4
  · exact own_ne h.map hq h1 h4 rfl
  · exact own_ne h.names hq h2 h4 rfl
  · exact own_ne h.log hq h3 h4 rfl
section
variable {w w' : World} {Q b kR kN kE : Nat} {v0 v1 v2 v3 v4 v5 v6 v7 : Value}
theorem bko_blk (h : BookAt w Q b v0 v1 v2 v3 v4 v5 v6 v7 kR kN kE) {g : Nat} (hg : BkO Q v0 v1 v2 v3 v4 v5 v6 v7 g) : ∃ cur t, w.heap[g]? = some (.cells cur t (0, 0)) ∧ (t = 29 ∨ t = 30 ∨ t = 31 ∨ t = 32 ∨ t = 37) := by
  obtain ⟨hQ, ⟨_, _, hR, _⟩, ⟨_, _, hD, _⟩, ⟨_, _, hN, _⟩, ⟨_, _, hE, _⟩⟩ := h
  rcases hg with h | h | h | h | h | h | h | h | h
  · subst h; exact ⟨_, _, hQ, .inl rfl⟩
  · obtain ⟨_, c, hh⟩ := own_blk hR.ra h; exact ⟨c, _, hh, .inr (.inl rfl)⟩
  · obtain ⟨_, c, hh⟩ := own_blk hR.rb h; exact ⟨c, _, hh, .inr (.inl rfl)⟩
  · obtain ⟨_, c, hh⟩ := own_blk hD.ra h; exact ⟨c, _, hh, .inr (.inr (.inl rfl))⟩
  · obtain ⟨_, c, hh⟩ := own_blk hD.rb h; exact ⟨c, _, hh, .inr (.inr (.inl rfl))⟩
  · obtain ⟨_, c, hh⟩ := own_blk hN.ra h; exact ⟨c, _, hh, .inr (.inr (.inr (.inl rfl)))⟩
  · obtain ⟨_, c, hh⟩ := own_blk hN.rb h; exact ⟨c, _, hh, .inr (.inr (.inr (.inl rfl)))⟩
  · obtain ⟨_, c, hh⟩ := own_blk hE.ra h; exact ⟨c, _, hh, .inr (.inr (.inr (.inr rfl)))⟩
  · obtain ⟨_, c, hh⟩ := own_blk hE.rb h; exact ⟨c, _, hh, .inr (.inr (.inr (.inr rfl)))⟩
theorem bko_lt (h : BookAt w Q b v0 v1 v2 v3 v4 v5 v6 v7 kR kN kE) {g : Nat} (hg : BkO Q v0 v1 v2 v3 v4 v5 v6 v7 g) : g < w.heap.size := by
  obtain ⟨_, _, hh, _⟩ := bko_blk h hg
  exact (Array.getElem?_eq_some_iff.1 hh).1
theorem bko_ne (h : BookAt w Q b v0 v1 v2 v3 v4 v5 v6 v7 kR kN kE) {q : Nat} {t : TypeId} {cs : Array Value} (hq : Blk w q t cs) (h1 : t ≠ 29) (h2 : t ≠ 30) (h3 : t ≠ 31) (h4 : t ≠ 32) (h5 : t ≠ 37) : ¬ BkO Q v0 v1 v2 v3 v4 v5 v6 v7 q := fun hg => by
  obtain ⟨c, t2, hh, ht⟩ := bko_blk h hg
  have he : t = t2 := by have h6 := hq; unfold Blk at h6; rw [hh] at h6; cases h6; rfl
  subst he
  rcases ht with h | h | h | h | h
  · exact h1 h
  · exact h2 h
  · exact h3 h
  · exact h4 h
  · exact h5 h
theorem BookAt.kept (h : BookAt w Q b v0 v1 v2 v3 v4 v5 v6 v7 kR kN kE) (hm : Mod None_ w w') : BookAt w' Q b v0 v1 v2 v3 v4 v5 v6 v7 kR kN kE := by
  obtain ⟨hQ, ⟨AR, MR, hR, e1⟩, ⟨AD, MD, hD, e2⟩, ⟨AN, MN, hN, e3⟩, ⟨AE, ME, hE, e4⟩⟩ := h
  exact ⟨hQ.mod hm id, ⟨AR, MR, hR.kept hm, e1⟩, ⟨AD, MD, hD.kept hm, e2⟩, ⟨AN, MN, hN.kept hm, e3⟩, ⟨AE, ME, hE.kept hm, e4⟩⟩
theorem BookAt.node (h : BookAt w Q b v0 v1 v2 v3 v4 v5 v6 v7 kR kN kE) {q : Nat} {cs : Array Value} (hq : Blk w q 34 cs) (hm : Mod (· = q) w w') : BookAt w' Q b v0 v1 v2 v3 v4 v5 v6 v7 kR kN kE := by
  have hN0 : ∀ t, 34 ≠ t → ∀ g, g = q → NotT w g t := fun t ht g hg => by subst hg; exact NotT.of hq ht
  have hqq : ¬ Q = q := fun e => bko_ne h hq (by decide) (by decide) (by decide) (by decide) (by decide) (.inl e.symm)
  obtain ⟨hQ, ⟨AR, MR, hR, e1⟩, ⟨AD, MD, hD, e2⟩, ⟨AN, MN, hN, e3⟩, ⟨AE, ME, hE, e4⟩⟩ := h
  exact ⟨hQ.mod hm hqq, ⟨AR, MR, hR.mod hm fun g hg => ⟨hN0 _ (by decide) g hg, .inr (hN0 _ (by decide) g hg)⟩, e1⟩, ⟨AD, MD, hD.mod hm fun g hg => ⟨hN0 _ (by decide) g hg, .inr (hN0 _ (by decide) g hg)⟩, e2⟩, ⟨AN, MN, hN.mod hm fun g hg => ⟨hN0 _ (by decide) g hg, .inr (hN0 _ (by decide) g hg)⟩, e3⟩, ⟨AE, ME, hE.mod hm fun g hg => ⟨hN0 _ (by decide) g hg, .inr (hN0 _ (by decide) g hg)⟩, e4⟩⟩
theorem BookAt.here (h : BookAt w Q b v0 v1 v2 v3 v4 v5 v6 v7 kR kN kE) : BookAt w Q w.heap.size v0 v1 v2 v3 v4 v5 v6 v7 kR kN kE := by
  obtain ⟨hQ, ⟨AR, MR, hR, e1⟩, ⟨AD, MD, hD, e2⟩, ⟨AN, MN, hN, e3⟩, ⟨AE, ME, hE, e4⟩⟩ := h
  exact ⟨hQ, ⟨AR, MR, hR.here, e1⟩, ⟨AD, MD, hD.here, e2⟩, ⟨AN, MN, hN.here, e3⟩, ⟨AE, ME, hE.here, e4⟩⟩
end
/-- the state of a play: the book, and the node that goes on -/
def PlayAt (Z X : Nat → Prop) (w : World) (Q : Nat) (n : NodeD) (vm vn vl : Value) (kR kN kE c : Nat) : Prop := ∃ v0 v1 v2 v3 v4 v5 v6 v7, BookAt w Q w.heap.size v0 v1 v2 v3 v4 v5 v6 v7 kR kN kE ∧ (∀ g, BkO Q v0 v1 v2 v3 v4 v5 v6 v7 g → Z g) ∧ NodeIn w n vm vn vl ∧
  NodeOff (fun g => X g ∨ BkO Q v0 v1 v2 v3 v4 v5 v6 v7 g) n vm vn vl ∧ UptoN c n
section
variable {Z X : Nat → Prop} {w w' : World} {Q : Nat} {n : NodeD} {vm vn vl : Value} {kR kN kE c : Nat}
theorem PlayAt.in_ (h : PlayAt Z X w Q n vm vn vl kR kN kE c) : NodeIn w n vm vn vl := by obtain ⟨_, _, _, _, _, _, _, _, _, _, h, _⟩ := h; exact h
theorem PlayAt.upto (h : PlayAt Z X w Q n vm vn vl kR kN kE c) : UptoN c n := by obtain ⟨_, _, _, _, _, _, _, _, _, _, _, _, h⟩ := h; exact h
theorem PlayAt.kept (h : PlayAt Z X w Q n vm vn vl kR kN kE c) (hm : Mod None_ w w') : PlayAt Z X w' Q n vm vn vl kR kN kE c := by
  obtain ⟨v0, v1, v2, v3, v4, v5, v6, v7, hB, hlo, hN, hO, hU⟩ := h
  exact ⟨v0, v1, v2, v3, v4, v5, v6, v7, (hB.kept hm).here, hlo, hN.kept hm, hO, hU⟩
theorem PlayAt.node (h : PlayAt Z X w Q n vm vn vl kR kN kE c) {q : Nat} {cs : Array Value} (hq : Blk w q 34 cs) (hX : X q) (hm : Mod (· = q) w w') : PlayAt Z X w' Q n vm vn vl kR kN kE c := by
  obtain ⟨v0, v1, v2, v3, v4, v5, v6, v7, hB, hlo, hN, hO, hU⟩ := h
  exact ⟨v0, v1, v2, v3, v4, v5, v6, v7, (hB.node hq hm).here, hlo, hN.modO hm (hO.mono fun g hg => .inl (by subst hg; exact hX)), hO, hU⟩
theorem PlayAt.weak (h : PlayAt Z X w Q n vm vn vl kR kN kE c) {Y : Nat → Prop} (hY : ∀ g, Y g → X g) {c' : Nat} (hc : c ≤ c') : PlayAt Z Y w Q n vm vn vl kR kN kE c' := by
  obtain ⟨v0, v1, v2, v3, v4, v5, v6, v7, hB, hlo, hN, hO, hU⟩ := h
  exact ⟨v0, v1, v2, v3, v4, v5, v6, v7, hB, hlo, hN, hO.mono fun g hg => hg.imp (hY g) id, hU.up hc⟩
theorem PlayAt.more2 {X0 : Nat → Prop} (h : PlayAt Z X0 w Q n vm vn vl kR kN kE c) (hX : ∀ g, X g → X0 g ∨ w.heap.size ≤ g) (hm : Mod None_ w w') : PlayAt Z X w' Q n vm vn vl kR kN kE c := by
  obtain ⟨v0, v1, v2, v3, v4, v5, v6, v7, hB, hlo, hN, hO, hU⟩ := h
  refine ⟨v0, v1, v2, v3, v4, v5, v6, v7, (hB.kept hm).here, hlo, hN.kept hm, ?_, hU⟩
  have h1 : NodeOff (fun g => w.heap.size ≤ g ∨ (X0 g ∨ BkO Q v0 v1 v2 v3 v4 v5 v6 v7 g)) n vm vn vl := (hN.off_new fun g h => h).or hO
  exact h1.mono fun g hg => hg.elim (fun h => (hX g h).elim (fun h => .inr (.inl h)) .inl) fun h => .inr (.inr h)
/-- new blocks are added to what the node's lists are not -/
theorem PlayAt.more (h : PlayAt Z None_ w Q n vm vn vl kR kN kE c) (hX : ∀ g, X g → w.heap.size ≤ g) (hm : Mod None_ w w') : PlayAt Z X w' Q n vm vn vl kR kN kE c := by
  obtain ⟨v0, v1, v2, v3, v4, v5, v6, v7, hB, hlo, hN, hO, hU⟩ := h
  exact ⟨v0, v1, v2, v3, v4, v5, v6, v7, (hB.kept hm).here, hlo, hN.kept hm, (hN.off_new hX).or (hO.mono fun g hg => .inr hg), hU⟩
variable {b kR' kN' kE' : Nat} {v0 v1 v2 v3 v4 v5 v6 v7 : Value} {LS : Nat → Prop} {e : Ending}
theorem play_next (hB : BookAt w Q b v0 v1 v2 v3 v4 v5 v6 v7 kR kN kE) (hlo : ∀ g, BkO Q v0 v1 v2 v3 v4 v5 v6 v7 g → Z g) (hN : NodeIn w n vm vn vl) (hO : NodeOff (fun g => X g ∨ BkO Q v0 v1 v2 v3 v4 v5 v6 v7 g) n vm vn vl) (hL : NodeOff LS n vm vn vl) (hU : UptoN c n) (hZ : ∀ g, w.heap.size ≤ g → Z g)
    (hp : ∃ u0 u1 u2 u3 u4 u5 u6 u7, BookAt w' Q w'.heap.size u0 u1 u2 u3 u4 u5 u6 u7 kR' kN' kE' ∧ Mod (fun g => LS g ∨ BkO Q v0 v1 v2 v3 v4 v5 v6 v7 g) w w' ∧ ∀ g, BkO Q u0 u1 u2 u3 u4 u5 u6 u7 g → BkO Q v0 v1 v2 v3 v4 v5 v6 v7 g ∨ w.heap.size ≤ g) : PlayAt Z X w' Q n vm vn vl kR' kN' kE' c := by
  obtain ⟨u0, u1, u2, u3, u4, u5, u6, u7, hB', hm, hu⟩ := hp
  refine ⟨u0, u1, u2, u3, u4, u5, u6, u7, hB', fun g hg => (hu g hg).elim (hlo g) (hZ g), hN.modO hm (hL.or (hO.mono fun g hg => .inr hg)), ?_, hU⟩
  have h1 : NodeOff (fun g => (X g ∨ BkO Q v0 v1 v2 v3 v4 v5 v6 v7 g) ∨ w.heap.size ≤ g) n vm vn vl := hO.or (hN.off_new fun g hg => hg)
  exact h1.mono fun g hg => hg.elim (fun h => .inl (.inl h)) fun h => (hu g h).elim (fun h => .inl (.inr h)) .inr
end
/-- an Op as it lies -/
def opC (k : Int) (n : NodeD) (vm vn vl : Value) (K : Int) (ve : Value) : Array Value := #[.int .i64 k, .int .i64 n.ino, .int .i64 n.kind, .int .i64 n.links, .int .i64 n.size, vm, vn, .int .i64 n.head, .int .i64 n.tail, vl, .int .i64 n.entries, .int .i64 K, ve]
def XX (X0 : Nat → Prop) (q4 q6 g : Nat) : Prop := X0 g ∨ (g = q4 ∨ g = q6)
def PlaysPost (Z X0 : Nat → Prop) (w : World) (Q kR kN kE c : Nat) : Ending → World → Prop := fun x w' => ∃ n vm vn vl kR' kN' kE', x = .returned (.tuple #[.agg (nodeC n vm vn vl), .bool true]) ∧ PlayAt Z X0 w' Q n vm vn vl kR' kN' kE' (c + 100) ∧ Mod Z w w' ∧ kR' ≤ kR + 100 ∧ kN' ≤ kN + 100 ∧ kE' ≤ kE + 100
end Go.Proofs.YtabebkffcmajkaaGreatDoor

/-! A region that draws its order in which two operations that make new memory are in no order among themselves: a walk with forks. No program in it. -/
namespace Go.Proofs.YtabebkffcmajkaaGreatDoor
open Go.RowKit Go.Maps

/-- orders: q k: operation k only reads; l k: k is the only one that is ready; two: two are ready: both ways -/
inductive Sch where
  | nil
  | q (k : Nat) (n : Sch)
  | l (k : Nat) (n : Sch)
  | two (k : Nat) (n : Sch) (k' : Nat) (n' : Sch)
def Sch.len : Sch → Nat
  | .nil => 0
  | .q _ n => n.len + 1
  | .l _ n => n.len + 1
  | .two _ n _ _ => n.len + 1
def Sch.of : List (Bool × Nat) → Sch → Sch
  | [], s => s
  | (true, k) :: r, s => .q k (Sch.of r s)
  | (false, k) :: r, s => .l k (Sch.of r s)
section
variable {P : Program} {ops : Array Oper} {md : Region.Mode} {I : World → Prop}
def wpSch (P : Program) (ops : Array Oper) (I : World → Prop) (Q : Act → World → Prop) : Sch → Act → World → Prop
  | .nil, a, w => Q a w
  | .q k n, a, w => ∃ o v, ops[k]? = some o ∧ Always P ops I o v a ∧ wpSch P ops I Q n (a.put o.dst v) w
  | .l k n, a, w => lOp P ops I k (wpSch P ops I Q n) a w
  | .two k n k' n', a, w => lOp P ops I k (wpSch P ops I Q n) a w ∧ lOp P ops I k' (wpSch P ops I Q n') a w
def schB (md : Region.Mode) (ops : Array Oper) : Sch → Array Bool → Bool
  | .nil, listed => (Region.ready md ops listed).isEmpty
  | .q k n, listed => (Region.ready md ops listed).contains k && Region.free md ops listed k && schB md ops n (listed.setIfInBounds k true)
  | .l k n, listed => decide (Region.ready md ops listed = [k]) && schB md ops n (listed.setIfInBounds k true)
  | .two k n k' n', listed => decide (Region.ready md ops listed = [k, k']) && decide (n.len = n'.len) && schB md ops n (listed.setIfInBounds k true) && schB md ops n' (listed.setIfInBounds k' true)
theorem wpAnyI_sch {Q : Act → World → Prop} (hs : Region.noSelect ops = true) : ∀ (l : Sch) (listed : Array Bool) (a : Act) (w : World), I w → schB md ops l listed = true → wpSch P ops I Q l a w →
    wpAnyI P md ops I Q l.len listed a w
  | .nil, _, _, _, _, hB, h => ⟨by simpa [schB] using hB, h⟩
  | .q k n, listed, a, w, hw, hB, ⟨o, v, ho, hy, h⟩ => by
    simp only [schB, Bool.and_eq_true] at hB
    exact wpAnyI_first ho (Region.noSelect_spec hs) n.len listed a w hw (Region.free_spec ho hB.1.2) (by simpa using hB.1.1) hy (wpAnyI_sch hs n _ _ _ hw hB.2 h)
  | .l k n, listed, a, w, hw, hB, h => by
    simp only [schB, Bool.and_eq_true, decide_eq_true_eq] at hB
    refine ⟨fun h1 => (by rw [hB.1] at h1; cases h1), fun i hi => ?_⟩
    rw [hB.1] at hi
    have hik : i = k := by simpa using hi
    subst hik
    exact lOp_mono (fun a' w' hw' h' => wpAnyI_sch hs n _ a' w' hw' hB.2 h') h
  | .two k n k' n', listed, a, w, hw, hB, h => by
    simp only [schB, Bool.and_eq_true, decide_eq_true_eq] at hB
    obtain ⟨⟨⟨h1, h2⟩, h3⟩, h4⟩ := hB
    refine ⟨fun h5 => (by rw [h1] at h5; cases h5), fun i hi => ?_⟩
    rw [h1] at hi
    have hik : i = k ∨ i = k' := by simpa using hi
    rcases hik with rfl | rfl
    · exact lOp_mono (fun a' w' hw' h' => wpAnyI_sch hs n _ a' w' hw' h3 h') h.1
    · refine lOp_mono (fun a' w' hw' h' => ?_) h.2
      have := wpAnyI_sch hs n' _ a' w' hw' h4 h'
      rw [← h2] at this
      exact this
def schOk (md : Region.Mode) (ops : Array Oper) (l : Sch) : Bool :=
  Region.noSelect ops && decide (l.len = ops.size) && schB md ops l (Array.replicate ops.size false)
/-- (a structure: so that Lean's elaborator does not look into it) -/
structure ScW (P : Program) (ops : Array Oper) (I : World → Prop) (Q : Act → World → Prop) (l : Sch) (a : Act) (w : World) : Prop where
  h : wpSch P ops I Q l a w
theorem region_sch {id : Nat} {Q : Exit → Act → World → Prop} {a : Act} {w : World} {l : List Oper} (σ : Sch) (I : World → Prop) (hm : P.follows .mixedOrders = true) (hB : schOk .any l.toArray σ = true)
    (h : ∀ w', w' = w.drew → I w' ∧ ScW P l.toArray I (fun a' w' => Q .normal a' w') σ a w') : (Code.region id l.toArray true).wp P Q a w := by
  simp only [schOk, Bool.and_eq_true, decide_eq_true_eq] at hB
  obtain ⟨hI, ⟨hx⟩⟩ := h _ rfl
  refine wp_region_any hm (wpAny_of_I (I := I) (Q := fun a' w' => Q .normal a' w') (fun _ _ h => h) _ _ _ _ ?_)
  have := wpAnyI_sch (md := .any) hB.1.1 σ _ a _ hI hB.2 hx
  rw [hB.1.2] at this
  exact this
theorem scw_quiet {Q : Act → World → Prop} {k : Nat} {o : Oper} {os : List Oper} {l : Sch} {a : Act} {w : World} {v : Value} (ho : os[k]? = some o)
    (h : ∀ w', I w' → ∀ K : Value → Prop, K v → if Region.wanted o (yielded os.toArray a.tmps) then quietV P a w' o K ((execOp a.eval o).run P w') else K undef)
    (hn : ScW P os.toArray I Q l (a.put o.dst v) w) : ScW P os.toArray I Q (.q k l) a w := by
  refine ⟨o, v, by simpa using ho, fun w' hw' => ?_, hn.h⟩
  have h1 := h w' hw' (· = v) rfl
  unfold YieldsAt
  by_cases hwn : Region.wanted o (yielded os.toArray a.tmps) = true
  · rw [if_pos hwn] at h1
    refine .inl ⟨hwn, ?_⟩
    generalize (execOp a.eval o).run P w' = r at h1 ⊢
    cases r with
    | ok n w2 =>
      cases n <;> simp only [quietV] at h1
      case value u => obtain ⟨rfl, rfl⟩ := h1; exact .inl rfl
      case skip => obtain ⟨rfl, h2⟩ := h1; exact .inr (.inl ⟨rfl, h2.symm⟩)
      case enter f args => obtain ⟨rfl, u, hc, rfl⟩ := h1; exact .inr (.inr ⟨f, args, rfl, hc⟩)
    | halt x w2 => simp only [quietV] at h1
  · rw [if_neg hwn] at h1
    exact .inr ⟨by simpa using hwn, h1.symm⟩
theorem scw_qval {Q : Act → World → Prop} {k : Nat} {o : Oper} {os : List Oper} {l : Sch} {a : Act} {w : World} {v : Value} (ho : os[k]? = some o) (hg : o.guard = none)
    (h : ∀ w', I w' → (execOp a.eval o).run P w' = .ok (.value v) w') (hn : ScW P os.toArray I Q l (a.put o.dst v) w) : ScW P os.toArray I Q (.q k l) a w :=
  scw_quiet ho (fun w' hw' K hK => by rw [if_pos (by simp [Region.wanted, hg]), h w' hw']; exact ⟨rfl, hK⟩) hn
theorem lOp_of {Q : Act → World → Prop} {k : Nat} {o : Oper} {os : List Oper} {l : Sch} {a : Act} {w : World} (ho : os[k]? = some o)
    (h : ∀ K : Act → World → Prop, (∀ a w, ScW P os.toArray I Q l a w → K a w) → if Region.wanted o (yielded os.toArray a.tmps) then loudUpon P o a I K ((execOp a.eval o).run P w) else I w ∧ K (a.put o.dst undef) w) : lOp P os.toArray I k (wpSch P os.toArray I Q l) a w := by
  have h1 := h (wpSch P os.toArray I Q l) (fun _ _ h => h.h)
  have ho' : os.toArray[k]? = some o := by simpa using ho
  unfold lOp loud
  rw [ho']
  exact h1
theorem scw_loud {Q : Act → World → Prop} {k : Nat} {o : Oper} {os : List Oper} {l : Sch} {a : Act} {w : World} (ho : os[k]? = some o)
    (h : ∀ K : Act → World → Prop, (∀ a w, ScW P os.toArray I Q l a w → K a w) → if Region.wanted o (yielded os.toArray a.tmps) then loudUpon P o a I K ((execOp a.eval o).run P w) else I w ∧ K (a.put o.dst undef) w) : ScW P os.toArray I Q (.l k l) a w := ⟨lOp_of ho h⟩
theorem scw_val {Q : Act → World → Prop} {k : Nat} {o : Oper} {os : List Oper} {l : Sch} {a : Act} {w w' : World} {v : Value} (ho : os[k]? = some o) (hg : o.guard = none) (hi : I w')
    (h : (execOp a.eval o).run P w = .ok (.value v) w') (hn : ScW P os.toArray I Q l (a.put o.dst v) w') : ScW P os.toArray I Q (.l k l) a w :=
  scw_loud ho fun K hK => by rw [if_pos (by simp [Region.wanted, hg]), h]; exact ⟨hi, hK _ _ hn⟩
theorem scw_two {Q : Act → World → Prop} {k k' : Nat} {os : List Oper} {n n' : Sch} {a : Act} {w : World} (h : ScW P os.toArray I Q (.l k n) a w) (h' : ScW P os.toArray I Q (.l k' n') a w) : ScW P os.toArray I Q (.two k n k' n') a w := ⟨⟨h.h, h'.h⟩⟩
theorem scw_nil {Q : Act → World → Prop} {os : List Oper} {a : Act} {w : World} (h : Q a w) : ScW P os.toArray I Q .nil a w := ⟨h⟩
end
end Go.Proofs.YtabebkffcmajkaaGreatDoor

/-! Steps of a region with forks: a new variable, a whole row that is stored; a row is loaded out of the middle of a block. No program in it. -/
namespace Go.Proofs.YtabebkffcmajkaaGreatDoor
open Go.RowKit Go.Maps

section
variable {P : Program} {I : World → Prop} {Q : Act → World → Prop} {k : Nat} {o : Oper} {os : List Oper} {l : Sch} {a : Act} {w : World}
theorem scv_alloc (ho : os[k]? = some o) (hg : o.guard = none) (t : TypeId) (h1 : o.op = .alloc t) (z : Value) (hz : ∀ w, (zeroValue t).run P w = .ok z w) (hi : I (w.alloc (.cells z.cells t)))
    (h : ScW P os.toArray I Q l (a.put o.dst (.pointer (some ⟨w.heap.size, 0, none⟩))) (w.alloc (.cells z.cells t))) : ScW P os.toArray I Q (.l k l) a w := by
  refine scw_val ho hg hi (v := .pointer (some ⟨w.heap.size, 0, none⟩)) ?_ h
  unfold execOp
  simp only [h1, Instr.alloc, newVar, newRow, newObj, Sem.run_bind, hz, Result.andThen_ok, Sem.run, Sem.run_pure]
  rfl
theorem scv_storeRow (ho : os[k]? = some o) (hgd : o.guard = none) (ty : TypeId) (x y : Operand) (hop : o.op = .store ty x y) (g : Nat) (cells : Array Value) (hx : a.eval x = .pointer (some ⟨g, 0, none⟩)) (hy : a.eval y = .agg cells)
    (t : TypeId) (old : Array Value) (hg : w.heap[g]? = some (.cells old t (0, 0))) (hi : (P.info? ty).map (·.size) = some cells.size) (hold : old.size = cells.size) (h1 : cells.all (·.oneCell') = true)
    (hI : I (w.setRow g cells)) (hn : ScW P os.toArray I Q l (a.put o.dst undef) (w.setRow g cells)) : ScW P os.toArray I Q (.l k l) a w :=
  scw_loud ho fun K hK => by
    have hrun : (execOp a.eval o).run P w = .ok .skip (w.setRow g cells) := by
      refine ex_store hop ?_
      rw [hx, hy]
      simp only [Instr.storeAt, Instr.sureAddr, Sem.run_bind, Sem.run_pure, Result.andThen_ok, run_storeVar_row w g t ty old cells hg hi hold h1]
    rw [if_pos (by simp [Region.wanted, hgd]), hrun]
    exact ⟨hI, hK _ _ hn⟩
end
/-- a row as an array out of the middle of a block -/
theorem run_loadMidA {P : Program} (w : World) (b o : Nat) (ty : TypeId) (cells : Array Value) (d : TypeDesc) (hc : w.rangeAt b o cells.toList) (hu : P.underlying ty = some d) (hd : d.isRow = true) (hi : (P.info? ty).map (·.size) = some cells.size) :
    (Instr.loadAt ty (.pointer (some ⟨b, o, none⟩))).run P w = .ok (.agg cells) w := by
  have := run_loadAt_mid w b o ty cells.toList d hc hu hd (by rw [hi, Array.length_toList])
  rw [Array.toArray_toList] at this
  exact this
theorem rangeAt_mod {S : Nat → Prop} {w w' : World} {b o : Nat} {cs : List Value} (h : w.rangeAt b o cs) (hm : Mod S w w') (hb : b < w.heap.size) (hs : ¬ S b) : w'.rangeAt b o cs :=
  fun j v hj => (World.cell?_of_block (hm.block b hb hs)).trans (h j v hj)
end Go.Proofs.YtabebkffcmajkaaGreatDoor

/-! Law walk: plays. (Printed by mk_BKB.py.) -/
namespace Go.Proofs.YtabebkffcmajkaaGreatDoor
open Go.RowKit Go.Maps Go.Shelf
attribute [local go_sem] quietV loudUpon Oper.semAt_some

theorem nodeIn_one {w : World} {n : NodeD} {vm vn vl : Value} (h : NodeIn w n vm vn vl) : (nodeC n vm vn vl).all (·.oneCell') = true := by
  obtain ⟨_, _, rfl, _⟩ := h.map
  obtain ⟨_, _, rfl, _⟩ := h.names
  obtain ⟨_, _, rfl, _⟩ := h.log
  exact nodeC_one _ _ _ _ rfl rfl rfl
theorem nodeOwn_one {b : Nat} {w : World} {n : NodeD} {vm vn vl : Value} (h : NodeOwn b w n vm vn vl) : (nodeC n vm vn vl).all (·.oneCell') = true := by
  obtain ⟨_, _, rfl, _⟩ := list_of_ownRow (enc := encRun) (fun _ => rfl) h.map
  obtain ⟨_, _, rfl, _⟩ := list_of_ownRow (enc := encDent) (fun _ => rfl) h.names
  obtain ⟨_, _, rfl, _⟩ := list_of_ownRow (enc := encInt) (fun _ => rfl) h.log
  exact nodeC_one _ _ _ _ rfl rfl rfl
theorem NodeOwn.store {b : Nat} {w : World} {n : NodeD} {vm vn vl : Value} (h : NodeOwn b w n vm vn vl) {q : Nat} {cs cs' : Array Value} (hq : Blk w q 34 cs) : NodeOwn b (w.setRow q cs') n vm vn vl := by
  have hm : Mod (· = q) w (w.setRow q cs') := (Mod.refl (· = q) w).setRow (.inr rfl) _
  exact ⟨own_mod h.map hm (fun g hg e => own_ne h.map hq (by decide) hg e.symm), own_mod h.names hm (fun g hg e => own_ne h.names hq (by decide) hg e.symm), own_mod h.log hm (fun g hg e => own_ne h.log hq (by decide) hg e.symm)⟩
theorem NodeOwn.low {b b' : Nat} {w : World} {n : NodeD} {vm vn vl : Value} (h : NodeOwn b w n vm vn vl) (hb : b' ≤ b) : NodeOwn b' w n vm vn vl := ⟨own_base h.map hb, own_base h.names hb, own_base h.log hb⟩
/-- what the regions with the entry lean on -/
def RI (q4 q5 : Nat) (NC OC : Array Value) (g o : Nat) (ec : List Value) (w : World) : Prop := Blk w q4 34 NC ∧ Blk w q5 39 OC ∧ g < w.heap.size ∧ w.rangeAt g o ec
theorem RI.mod {q4 q5 : Nat} {NC OC : Array Value} {g o : Nat} {ec : List Value} {S : Nat → Prop} {w w' : World} (h : RI q4 q5 NC OC g o ec w) (hm : Mod S w w') (h4 : ¬ S q4) (h5 : ¬ S q5) (hg : ¬ S g) : RI q4 q5 NC OC g o ec w' :=
  ⟨h.1.mod hm h4, h.2.1.mod hm h5, Nat.lt_of_lt_of_le h.2.2.1 hm.size, rangeAt_mod h.2.2.2 hm h.2.2.1 hg⟩
def AfterA (w0 wx : World) (N : NodeD) (er : Int) (s9 s10 : Value) : Prop := ∃ q vm vn vl, s9 = .pointer (some ⟨q, 0, none⟩) ∧ s10 = .int .i64 er ∧ w0.heap.size ≤ q ∧ Blk wx q 34 (nodeC N vm vn vl) ∧ NodeOwn w0.heap.size wx N vm vn vl ∧ Mod None_ w0 wx
def AfterB (w0 wx : World) (N : NodeD) (er : Int) (F : Value → Value → Value → Prop) (s11 s12 : Value) : Prop := ∃ q vm vn vl, s11 = .pointer (some ⟨q, 0, none⟩) ∧ s12 = .int .i64 er ∧ w0.heap.size ≤ q ∧ Blk wx q 34 (nodeC N vm vn vl) ∧ NodeIn wx N vm vn vl ∧ F vm vn vl ∧ Mod None_ w0 wx
theorem own_off {b : Nat} {w : World} {n : NodeD} {vm vn vl : Value} (h : NodeOwn b w n vm vn vl) : NodeOff (· < b) n vm vn vl :=
  ⟨fun _ g hg hl => by have := (own_blk h.map hg).1; omega, fun _ g hg hl => by have := (own_blk h.names hg).1; omega, fun _ g hg hl => by have := (own_blk h.log hg).1; omega⟩
theorem PlayAt.renew {Z X : Nat → Prop} {w w' : World} {Q : Nat} {n N : NodeD} {vm vn vl xm xn xl : Value} {kR kN kE c c' : Nat} (h : PlayAt Z X w Q n vm vn vl kR kN kE c) (hX : ∀ g, X g → g < w.heap.size) (hm : Mod None_ w w') (hO : NodeOff (· < w.heap.size) N xm xn xl) (hN : NodeIn w' N xm xn xl) (hU : UptoN c' N) : PlayAt Z X w' Q N xm xn xl kR kN kE c' := by
  obtain ⟨v0, v1, v2, v3, v4, v5, v6, v7, hB, hlo, _, _, _⟩ := h
  exact ⟨v0, v1, v2, v3, v4, v5, v6, v7, (hB.kept hm).here, hlo, hN, hO.mono fun g hg => hg.elim (hX g) (bko_lt hB), hU⟩
theorem canonList_len {n : NodeD} {c : Nat} (h : UptoN c n) (hc : c ≤ 50000) : (canonList n).length ≤ 1000000 := by
  unfold canonList
  split
  · rename_i hg
    obtain ⟨hml, htm⟩ := good_tame hg
    have h1 := stepsOf_length htm hml
    unfold canonOf
    rw [entsFrom_length]
    have := h.2.1
    omega
  · exact Nat.zero_le _
theorem pagesOf_len (n : NodeD) : (pagesOf n).length ≤ 1000000 := by
  unfold pagesOf
  split
  · rw [List.length_map]
    have := itemsOf_length (tableOf n.map) 0 512 0
    omega
  · exact Nat.zero_le _
def sig9 : Sch := .of [(true, 0), (true, 2), (true, 3), (true, 4), (true, 5), (true, 6)] (.two 1 (.two 7 (.q 8 (.q 9 (.q 10 (.l 11 (.l 12 (.q 13 .nil)))))) 11 (.l 7 (.q 8 (.q 9 (.q 10 (.l 12 (.q 13 .nil))))))) 11 (.l 1 (.l 7 (.q 8 (.q 9 (.q 10 (.l 12 (.q 13 .nil))))))))
def sig10 : Sch := .of [(true, 0), (true, 1), (true, 2), (true, 3), (true, 4), (true, 5)] (.two 6 (.q 7 (.q 8 (.q 9 (.l 10 (.l 11 (.q 12 .nil)))))) 10 (.l 6 (.q 7 (.q 8 (.q 9 (.l 11 (.q 12 .nil)))))))
def sig20 : Sch := .of [(true, 0), (true, 1), (true, 2)] (.two 3 (.two 4 (.q 5 (.q 6 (.q 7 (.l 8 (.l 9 (.q 10 .nil)))))) 8 (.l 4 (.q 5 (.q 6 (.q 7 (.l 9 (.q 10 .nil))))))) 8 (.l 3 (.l 4 (.q 5 (.q 6 (.q 7 (.l 9 (.q 10 .nil))))))))

set_option maxRecDepth 100000 in
set_option maxHeartbeats 16000000 in
theorem plays_any (w : World) (Q : Nat) (Z : Nat → Prop) (n : NodeD) (vm vn vl : Value) (kR kN kE c : Nat) (k K : Int) (N : NodeD) (am an al ve : Value) (es : List EntD)
    (hS : Steps w) (hZ0 : ¬ Z 0) (hZ : ∀ g, w.heap.size ≤ g → Z g) (X0 : Nat → Prop) (hX0 : ∀ g, X0 g → g < w.heap.size) (hP : PlayAt Z X0 w Q n vm vn vl kR kN kE c)
    (hN : NodeIn w N am an al)  (hE : ListAt encEntry 8 w ve es) (hEo : OffS Z ve es.length)
    (hk : kR ≤ 50000 ∧ kN ≤ 50000 ∧ kE ≤ 50000 ∧ c ≤ 40000) (hl : es.length ≤ 2000000) :
    Calls Tryz.prog 4 #[.pointer (some ⟨Q, 0, none⟩), .agg (nodeC n vm vn vl), .agg (opC k N am an al K ve)] w (PlaysPost Z X0 w Q kR kN kE c) := by
  obtain ⟨hk1, hk2, hk3, hk4⟩ := hk
  obtain ⟨A, cc, rfl, hcc1, hcc2, hA⟩ := id hE
  unfold maxLen at hcc2
  have hln : ∀ w, (Builtin.len_ #[37] 3 #[.slice A es.length cc]).run Tryz.prog w = .ok (.int .i64 es.length) w := fun w => by simp [Builtin.len_, run_underlying Tryz.underlying37]; rfl
  obtain ⟨OC, hOC⟩ : ∃ y, y = opC k N am an al K (.slice A es.length cc) := ⟨_, rfl⟩
  obtain ⟨q4, hq4⟩ : ∃ m, m = w.heap.size := ⟨_, rfl⟩
  obtain ⟨q5, hq5⟩ : ∃ m, m = q4 + 1 := ⟨_, rfl⟩
  obtain ⟨q6, hq6⟩ : ∃ m, m = q4 + 1 + 1 := ⟨_, rfl⟩
  obtain ⟨w0, hw0⟩ : ∃ w0, w0 = ((w.alloc (.cells (nodeC n vm vn vl) 34)).alloc (.cells OC 39)).alloc (.cells zeroNode 34) := ⟨_, rfl⟩
  have hM0 : Mod None_ w w0 := by rw [hw0]; exact (((Mod.refl _ w).alloc _).alloc _).alloc _
  have b4 : Blk w0 q4 34 (nodeC n vm vn vl) := by rw [hw0, hq4]; exact ((Blk.new w 34 _).alloc _).alloc _
  have b5 : Blk w0 q5 39 OC := by
    have := (Blk.new (w.alloc (.cells (nodeC n vm vn vl) 34)) 39 OC).alloc (.cells zeroNode 34)
    rw [← hw0, alloc_size, ← hq4, ← hq5] at this
    exact this
  have b6 : Blk w0 q6 34 zeroNode := by
    have := Blk.new ((w.alloc (.cells (nodeC n vm vn vl) 34)).alloc (.cells OC 39)) 34 zeroNode
    rw [← hw0, alloc_size, alloc_size, ← hq4, ← hq6] at this
    exact this
  have h4m : Z q4 := hZ q4 (by omega)
  have h5m : Z q5 := hZ q5 (by omega)
  have h6m : Z q6 := hZ q6 (by omega)
  have hq45 : q4 < q5 := by omega
  have hq56 : q5 < q6 := by omega
  have hX : ∀ g, XX X0 q4 q6 g → X0 g ∨ w.heap.size ≤ g := fun g hg => by
    rcases hg with h | h | h
    · exact .inl h
    · right; omega
    · right; omega
  have h4w : w.heap.size ≤ q4 := by omega
  have HP := hide (hP.more2 (X := XX X0 q4 q6) hX hM0)
  have HM := hide (hM0.none (S := Z))
  have HS := hide (hS.kept hM0)
  have HS0 := hide hS
  have HN := hide (hN.kept hM0)
  have HE := hide (hE.kept hM0)
  have HA := hide hA
  have HEO := hide hEo
  have j0 : w0.cell? ⟨q5, 0, none⟩ = some (.int .i64 k) := by have := b5.cell 0; rw [hOC] at this; exact this
  have HOC := hide hOC
  have HW0 := hide hw0
  have HQ4 := hide hq4
  have HQ5 := hide hq5
  have HQ6 := hide hq6
  have HX := hide hX
  clear hOC hw0 hq4 hq5 hq6 hP hM0 hS hN hE hA hEo hX
  go_enter Tryz.func4, Tryz.ntmps4
  go_upto_region 1 with ((with_reducible refine at_slot 6 ?_); refine wpList_alloc rfl 34 rfl (.agg zeroNode) zeroNodeV ?_; go_frame)
  simp only [alloc_size]
  rw [show (Value.agg zeroNode).cells = zeroNode from rfl, ← HOC.out, ← HQ4.out, ← HQ5.out, ← HW0.out]
  try rw [show q5 + 1 = q6 from by rw [HQ6.out, HQ5.out]]
  clear HW0
  by_cases k1 : k = 1
  · subst k1
    have hrg : w0.rangeAt q5 1 (nodeC N am an al).toList := fun j v hj => by
      rw [b5.cell, HOC.out]
      rw [Array.getElem?_toList] at hj
      have hj10 : j < 10 := (Array.getElem?_eq_some_iff.1 hj).1
      rw [← hj]
      rcases j with _ | _ | _ | _ | _ | _ | _ | _ | _ | _ | j <;> first | rfl | omega
    have HRG := hide hrg
    have HIN := hide (infoNode N am an al)
    clear hrg
    go_wp2_with ((with_reducible refine at_slot 29 ?_); refine wpList_val rfl (ex_load rfl (run_loadMidA _ q5 1 34 _ _ HRG.out Tryz.underlying34 rfl HIN.out)) ?_; go_frame)
    refine Calls.mono (lawSmall w0 N am an al HN.out) ?_
    rintro x w1 ⟨rfl, hm1⟩
    replace HP := hide (HP.out.kept hm1)
    replace HM := hide (HM.out.trans hm1.none)
    replace HN := hide (HN.out.kept hm1)
    have hrg1 := rangeAt_mod HRG.out hm1 b5.lt id
    replace HRG := hide hrg1
    replace b4 := b4.mod hm1 id
    replace b5 := b5.mod hm1 id
    replace b6 := b6.mod hm1 id
    clear hrg1 hm1 j0 HS HE
    cases hsm : smallB N with
    | false =>
      clear hsm HN HRG HIN
      have HIe := hide (infoNode n vm vn vl)
      have HOe := hide (nodeIn_one HP.out.in_)
      have hmr : Mod (· = q6) w1 (w1.setRow q6 (nodeC n vm vn vl)) := (Mod.refl (· = q6) w1).setRow (.inr rfl) _
      have HF : Hid (PlaysPost Z X0 w Q kR kN kE c (.returned (.tuple #[.agg (nodeC n vm vn vl), .bool true])) (w1.setRow q6 (nodeC n vm vn vl))) := hide ⟨n, vm, vn, vl, kR, kN, kE, rfl, (HP.out.node b6 (.inr (.inr rfl)) hmr).weak (fun _ f => .inl f) (by omega), HM.out.trans' hmr (fun g hg e => by subst e; exact h6m), by omega, by omega, by omega⟩
      have HB := hide (b6.row (nodeC n vm vn vl))
      clear hmr
      go_wp2_with (first
        | ((with_reducible refine at_slot 166 ?_); refine wpList_val rfl (ex_load rfl (run_loadRow b4 Tryz.underlying34 rfl HIe.out)) ?_; go_frame)
        | ((with_reducible refine at_none 34 6 166 ?_); refine wpList_store_row rfl 34 (.tmp 6) (.tmp 166) rfl q6 (nodeC n vm vn vl) rfl rfl 34 zeroNode b6 HIe.out rfl HOe.out ?_; go_frame))
      have hl := run_loadVar_row (P := Tryz.prog) _ q6 34 34 _ (0, 0) _ HB.out Tryz.underlying34 rfl HIe.out
      exact ⟨rfl, .tuple #[.agg (nodeC n vm vn vl), .bool true], by simp [results, Tryz.results4, asAddr, hl], HF.out⟩
    | true =>
      have HSM := hide hsm
      clear hsm
      have HW1 := hide (rfl : w1.heap.size = w1.heap.size)
      go_upto_region 4 with fail
      have HCY := hide (lawCopy w1 N am an al HN.out HSM.out)
      go_wp2_with ((with_reducible refine at_slot 32 ?_); refine wpList_val rfl (ex_load rfl (run_loadMidA _ q5 1 34 _ _ HRG.out Tryz.underlying34 rfl HIN.out)) ?_; go_frame)
      refine Calls.mono HCY.out ?_
      rintro x w2 ⟨xm, xn, xl, rfl, hO, hm⟩
      clear HCY
      have hNx := hO.in_ HN.out
      have HI2 := hide (infoNode N xm xn xl)
      have HO2 := hide (nodeOwn_one hO)
      have hX6 : ∀ g, XX X0 q4 q6 g → g < w1.heap.size := fun g hg => by
        have := b4.lt
        have := b6.lt
        rcases hg with h | h | h
        · have := hX0 g h; omega
        · omega
        · omega
      have HP2 := hide (HP.out.renew hX6 hm (own_off hO) hNx (upto_small HSM.out))
      replace HM := hide (HM.out.trans hm.none)
      replace b6 := b6.mod hm id
      have hmr : Mod (· = q6) w2 (w2.setRow q6 (nodeC N xm xn xl)) := (Mod.refl (· = q6) w2).setRow (.inr rfl) _
      have HF : Hid (PlaysPost Z X0 w Q kR kN kE c (.returned (.tuple #[.agg (nodeC N xm xn xl), .bool true])) (w2.setRow q6 (nodeC N xm xn xl))) := hide ⟨N, xm, xn, xl, kR, kN, kE, rfl, (HP2.out.node b6 (.inr (.inr rfl)) hmr).weak (fun _ f => .inl f) (by omega), HM.out.trans' hmr (fun g hg e => by subst e; exact h6m), by omega, by omega, by omega⟩
      have HB := hide (b6.row (nodeC N xm xn xl))
      clear hmr hO hNx hm
      go_wp2_with ((with_reducible refine at_none 34 6 33 ?_); refine wpList_store_row rfl 34 (.tmp 6) (.tmp 33) rfl q6 (nodeC N xm xn xl) rfl rfl 34 zeroNode b6 HI2.out rfl HO2.out ?_; go_frame)
      have hl := run_loadVar_row (P := Tryz.prog) _ q6 34 34 _ (0, 0) _ HB.out Tryz.underlying34 rfl HI2.out
      exact ⟨rfl, .tuple #[.agg (nodeC N xm xn xl), .bool true], by simp [results, Tryz.results4, asAddr, hl], HF.out⟩
  by_cases k2 : k = 2
  · subst k2
    clear HN HE HS
    go_wp2_with fail
    go_loopw [8] (fun s8 wr => ∃ (i : Nat) (nn : NodeD) (xm xn xl : Value), s8 = .int .i64 i ∧ i ≤ es.length ∧ i ≤ 100 ∧ Blk wr q4 34 (nodeC nn xm xn xl) ∧ Blk wr q5 39 OC ∧ Blk wr q6 34 zeroNode ∧ PlayAt Z (XX X0 q4 q6) wr Q nn xm xn xl (kR + i) (kN + i) kE (c + i) ∧ Mod Z w wr) (fun s8 _ => 100 - (intOf s8).toNat)
    case atStart => exact ⟨0, n, vm, vn, vl, rfl, Nat.zero_le _, Nat.zero_le _, b4, b5, b6, HP.out, HM.out⟩
    clear HP HM b4 b5 b6 j0
    obtain ⟨i, nn, xm, xn, xl, rfl, hi1, hi2, b4, b5, b6, hP, hM⟩ := hrel
    have j12 : wr.cell? ⟨q5, 12, none⟩ = some (.slice A es.length cc) := by have := b5.cell 12; rw [HOC.out] at this; exact this
    by_cases hlt : i < es.length ∧ i < 100
    · obtain ⟨hlt1, hlt2⟩ := hlt
      have hi3 : (i : Int) < es.length := by omega
      have hi4 : (i : Int) < 100 := by omega
      obtain ⟨g, o, rfl, hg, hcell⟩ := HA.out (by omega)
      have hgm : ¬ Z g := HEO.out (by omega) g rfl
      have hc := hcell i hlt1
      obtain ⟨x, hx⟩ : ∃ x, x = es[i] := ⟨_, rfl⟩
      rw [← hx] at hc
      have hrg : wr.rangeAt g (o + i * 8) (encEntry x) := fun j u h => (World.cell?_of_block (hM.block g hg hgm)).trans (hc j u h)
      have hI : RI q4 q5 (nodeC nn xm xn xl) OC g (o + i * 8) (encEntry x) wr := ⟨b4, b5, Nat.lt_of_lt_of_le hg hM.size, hrg⟩
      have hNI := hP.in_
      have hU := hP.upto
      have hmid := hU.mid (by omega)
      have hSR : Steps wr := HS0.out.mod hM hZ0
      obtain ⟨NA, hNA⟩ : ∃ y, y = nodeA nn x := ⟨_, rfl⟩
      obtain ⟨er, her⟩ : ∃ y, y = errA nn x := ⟨_, rfl⟩
      have hUA : UptoN (c + i + 1) NA := by rw [hNA, ← apply_node]; exact apply_upto x hU
      have HNA := hide hNA
      have HER := hide her
      have HI := hide (infoNode nn xm xn xl)
      have HNI := hide hNI
      have HMID := hide hmid
      have HSR := hide hSR
      have HPP := hide hP
      have HMW := hide hM
      have HUA := hide hUA
      have h4l := b4.lt
      have h6l := b6.lt
      have hsw := hM.size
      have HB4 := hide b4
      have HB5 := hide b5
      have HB6 := hide b6
      clear hx hc hcell hrg hNA her hNI hU hmid hSR hP hM hUA b4 b6 hg hgm
      go_upto_region 9 with fail
      go_cut [9, 10] from 47 to 57 (fun s9 s10 wx => AfterA wr wx NA er s9 s10)
      case first =>
        refine region_sch sig9 (RI q4 q5 (nodeC nn xm xn xl) OC g (o + i * 8) (encEntry x)) (by kernel_rfl) (by kernel_rfl) ?_
        rintro wA hwA
        have hMc : Mod None_ wr wA := by rw [hwA]; exact (Mod.refl _ wr).drew
        replace hI := hI.mod hMc id id id
        clear hwA
        refine ⟨hI, ?_⟩
        unfold sig9
        refine scw_qval rfl rfl (fun w' i_ => ex_load rfl (run_loadRow i_.1 Tryz.underlying34 rfl HI.out)) ?_
        go_frame
        iterate 4 (refine scw_quiet rfl (fun w' i_ K hK => by have j12 : w'.cell? ⟨q5, 12, none⟩ = some (.slice (some ⟨g, o, none⟩) es.length cc) := (by have := i_.2.1.cell 12; rw [HOC.out] at this; exact this); go_simp; exact hK) ?_; go_frame)
        refine scw_qval rfl rfl (fun w' i_ => ex_load rfl (run_loadAt_mid w' g (o + i * 8) 49 (encEntry x) _ i_.2.2.2 Tryz.underlying49 rfl (by kernel_rfl))) ?_
        go_frame
        refine scw_two ?_ ?_
        · refine scw_loud rfl (fun K hK => ?_)
          go_simp
          refine Calls.mono (lawCopyM wA nn xm xn xl (HNI.out.kept hMc) HMID.out) ?_
          rintro xx wB1 ⟨um, un, ul, rfl, hO1, hm⟩
          have hNc := hO1.in_ HNI.out
          replace hI := hI.mod hm id id id
          replace hMc := hMc.trans hm
          refine ⟨_, rfl, hI, hK _ _ ?_⟩
          clear hK K hm hO1
          try go_frame
          refine scw_two ?_ ?_
          · have hsz := hMc.size
            refine scw_loud rfl (fun K hK => ?_)
            go_simp
            refine Calls.mono (apply_any wB1 nn um un ul x (HSR.out.kept hMc) (hNc.atM HMID.out) (by have := HMID.out.2.2; omega)) ?_
            rintro xx wB2 ⟨ym, yn, yl, rfl, hO2, hm⟩
            rw [apply_node] at hO2
            rw [apply_node, apply_err, ← HNA.out, ← HER.out]
            rw [← HNA.out] at hO2
            replace hO2 := hO2.low hsz
            replace hI := hI.mod hm id id id
            replace hMc := hMc.trans hm
            refine ⟨_, rfl, hI, hK _ _ ?_⟩
            clear hK K hm hsz hNc
            try go_frame
            iterate 3 (refine scw_quiet rfl (fun w' i_ K hK => by go_simp; exact hK) ?_; go_frame)
            obtain ⟨Q9, hQ⟩ : ∃ y, y = wB2.heap.size := ⟨_, rfl⟩
            obtain ⟨wB3, hw⟩ : ∃ y, y = wB2.alloc (.cells zeroNode 34) := ⟨_, rfl⟩
            have hm : Mod None_ wB2 wB3 := by rw [hw]; exact (Mod.refl _ wB2).alloc _
            have bQ : Blk wB3 Q9 34 zeroNode := by rw [hw, hQ]; exact Blk.new wB2 _ _
            have hQ1 : q4 < Q9 := by rw [hQ]; exact hI.1.lt
            have hQ2 : q5 < Q9 := by rw [hQ]; exact hI.2.1.lt
            have hQ4 : g < Q9 := by rw [hQ]; exact hI.2.2.1
            have hQ3 : wr.heap.size ≤ Q9 := by rw [hQ]; exact hMc.size
            replace hI := hI.mod hm id id id
            replace hMc := hMc.trans hm
            replace hO2 := hO2.kept hm
            refine scv_alloc rfl rfl 34 rfl (.agg zeroNode) zeroNodeV ?_ ?_
            · rw [show (Value.agg zeroNode).cells = zeroNode from rfl, ← hw]; exact hI
            rw [show (Value.agg zeroNode).cells = zeroNode from rfl, ← hw, ← hQ]
            try go_frame
            clear hw hQ hm
            have HIo := hide (infoNode NA ym yn yl)
            have HOo := hide (nodeOwn_one hO2)
            have hms : Mod (· = Q9) wB3 (wB3.setRow Q9 (nodeC NA ym yn yl)) := (Mod.refl (· = Q9) wB3).setRow (.inr rfl) _
            refine scv_storeRow rfl rfl 34 (.tmp 9) (.tmp 56) rfl Q9 (nodeC NA ym yn yl) rfl rfl 34 zeroNode bQ HIo.out rfl HOo.out (hI.mod hms (by omega) (by omega) (by omega)) ?_
            replace hO2 := hO2.store (cs' := (nodeC NA ym yn yl)) bQ
            replace bQ := bQ.row (nodeC NA ym yn yl)
            replace hMc := hMc.trans' hms (fun g hg e => by omega)
            obtain ⟨wB4, hw⟩ : ∃ y, y = wB3.setRow Q9 (nodeC NA ym yn yl) := ⟨_, rfl⟩
            rw [← hw] at hO2 bQ hMc ⊢
            try go_frame
            clear hw hms hI HIo HOo
            iterate 1 (refine scw_quiet rfl (fun w' i_ K hK => by go_simp; exact hK) ?_; go_frame)
            refine scw_nil ?_
            go_wp2_with fail
            go_meet
            exact ⟨Q9, ym, yn, yl, rfl, rfl, hQ3, bQ, hO2, hMc⟩
          · obtain ⟨Q9, hQ⟩ : ∃ y, y = wB1.heap.size := ⟨_, rfl⟩
            obtain ⟨wB2, hw⟩ : ∃ y, y = wB1.alloc (.cells zeroNode 34) := ⟨_, rfl⟩
            have hm : Mod None_ wB1 wB2 := by rw [hw]; exact (Mod.refl _ wB1).alloc _
            have bQ : Blk wB2 Q9 34 zeroNode := by rw [hw, hQ]; exact Blk.new wB1 _ _
            have hQ1 : q4 < Q9 := by rw [hQ]; exact hI.1.lt
            have hQ2 : q5 < Q9 := by rw [hQ]; exact hI.2.1.lt
            have hQ4 : g < Q9 := by rw [hQ]; exact hI.2.2.1
            have hQ3 : wr.heap.size ≤ Q9 := by rw [hQ]; exact hMc.size
            replace hI := hI.mod hm id id id
            replace hMc := hMc.trans hm
            replace hNc := hNc.kept hm
            refine scv_alloc rfl rfl 34 rfl (.agg zeroNode) zeroNodeV ?_ ?_
            · rw [show (Value.agg zeroNode).cells = zeroNode from rfl, ← hw]; exact hI
            rw [show (Value.agg zeroNode).cells = zeroNode from rfl, ← hw, ← hQ]
            try go_frame
            clear hw hQ hm
            have hsz := hMc.size
            refine scw_loud rfl (fun K hK => ?_)
            go_simp
            refine Calls.mono (apply_any wB2 nn um un ul x (HSR.out.kept hMc) (hNc.atM HMID.out) (by have := HMID.out.2.2; omega)) ?_
            rintro xx wB3 ⟨ym, yn, yl, rfl, hO2, hm⟩
            rw [apply_node] at hO2
            rw [apply_node, apply_err, ← HNA.out, ← HER.out]
            rw [← HNA.out] at hO2
            replace hO2 := hO2.low hsz
            replace hI := hI.mod hm id id id
            replace hMc := hMc.trans hm
            replace bQ := bQ.mod hm id
            refine ⟨_, rfl, hI, hK _ _ ?_⟩
            clear hK K hm hsz hNc
            try go_frame
            iterate 3 (refine scw_quiet rfl (fun w' i_ K hK => by go_simp; exact hK) ?_; go_frame)
            have HIo := hide (infoNode NA ym yn yl)
            have HOo := hide (nodeOwn_one hO2)
            have hms : Mod (· = Q9) wB3 (wB3.setRow Q9 (nodeC NA ym yn yl)) := (Mod.refl (· = Q9) wB3).setRow (.inr rfl) _
            refine scv_storeRow rfl rfl 34 (.tmp 9) (.tmp 56) rfl Q9 (nodeC NA ym yn yl) rfl rfl 34 zeroNode bQ HIo.out rfl HOo.out (hI.mod hms (by omega) (by omega) (by omega)) ?_
            replace hO2 := hO2.store (cs' := (nodeC NA ym yn yl)) bQ
            replace bQ := bQ.row (nodeC NA ym yn yl)
            replace hMc := hMc.trans' hms (fun g hg e => by omega)
            obtain ⟨wB4, hw⟩ : ∃ y, y = wB3.setRow Q9 (nodeC NA ym yn yl) := ⟨_, rfl⟩
            rw [← hw] at hO2 bQ hMc ⊢
            try go_frame
            clear hw hms hI HIo HOo
            iterate 1 (refine scw_quiet rfl (fun w' i_ K hK => by go_simp; exact hK) ?_; go_frame)
            refine scw_nil ?_
            go_wp2_with fail
            go_meet
            exact ⟨Q9, ym, yn, yl, rfl, rfl, hQ3, bQ, hO2, hMc⟩
        · obtain ⟨Q9, hQ⟩ : ∃ y, y = wA.heap.size := ⟨_, rfl⟩
          obtain ⟨wB1, hw⟩ : ∃ y, y = wA.alloc (.cells zeroNode 34) := ⟨_, rfl⟩
          have hm : Mod None_ wA wB1 := by rw [hw]; exact (Mod.refl _ wA).alloc _
          have bQ : Blk wB1 Q9 34 zeroNode := by rw [hw, hQ]; exact Blk.new wA _ _
          have hQ1 : q4 < Q9 := by rw [hQ]; exact hI.1.lt
          have hQ2 : q5 < Q9 := by rw [hQ]; exact hI.2.1.lt
          have hQ4 : g < Q9 := by rw [hQ]; exact hI.2.2.1
          have hQ3 : wr.heap.size ≤ Q9 := by rw [hQ]; exact hMc.size
          replace hI := hI.mod hm id id id
          replace hMc := hMc.trans hm
          refine scv_alloc rfl rfl 34 rfl (.agg zeroNode) zeroNodeV ?_ ?_
          · rw [show (Value.agg zeroNode).cells = zeroNode from rfl, ← hw]; exact hI
          rw [show (Value.agg zeroNode).cells = zeroNode from rfl, ← hw, ← hQ]
          try go_frame
          clear hw hQ hm
          refine scw_loud rfl (fun K hK => ?_)
          go_simp
          refine Calls.mono (lawCopyM wB1 nn xm xn xl (HNI.out.kept hMc) HMID.out) ?_
          rintro xx wB2 ⟨um, un, ul, rfl, hO1, hm⟩
          have hNc := hO1.in_ HNI.out
          replace hI := hI.mod hm id id id
          replace hMc := hMc.trans hm
          replace bQ := bQ.mod hm id
          refine ⟨_, rfl, hI, hK _ _ ?_⟩
          clear hK K hm hO1
          try go_frame
          have hsz := hMc.size
          refine scw_loud rfl (fun K hK => ?_)
          go_simp
          refine Calls.mono (apply_any wB2 nn um un ul x (HSR.out.kept hMc) (hNc.atM HMID.out) (by have := HMID.out.2.2; omega)) ?_
          rintro xx wB3 ⟨ym, yn, yl, rfl, hO2, hm⟩
          rw [apply_node] at hO2
          rw [apply_node, apply_err, ← HNA.out, ← HER.out]
          rw [← HNA.out] at hO2
          replace hO2 := hO2.low hsz
          replace hI := hI.mod hm id id id
          replace hMc := hMc.trans hm
          replace bQ := bQ.mod hm id
          refine ⟨_, rfl, hI, hK _ _ ?_⟩
          clear hK K hm hsz hNc
          try go_frame
          iterate 3 (refine scw_quiet rfl (fun w' i_ K hK => by go_simp; exact hK) ?_; go_frame)
          have HIo := hide (infoNode NA ym yn yl)
          have HOo := hide (nodeOwn_one hO2)
          have hms : Mod (· = Q9) wB3 (wB3.setRow Q9 (nodeC NA ym yn yl)) := (Mod.refl (· = Q9) wB3).setRow (.inr rfl) _
          refine scv_storeRow rfl rfl 34 (.tmp 9) (.tmp 56) rfl Q9 (nodeC NA ym yn yl) rfl rfl 34 zeroNode bQ HIo.out rfl HOo.out (hI.mod hms (by omega) (by omega) (by omega)) ?_
          replace hO2 := hO2.store (cs' := (nodeC NA ym yn yl)) bQ
          replace bQ := bQ.row (nodeC NA ym yn yl)
          replace hMc := hMc.trans' hms (fun g hg e => by omega)
          obtain ⟨wB4, hw⟩ : ∃ y, y = wB3.setRow Q9 (nodeC NA ym yn yl) := ⟨_, rfl⟩
          rw [← hw] at hO2 bQ hMc ⊢
          try go_frame
          clear hw hms hI HIo HOo
          iterate 1 (refine scw_quiet rfl (fun w' i_ K hK => by go_simp; exact hK) ?_; go_frame)
          refine scw_nil ?_
          go_wp2_with fail
          go_meet
          exact ⟨Q9, ym, yn, yl, rfl, rfl, hQ3, bQ, hO2, hMc⟩
      obtain ⟨q9, ym, yn, yl, rfl, rfl, h9, b9, hO9, hm9⟩ := hcut
      obtain ⟨w9, hw9⟩ : ∃ y, y = wc := ⟨_, rfl⟩
      rw [← hw9] at b9 hO9 hm9 ⊢
      clear hw9
      replace hI := hI.mod hm9 id id id
      have HN9 := hide (HNI.out.kept hm9)
      have HO9 := hide hO9
      have HM9 := hide hm9
      have HB9 := hide b9
      have hs9 := hm9.size
      clear hO9 hm9 b9
      go_upto_region 10 with fail
      go_cut [11, 12] from 58 to 67 (fun s11 s12 wx => AfterB w9 wx NA er (fun bm bn bl => Fresh w9 xm bm NA.map.length ∧ Fresh w9 xn bn NA.names.length ∧ Fresh w9 xl bl NA.log.length) s11 s12)
      case first =>
        refine region_sch sig10 (RI q4 q5 (nodeC nn xm xn xl) OC g (o + i * 8) (encEntry x)) (by kernel_rfl) (by kernel_rfl) ?_
        rintro wA hwA
        have hMc : Mod None_ w9 wA := by rw [hwA]; exact (Mod.refl _ w9).drew
        replace hI := hI.mod hMc id id id
        clear hwA
        refine ⟨hI, ?_⟩
        unfold sig10
        refine scw_qval rfl rfl (fun w' i_ => ex_load rfl (run_loadRow i_.1 Tryz.underlying34 rfl HI.out)) ?_
        go_frame
        iterate 4 (refine scw_quiet rfl (fun w' i_ K hK => by have j12 : w'.cell? ⟨q5, 12, none⟩ = some (.slice (some ⟨g, o, none⟩) es.length cc) := (by have := i_.2.1.cell 12; rw [HOC.out] at this; exact this); go_simp; exact hK) ?_; go_frame)
        refine scw_qval rfl rfl (fun w' i_ => ex_load rfl (run_loadAt_mid w' g (o + i * 8) 49 (encEntry x) _ i_.2.2.2 Tryz.underlying49 rfl (by kernel_rfl))) ?_
        go_frame
        refine scw_two ?_ ?_
        · have hsz := hMc.size
          have hN10 := HN9.out.kept hMc
          refine scw_loud rfl (fun K hK => ?_)
          go_simp
          refine Calls.mono (refApply_mid wA nn xm xn xl x hN10 HMID.out) ?_
          rintro xx wB1 ⟨ym, yn, yl, rfl, hLm, hLn, hLl, hm, hFm, hFn, hFl⟩
          have hO2 := NodeIn.nodeA hLm hLn hLl
          rw [← HNA.out] at hO2 hFm hFn hFl
          rw [← HNA.out, ← HER.out]
          clear hLm hLn hLl
          replace hFm := hFm.up hsz
          replace hFn := hFn.up hsz
          replace hFl := hFl.up hsz
          clear hN10
          replace hI := hI.mod hm id id id
          replace hMc := hMc.trans hm
          refine ⟨_, rfl, hI, hK _ _ ?_⟩
          clear hK K hm hsz
          try go_frame
          iterate 3 (refine scw_quiet rfl (fun w' i_ K hK => by go_simp; exact hK) ?_; go_frame)
          obtain ⟨Q9, hQ⟩ : ∃ y, y = wB1.heap.size := ⟨_, rfl⟩
          obtain ⟨wB2, hw⟩ : ∃ y, y = wB1.alloc (.cells zeroNode 34) := ⟨_, rfl⟩
          have hm : Mod None_ wB1 wB2 := by rw [hw]; exact (Mod.refl _ wB1).alloc _
          have bQ : Blk wB2 Q9 34 zeroNode := by rw [hw, hQ]; exact Blk.new wB1 _ _
          have hQ1 : q4 < Q9 := by rw [hQ]; exact hI.1.lt
          have hQ2 : q5 < Q9 := by rw [hQ]; exact hI.2.1.lt
          have hQ4 : g < Q9 := by rw [hQ]; exact hI.2.2.1
          have hQ3 : w9.heap.size ≤ Q9 := by rw [hQ]; exact hMc.size
          have hoff : NodeOff (· = Q9) NA ym yn yl := hO2.off_new (fun g e => by omega)
          replace hI := hI.mod hm id id id
          replace hMc := hMc.trans hm
          replace hO2 := hO2.kept hm
          refine scv_alloc rfl rfl 34 rfl (.agg zeroNode) zeroNodeV ?_ ?_
          · rw [show (Value.agg zeroNode).cells = zeroNode from rfl, ← hw]; exact hI
          rw [show (Value.agg zeroNode).cells = zeroNode from rfl, ← hw, ← hQ]
          try go_frame
          clear hw hQ hm
          have HIo := hide (infoNode NA ym yn yl)
          have HOo := hide (nodeIn_one hO2)
          have hms : Mod (· = Q9) wB2 (wB2.setRow Q9 (nodeC NA ym yn yl)) := (Mod.refl (· = Q9) wB2).setRow (.inr rfl) _
          refine scv_storeRow rfl rfl 34 (.tmp 11) (.tmp 66) rfl Q9 (nodeC NA ym yn yl) rfl rfl 34 zeroNode bQ HIo.out rfl HOo.out (hI.mod hms (by omega) (by omega) (by omega)) ?_
          replace hO2 := hO2.modO hms hoff
          replace bQ := bQ.row (nodeC NA ym yn yl)
          replace hMc := hMc.trans' hms (fun g hg e => by omega)
          obtain ⟨wB3, hw⟩ : ∃ y, y = wB2.setRow Q9 (nodeC NA ym yn yl) := ⟨_, rfl⟩
          rw [← hw] at hO2 bQ hMc ⊢
          try go_frame
          clear hw hms hI HIo HOo
          iterate 1 (refine scw_quiet rfl (fun w' i_ K hK => by go_simp; exact hK) ?_; go_frame)
          refine scw_nil ?_
          go_wp2_with fail
          go_meet
          exact ⟨Q9, ym, yn, yl, rfl, rfl, hQ3, bQ, hO2, ⟨hFm, hFn, hFl⟩, hMc⟩
        · obtain ⟨Q9, hQ⟩ : ∃ y, y = wA.heap.size := ⟨_, rfl⟩
          obtain ⟨wB1, hw⟩ : ∃ y, y = wA.alloc (.cells zeroNode 34) := ⟨_, rfl⟩
          have hm : Mod None_ wA wB1 := by rw [hw]; exact (Mod.refl _ wA).alloc _
          have bQ : Blk wB1 Q9 34 zeroNode := by rw [hw, hQ]; exact Blk.new wA _ _
          have hQ1 : q4 < Q9 := by rw [hQ]; exact hI.1.lt
          have hQ2 : q5 < Q9 := by rw [hQ]; exact hI.2.1.lt
          have hQ4 : g < Q9 := by rw [hQ]; exact hI.2.2.1
          have hQ3 : w9.heap.size ≤ Q9 := by rw [hQ]; exact hMc.size
          replace hI := hI.mod hm id id id
          replace hMc := hMc.trans hm
          refine scv_alloc rfl rfl 34 rfl (.agg zeroNode) zeroNodeV ?_ ?_
          · rw [show (Value.agg zeroNode).cells = zeroNode from rfl, ← hw]; exact hI
          rw [show (Value.agg zeroNode).cells = zeroNode from rfl, ← hw, ← hQ]
          try go_frame
          clear hw hQ hm
          have hsz := hMc.size
          have hN10 := HN9.out.kept hMc
          refine scw_loud rfl (fun K hK => ?_)
          go_simp
          refine Calls.mono (refApply_mid wB1 nn xm xn xl x hN10 HMID.out) ?_
          rintro xx wB2 ⟨ym, yn, yl, rfl, hLm, hLn, hLl, hm, hFm, hFn, hFl⟩
          have hO2 := NodeIn.nodeA hLm hLn hLl
          rw [← HNA.out] at hO2 hFm hFn hFl
          rw [← HNA.out, ← HER.out]
          clear hLm hLn hLl
          have hoff : NodeOff (· = Q9) NA ym yn yl := fresh_off hFm hFn hFl HN9.out hO2 (HN9.out.off_new fun g e => by omega) (fun g e => by have := bQ.lt; omega)
          replace hFm := hFm.up hsz
          replace hFn := hFn.up hsz
          replace hFl := hFl.up hsz
          clear hN10
          replace hI := hI.mod hm id id id
          replace hMc := hMc.trans hm
          replace bQ := bQ.mod hm id
          refine ⟨_, rfl, hI, hK _ _ ?_⟩
          clear hK K hm hsz
          try go_frame
          iterate 3 (refine scw_quiet rfl (fun w' i_ K hK => by go_simp; exact hK) ?_; go_frame)
          have HIo := hide (infoNode NA ym yn yl)
          have HOo := hide (nodeIn_one hO2)
          have hms : Mod (· = Q9) wB2 (wB2.setRow Q9 (nodeC NA ym yn yl)) := (Mod.refl (· = Q9) wB2).setRow (.inr rfl) _
          refine scv_storeRow rfl rfl 34 (.tmp 11) (.tmp 66) rfl Q9 (nodeC NA ym yn yl) rfl rfl 34 zeroNode bQ HIo.out rfl HOo.out (hI.mod hms (by omega) (by omega) (by omega)) ?_
          replace hO2 := hO2.modO hms hoff
          replace bQ := bQ.row (nodeC NA ym yn yl)
          replace hMc := hMc.trans' hms (fun g hg e => by omega)
          obtain ⟨wB3, hw⟩ : ∃ y, y = wB2.setRow Q9 (nodeC NA ym yn yl) := ⟨_, rfl⟩
          rw [← hw] at hO2 bQ hMc ⊢
          try go_frame
          clear hw hms hI HIo HOo
          iterate 1 (refine scw_quiet rfl (fun w' i_ K hK => by go_simp; exact hK) ?_; go_frame)
          refine scw_nil ?_
          go_wp2_with fail
          go_meet
          exact ⟨Q9, ym, yn, yl, rfl, rfl, hQ3, bQ, hO2, ⟨hFm, hFn, hFl⟩, hMc⟩
      obtain ⟨q11, bm, bn, bl, rfl, rfl, h11, b11, hN11, ⟨hF1, hF2, hF3⟩, hm10⟩ := hcut
      obtain ⟨w11, hw11⟩ : ∃ y, y = wc := ⟨_, rfl⟩
      rw [← hw11] at b11 hN11 hm10 ⊢
      clear hw11 hI
      have HB11 := hide b11
      have HN11 := hide hN11
      have HM10 := hide hm10
      have HF1 := hide hF1
      have HF2 := hide hF2
      have HF3 := hide hF3
      have HO11 := hide (HO9.out.kept hm10)
      have hO11 := HO11.out
      have HNA11 := hide (show NodeIn w11 NA ym yn yl from by have := HNA.out; subst this; exact hO11.in_A)
      have hs11 := hm10.size
      have HB9b := hide (HB9.out.mod hm10 id)
      clear b11 hN11 hm10 hF1 hF2 hF3 hO11
      have u0 : w11.cell? ⟨q9, 0, none⟩ = some (.int .i64 NA.ino) := HB9b.out.cell 0
      have u1 : w11.cell? ⟨q9, 1, none⟩ = some (.int .i64 NA.kind) := HB9b.out.cell 1
      have u2 : w11.cell? ⟨q9, 2, none⟩ = some (.int .i64 NA.links) := HB9b.out.cell 2
      have u3 : w11.cell? ⟨q9, 3, none⟩ = some (.int .i64 NA.size) := HB9b.out.cell 3
      have u4 : w11.cell? ⟨q9, 4, none⟩ = some (ym) := HB9b.out.cell 4
      have u5 : w11.cell? ⟨q9, 5, none⟩ = some (yn) := HB9b.out.cell 5
      have u6 : w11.cell? ⟨q9, 6, none⟩ = some (.int .i64 NA.head) := HB9b.out.cell 6
      have u7 : w11.cell? ⟨q9, 7, none⟩ = some (.int .i64 NA.tail) := HB9b.out.cell 7
      have u8 : w11.cell? ⟨q9, 8, none⟩ = some (yl) := HB9b.out.cell 8
      have u9 : w11.cell? ⟨q9, 9, none⟩ = some (.int .i64 NA.entries) := HB9b.out.cell 9
      have v0 : w11.cell? ⟨q11, 0, none⟩ = some (.int .i64 NA.ino) := HB11.out.cell 0
      have v1 : w11.cell? ⟨q11, 1, none⟩ = some (.int .i64 NA.kind) := HB11.out.cell 1
      have v2 : w11.cell? ⟨q11, 2, none⟩ = some (.int .i64 NA.links) := HB11.out.cell 2
      have v3 : w11.cell? ⟨q11, 3, none⟩ = some (.int .i64 NA.size) := HB11.out.cell 3
      have v4 : w11.cell? ⟨q11, 4, none⟩ = some (bm) := HB11.out.cell 4
      have v5 : w11.cell? ⟨q11, 5, none⟩ = some (bn) := HB11.out.cell 5
      have v6 : w11.cell? ⟨q11, 6, none⟩ = some (.int .i64 NA.head) := HB11.out.cell 6
      have v7 : w11.cell? ⟨q11, 7, none⟩ = some (.int .i64 NA.tail) := HB11.out.cell 7
      have v8 : w11.cell? ⟨q11, 8, none⟩ = some (bl) := HB11.out.cell 8
      have v9 : w11.cell? ⟨q11, 9, none⟩ = some (.int .i64 NA.entries) := HB11.out.cell 9
      go_wp2_with fail
      have HSN := hide (lawSameNode w11 NA ym yn yl bm bn bl HNA11.out HN11.out)
      refine Calls.mono HSN.out ?_
      rintro xx w12 ⟨rfl, hm11⟩
      clear HSN u0 u1 u2 u3 u4 u5 u6 u7 u8 u9 v0 v1 v2 v3 v4 v5 v6 v7 v8 v9
      have hmA : Mod None_ wr w12 := (HM9.out.trans HM10.out).trans hm11
      have hs12 := hmA.size
      have hs12b := hm11.size
      have HO12 := hide (HO11.out.kept hm11)
      have HB9c := hide (HB9b.out.mod hm11 id)
      have HB11c := hide (HB11.out.mod hm11 id)
      have HN12 := hide (HN11.out.kept hm11)
      obtain ⟨v0, v1, v2, v3, v4, v5, v6, v7, hB, hlo, hNn, hOn, hUn⟩ := HPP.out
      have hB12 := hB.kept hmA
      have hll := HUA.out.mid (by omega)
      obtain ⟨hll1, hll2, hll3⟩ := hll
      have HKN := hide (keepNode_any w12 Q wr.heap.size v0 v1 v2 v3 v4 v5 v6 v7 ym yn yl NA (kR + i) (kN + i) kE hB12 HO12.out (by omega) (by omega) hs12 (by omega) (by omega) (by omega))
      have hLn : NodeOff (NodeLS ym yn yl) nn xm xn xl := hNn.off_new fun g hg => (HO12.out.ls_ge hg).1
      have hbk : ∀ g, XX X0 q4 q6 g ∨ BkO Q v0 v1 v2 v3 v4 v5 v6 v7 g → g < w9.heap.size := fun g hg => by
        rcases hg with (h | h | h) | h
        · have := hX0 g h; omega
        · omega
        · omega
        · have := bko_lt hB h; omega
      have hOb := fresh_off HF1.out HF2.out HF3.out hNn HN12.out hOn hbk
      have hLb := fresh_off HF1.out HF2.out HF3.out hNn HN12.out hLn fun g hg => (HO9.out.ls_ge hg).2
      have n4 : ¬ (NodeLS ym yn yl q4 ∨ BkO Q v0 v1 v2 v3 v4 v5 v6 v7 q4) := fun h => h.elim (HO12.out.ls_ne (HB4.out.mod hmA id) (by decide) (by decide) (by decide)) (bko_ne hB HB4.out (by decide) (by decide) (by decide) (by decide) (by decide))
      have n5 : ¬ (NodeLS ym yn yl q5 ∨ BkO Q v0 v1 v2 v3 v4 v5 v6 v7 q5) := fun h => h.elim (HO12.out.ls_ne (HB5.out.mod hmA id) (by decide) (by decide) (by decide)) (bko_ne hB HB5.out (by decide) (by decide) (by decide) (by decide) (by decide))
      have n6 : ¬ (NodeLS ym yn yl q6 ∨ BkO Q v0 v1 v2 v3 v4 v5 v6 v7 q6) := fun h => h.elim (HO12.out.ls_ne (HB6.out.mod hmA id) (by decide) (by decide) (by decide)) (bko_ne hB HB6.out (by decide) (by decide) (by decide) (by decide) (by decide))
      have n11 : ¬ (NodeLS ym yn yl q11 ∨ BkO Q v0 v1 v2 v3 v4 v5 v6 v7 q11) := fun h => h.elim (HO12.out.ls_ne HB11c.out (by decide) (by decide) (by decide)) (bko_ne hB12 HB11c.out (by decide) (by decide) (by decide) (by decide) (by decide))
      have hm0r : ∀ g, w12.heap.size ≤ g → Z g := fun g hg => hZ g (by omega)
      have HNX := hide (fun (w13 : World) hp => play_next (w' := w13) (kR' := kR + i + 1) (kN' := kN + i + 1) (kE' := kE) (X := XX X0 q4 q6) hB12 hlo (hNn.kept hmA) hOn hLn hUn hm0r hp)
      have HNY := hide (fun (w13 : World) hp => play_next (w' := w13) (kR' := kR + i + 1) (kN' := kN + i + 1) (kE' := kE) (X := XX X0 q4 q6) hB12 hlo HN12.out hOb hLb HUA.out hm0r hp)
      have HLO := hide hlo
      have HMA := hide hmA
      have HIA := hide (infoNode NA ym yn yl)
      clear hB hlo hNn hOn hUn hB12 hLn hbk hOb hLb hmA hm11 hm0r HPP HSR
      go_wp2_with ((with_reducible refine at_slot 79 ?_); refine wpList_val rfl (ex_load rfl (run_loadRow HB9c.out Tryz.underlying34 rfl HIA.out)) ?_; go_frame)
      refine Calls.mono HKN.out ?_
      rintro xx w13 ⟨rfl, hkp⟩
      have HPX := hide (HNX.out w13 hkp)
      have HPY := hide (HNY.out w13 hkp)
      obtain ⟨_, _, _, _, _, _, _, _, _, hmk, _⟩ := hkp
      have b4 := (HB4.out.mod HMA.out id).mod hmk n4
      have b5 := (HB5.out.mod HMA.out id).mod hmk n5
      have b6 := (HB6.out.mod HMA.out id).mod hmk n6
      have b11 := HB11c.out.mod hmk n11
      have hM13 := (HMW.out.trans HMA.out.none).trans' hmk (fun g _ hg => hg.elim (fun h => hZ g (by have := (HO12.out.ls_ge h).1; omega)) (HLO.out g))
      clear HKN HNX HNY HLO n4 n5 n6 n11 hmk HO12 HN12 HN11 HNA11 HO11 HB9c HB9b HB11c HB11 HM9 HM10 HF1 HF2 HF3 HB4 HB5 HB6 HMA HMW HIA
      by_cases hz : er = 0
      · have HZ := hide hz
        have HIB := hide (infoNode NA bm bn bl)
        have HOB := hide (nodeIn_one HPY.out.in_)
        have hmr : Mod (· = q4) w13 (w13.setRow q4 (nodeC NA bm bn bl)) := (Mod.refl (· = q4) w13).setRow (.inr rfl) _
        have HPZ := hide (HPY.out.node b4 (.inr (.inl rfl)) hmr)
        have HM14 := hide (hM13.trans' hmr (fun g hg e => by subst e; exact h4m))
        have b5z := b5.mod hmr (by omega)
        have b6z := b6.mod hmr (by omega)
        have b4z := b4.row (nodeC NA bm bn bl)
        clear hmr hM13
        go_wp2_with (first
          | ((with_reducible refine at_slot 83 ?_); refine wpList_val rfl (ex_load rfl (run_loadRow b11 Tryz.underlying34 rfl HIB.out)) ?_; go_frame)
          | ((with_reducible refine at_none 34 4 83 ?_); refine wpList_store_row rfl 34 (.tmp 4) (.tmp 83) rfl q4 (nodeC NA bm bn bl) rfl rfl 34 _ b4 HIB.out rfl HOB.out ?_; go_frame))
        go_roundw
        case rel => exact ⟨i + 1, NA, bm, bn, bl, by simp, by omega, by omega, b4z, b5z, b6z, HPZ.out, HM14.out⟩
        case measure => simp [intOf]; omega
      · have HM13 := hide hM13
        clear hM13
        go_wp2_with fail
        go_roundw
        case rel => exact ⟨i + 1, nn, xm, xn, xl, by simp, by omega, by omega, b4, b5, b6, HPX.out.weak (fun _ h => h) (by omega), HM13.out⟩
        case measure => simp [intOf]; omega
    · have hie : ¬ ((i : Int) < es.length ∧ (i : Int) < 100) := by omega
      have HP := hide hP
      have HM := hide hM
      clear hP hM
      by_cases hlt1 : i < es.length
      · have hi3 : (i : Int) < es.length := by omega
        have hi4 : ¬ (i : Int) < 100 := by omega
        have HIe := hide (infoNode nn xm xn xl)
        have HOe := hide (nodeIn_one HP.out.in_)
        have hmr : Mod (· = q6) wr (wr.setRow q6 (nodeC nn xm xn xl)) := (Mod.refl (· = q6) wr).setRow (.inr rfl) _
        have HF : Hid (PlaysPost Z X0 w Q kR kN kE c (.returned (.tuple #[.agg (nodeC nn xm xn xl), .bool true])) (wr.setRow q6 (nodeC nn xm xn xl))) := hide ⟨nn, xm, xn, xl, (kR + i), (kN + i), kE, rfl, (HP.out.node b6 (.inr (.inr rfl)) hmr).weak (fun _ f => .inl f) (by omega), HM.out.trans' hmr (fun g hg e => by subst e; exact h6m), by omega, by omega, by omega⟩
        have HB := hide (b6.row (nodeC nn xm xn xl))
        clear hmr
        go_wp2_with (first
          | ((with_reducible refine at_slot 166 ?_); refine wpList_val rfl (ex_load rfl (run_loadRow b4 Tryz.underlying34 rfl HIe.out)) ?_; go_frame)
          | ((with_reducible refine at_none 34 6 166 ?_); refine wpList_store_row rfl 34 (.tmp 6) (.tmp 166) rfl q6 (nodeC nn xm xn xl) rfl rfl 34 zeroNode b6 HIe.out rfl HOe.out ?_; go_frame))
        have hl := run_loadVar_row (P := Tryz.prog) _ q6 34 34 _ (0, 0) _ HB.out Tryz.underlying34 rfl HIe.out
        exact ⟨rfl, .tuple #[.agg (nodeC nn xm xn xl), .bool true], by simp [results, Tryz.results4, asAddr, hl], HF.out⟩
      · have hi3 : ¬ (i : Int) < es.length := by omega
        have HIe := hide (infoNode nn xm xn xl)
        have HOe := hide (nodeIn_one HP.out.in_)
        have hmr : Mod (· = q6) wr (wr.setRow q6 (nodeC nn xm xn xl)) := (Mod.refl (· = q6) wr).setRow (.inr rfl) _
        have HF : Hid (PlaysPost Z X0 w Q kR kN kE c (.returned (.tuple #[.agg (nodeC nn xm xn xl), .bool true])) (wr.setRow q6 (nodeC nn xm xn xl))) := hide ⟨nn, xm, xn, xl, (kR + i), (kN + i), kE, rfl, (HP.out.node b6 (.inr (.inr rfl)) hmr).weak (fun _ f => .inl f) (by omega), HM.out.trans' hmr (fun g hg e => by subst e; exact h6m), by omega, by omega, by omega⟩
        have HB := hide (b6.row (nodeC nn xm xn xl))
        clear hmr
        go_wp2_with (first
          | ((with_reducible refine at_slot 166 ?_); refine wpList_val rfl (ex_load rfl (run_loadRow b4 Tryz.underlying34 rfl HIe.out)) ?_; go_frame)
          | ((with_reducible refine at_none 34 6 166 ?_); refine wpList_store_row rfl 34 (.tmp 6) (.tmp 166) rfl q6 (nodeC nn xm xn xl) rfl rfl 34 zeroNode b6 HIe.out rfl HOe.out ?_; go_frame))
        have hl := run_loadVar_row (P := Tryz.prog) _ q6 34 34 _ (0, 0) _ HB.out Tryz.underlying34 rfl HIe.out
        exact ⟨rfl, .tuple #[.agg (nodeC nn xm xn xl), .bool true], by simp [results, Tryz.results4, asAddr, hl], HF.out⟩
  by_cases k3 : k = 3
  · subst k3
    have hlE := HE.out
    have j12 : w0.cell? ⟨q5, 12, none⟩ = some (.slice A es.length cc) := by have := b5.cell 12; rw [HOC.out] at this; exact this
    have hpre := b5.lt
    have HCE := hide (copyEntries_any w0 _ es hlE (by omega))
    clear hlE
    go_wp2_with fail
    refine Calls.mono HCE.out ?_
    rintro xx w1 ⟨v1, rfl, hown, hm1⟩
    clear HCE
    have hli := list_of_ownRow (enc := encEntry) (fun _ => rfl) hown
    obtain ⟨A1, c1, rfl⟩ := own_slice hown
    replace HP := hide (HP.out.kept hm1)
    replace HM := hide (HM.out.trans hm1.none)
    have HS1 := hide (HS.out.kept hm1)
    replace b4 := b4.mod hm1 id
    replace b5 := b5.mod hm1 id
    replace b6 := b6.mod hm1 id
    have hln1 : ∀ w, (Builtin.len_ #[37] 3 #[.slice A1 es.length c1]).run Tryz.prog w = .ok (.int .i64 es.length) w := fun w => by simp [Builtin.len_, run_underlying Tryz.underlying37]; rfl
    clear hown hm1 j0 j12 hpre HN HE HS
    obtain ⟨bb, hbb⟩ : ∃ bb, decide ((100 : Int) < es.length) = bb := ⟨_, rfl⟩
    go_upto_if 91 with fail
    go_cut [13] from 92 to 93 (fun s13 wx => ∃ v, s13 = v ∧ ListAt encEntry 8 wx v (es.take 100) ∧ wx = w1)
    case first =>
      cases bb with
      | true =>
        have hgt : (100 : Int) < es.length := of_decide_eq_true hbb
        have hsp : es.take 100 ++ es.drop 100 = es := List.take_append_drop 100 es
        have hl100 : (es.take 100).length = 100 := by rw [List.length_take]; omega
        have hf : ListAt encEntry 8 w1 (.slice A1 100 c1) (es.take 100) := by
          have := ListAt.frontB (enc := encEntry) (sz := 8) (w := w1) (A := A1) (c := c1) (l := es.take 100) (m := es.drop 100) (by rw [hsp]; exact hli)
          rw [hl100] at this
          exact this
        obtain ⟨_, _, hcv, hc1, _, _⟩ := id hli
        simp only [Value.slice.injEq, true_and] at hcv
        obtain ⟨rfl, rfl⟩ := hcv
        have hc100 : (100 : Int) ≤ c1 := by omega
        have hc100n : 100 ≤ c1 := by omega
        have HF := hide hf
        clear hf hsp hl100 hli
        go_wp2_with fail
        go_meet
        exact ⟨_, rfl, HF.out, rfl⟩
      | false =>
        have hgt : ¬ (100 : Int) < es.length := of_decide_eq_false hbb
        have ht : es.take 100 = es := List.take_of_length_le (by omega)
        have HF := hide (show ListAt encEntry 8 w1 (.slice A1 es.length c1) (es.take 100) by rw [ht]; exact hli)
        clear ht hli
        go_wp2_with fail
        go_meet
        exact ⟨_, rfl, HF.out, rfl⟩
    obtain ⟨v13, rfl, hL, rfl⟩ := hcut
    clear hli hln1 hbb
    obtain ⟨L, hLe⟩ : ∃ L, L = es.take 100 := ⟨_, rfl⟩
    rw [← hLe] at hL
    have hlL : L.length ≤ 100 := by rw [hLe, List.length_take]; omega
    clear hLe
    obtain ⟨A3, c3, rfl, hc31, hc32, _⟩ := id hL
    obtain ⟨w2, hw2⟩ : ∃ y, y = wc := ⟨_, rfl⟩
    rw [← hw2] at hL HP HM HS1 b4 b5 b6 ⊢
    clear hw2
    obtain ⟨NB, hNB⟩ : ∃ y, y = replayN K L := ⟨_, rfl⟩
    obtain ⟨er, her⟩ : ∃ y, y = replayErr K L := ⟨_, rfl⟩
    have hUB : UptoN 0 NB := by rw [hNB]; exact replay_upto K L (by omega)
    have hFB := replay_nodeB K L
    rw [← hNB] at hFB
    have HNB := hide hNB
    have HER := hide her
    have HLL := hide hL
    have HFB := hide hFB
    clear hNB her hL hFB
    go_upto_region 20 with fail
    have hI : Blk w2 q5 39 OC := b5
    go_cut [14, 15] from 94 to 101 (fun s14 s15 wx => AfterB w2 wx NB er (fun bm bn bl => NodeOff (· < w2.heap.size) NB bm bn bl) s14 s15)
    case first =>
      refine region_sch sig20 (fun w' => Blk w' q5 39 OC) (by kernel_rfl) (by kernel_rfl) ?_
      rintro wA hwA
      have hMc : Mod None_ w2 wA := by rw [hwA]; exact (Mod.refl _ w2).drew
      replace hI := hI.mod hMc id
      clear hwA
      refine ⟨hI, ?_⟩
      unfold sig20
      iterate 3 (refine scw_quiet rfl (fun w' i_ K_ hK => by have j11 : w'.cell? ⟨q5, 11, none⟩ = some (.int .i64 K) := (by have := i_.cell 11; rw [HOC.out] at this; exact this); go_simp; exact hK) ?_; go_frame)
      refine scw_two ?_ ?_
      · refine scw_loud rfl (fun K_ hK => ?_)
        go_simp
        refine Calls.mono (copyEntries_any wA _ L (HLL.out.kept hMc) (by omega)) ?_
        rintro xx wB1 ⟨u1, rfl, hO1, hm⟩
        have hLc := list_of_ownRow (enc := encEntry) (fun _ => rfl) hO1
        replace hI := hI.mod hm id
        replace hMc := hMc.trans hm
        refine ⟨_, rfl, hI, hK _ _ ?_⟩
        clear hK K_ hm hO1
        try go_frame
        refine scw_two ?_ ?_
        · have hsz := hMc.size
          refine scw_loud rfl (fun K_ hK => ?_)
          go_simp
          refine Calls.mono (refReplay_fresh wB1 K _ L hLc (by omega)) ?_
          rintro xx wB2 ⟨ym, yn, yl, rfl, hLm, hLn, hLl, hm⟩
          rw [← HNB.out] at hLm hLn hLl
          rw [← HNB.out, ← HER.out]
          have hO2 : NodeIn wB2 NB ym yn yl := ⟨hLm.1, hLn.1, hLl.1, HFB.out.1, HFB.out.2.1, HFB.out.2.2⟩
          have hof : NodeOff (· < wB1.heap.size) NB ym yn yl := ⟨fun h0 g hg hs => by have := hLm.2 h0 g hg; omega, fun h0 g hg hs => by have := hLn.2 h0 g hg; omega, fun h0 g hg hs => by have := hLl.2 h0 g hg; omega⟩
          clear hLm hLn hLl
          replace hof := hof.mono (T := (· < w2.heap.size)) fun g hg => Nat.lt_of_lt_of_le hg hsz
          replace hI := hI.mod hm id
          replace hMc := hMc.trans hm
          refine ⟨_, rfl, hI, hK _ _ ?_⟩
          clear hK K_ hm hsz hLc
          try go_frame
          iterate 3 (refine scw_quiet rfl (fun w' i_ K_ hK => by go_simp; exact hK) ?_; go_frame)
          obtain ⟨Q9, hQ⟩ : ∃ y, y = wB2.heap.size := ⟨_, rfl⟩
          obtain ⟨wB3, hw⟩ : ∃ y, y = wB2.alloc (.cells zeroNode 34) := ⟨_, rfl⟩
          have hm : Mod None_ wB2 wB3 := by rw [hw]; exact (Mod.refl _ wB2).alloc _
          have bQ : Blk wB3 Q9 34 zeroNode := by rw [hw, hQ]; exact Blk.new wB2 _ _
          have hQ2 : q5 < Q9 := by rw [hQ]; exact hI.lt
          have hQ3 : w2.heap.size ≤ Q9 := by rw [hQ]; exact hMc.size
          have hoff : NodeOff (· = Q9) NB ym yn yl := hO2.off_new (fun g e => by omega)
          replace hI := hI.mod hm id
          replace hMc := hMc.trans hm
          replace hO2 := hO2.kept hm
          refine scv_alloc rfl rfl 34 rfl (.agg zeroNode) zeroNodeV ?_ ?_
          · rw [show (Value.agg zeroNode).cells = zeroNode from rfl, ← hw]; exact hI
          rw [show (Value.agg zeroNode).cells = zeroNode from rfl, ← hw, ← hQ]
          try go_frame
          clear hw hQ hm
          have HIo := hide (infoNode NB ym yn yl)
          have HOo := hide (nodeIn_one hO2)
          have hms : Mod (· = Q9) wB3 (wB3.setRow Q9 (nodeC NB ym yn yl)) := (Mod.refl (· = Q9) wB3).setRow (.inr rfl) _
          refine scv_storeRow rfl rfl 34 (.tmp 14) (.tmp 100) rfl Q9 (nodeC NB ym yn yl) rfl rfl 34 zeroNode bQ HIo.out rfl HOo.out (hI.mod hms (by omega)) ?_
          replace hO2 := hO2.modO hms hoff
          replace bQ := bQ.row (nodeC NB ym yn yl)
          replace hMc := hMc.trans' hms (fun g hg e => by omega)
          obtain ⟨wB4, hw⟩ : ∃ y, y = wB3.setRow Q9 (nodeC NB ym yn yl) := ⟨_, rfl⟩
          rw [← hw] at hO2 bQ hMc ⊢
          try go_frame
          clear hw hms hI HIo HOo
          iterate 1 (refine scw_quiet rfl (fun w' i_ K_ hK => by go_simp; exact hK) ?_; go_frame)
          refine scw_nil ?_
          go_wp2_with fail
          go_meet
          exact ⟨Q9, ym, yn, yl, rfl, rfl, hQ3, bQ, hO2, hof, hMc⟩
        · obtain ⟨Q9, hQ⟩ : ∃ y, y = wB1.heap.size := ⟨_, rfl⟩
          obtain ⟨wB2, hw⟩ : ∃ y, y = wB1.alloc (.cells zeroNode 34) := ⟨_, rfl⟩
          have hm : Mod None_ wB1 wB2 := by rw [hw]; exact (Mod.refl _ wB1).alloc _
          have bQ : Blk wB2 Q9 34 zeroNode := by rw [hw, hQ]; exact Blk.new wB1 _ _
          have hQ2 : q5 < Q9 := by rw [hQ]; exact hI.lt
          have hQ3 : w2.heap.size ≤ Q9 := by rw [hQ]; exact hMc.size
          replace hI := hI.mod hm id
          replace hMc := hMc.trans hm
          replace hLc := hLc.kept hm
          refine scv_alloc rfl rfl 34 rfl (.agg zeroNode) zeroNodeV ?_ ?_
          · rw [show (Value.agg zeroNode).cells = zeroNode from rfl, ← hw]; exact hI
          rw [show (Value.agg zeroNode).cells = zeroNode from rfl, ← hw, ← hQ]
          try go_frame
          clear hw hQ hm
          have hsz := hMc.size
          refine scw_loud rfl (fun K_ hK => ?_)
          go_simp
          refine Calls.mono (refReplay_fresh wB2 K _ L hLc (by omega)) ?_
          rintro xx wB3 ⟨ym, yn, yl, rfl, hLm, hLn, hLl, hm⟩
          rw [← HNB.out] at hLm hLn hLl
          rw [← HNB.out, ← HER.out]
          have hO2 : NodeIn wB3 NB ym yn yl := ⟨hLm.1, hLn.1, hLl.1, HFB.out.1, HFB.out.2.1, HFB.out.2.2⟩
          have hof : NodeOff (· < wB2.heap.size) NB ym yn yl := ⟨fun h0 g hg hs => by have := hLm.2 h0 g hg; omega, fun h0 g hg hs => by have := hLn.2 h0 g hg; omega, fun h0 g hg hs => by have := hLl.2 h0 g hg; omega⟩
          clear hLm hLn hLl
          have hoff : NodeOff (· = Q9) NB ym yn yl := hof.mono fun g e => by have := bQ.lt; omega
          replace hof := hof.mono (T := (· < w2.heap.size)) fun g hg => Nat.lt_of_lt_of_le hg hsz
          replace hI := hI.mod hm id
          replace hMc := hMc.trans hm
          replace bQ := bQ.mod hm id
          refine ⟨_, rfl, hI, hK _ _ ?_⟩
          clear hK K_ hm hsz hLc
          try go_frame
          iterate 3 (refine scw_quiet rfl (fun w' i_ K_ hK => by go_simp; exact hK) ?_; go_frame)
          have HIo := hide (infoNode NB ym yn yl)
          have HOo := hide (nodeIn_one hO2)
          have hms : Mod (· = Q9) wB3 (wB3.setRow Q9 (nodeC NB ym yn yl)) := (Mod.refl (· = Q9) wB3).setRow (.inr rfl) _
          refine scv_storeRow rfl rfl 34 (.tmp 14) (.tmp 100) rfl Q9 (nodeC NB ym yn yl) rfl rfl 34 zeroNode bQ HIo.out rfl HOo.out (hI.mod hms (by omega)) ?_
          replace hO2 := hO2.modO hms hoff
          replace bQ := bQ.row (nodeC NB ym yn yl)
          replace hMc := hMc.trans' hms (fun g hg e => by omega)
          obtain ⟨wB4, hw⟩ : ∃ y, y = wB3.setRow Q9 (nodeC NB ym yn yl) := ⟨_, rfl⟩
          rw [← hw] at hO2 bQ hMc ⊢
          try go_frame
          clear hw hms hI HIo HOo
          iterate 1 (refine scw_quiet rfl (fun w' i_ K_ hK => by go_simp; exact hK) ?_; go_frame)
          refine scw_nil ?_
          go_wp2_with fail
          go_meet
          exact ⟨Q9, ym, yn, yl, rfl, rfl, hQ3, bQ, hO2, hof, hMc⟩
      · obtain ⟨Q9, hQ⟩ : ∃ y, y = wA.heap.size := ⟨_, rfl⟩
        obtain ⟨wB1, hw⟩ : ∃ y, y = wA.alloc (.cells zeroNode 34) := ⟨_, rfl⟩
        have hm : Mod None_ wA wB1 := by rw [hw]; exact (Mod.refl _ wA).alloc _
        have bQ : Blk wB1 Q9 34 zeroNode := by rw [hw, hQ]; exact Blk.new wA _ _
        have hQ2 : q5 < Q9 := by rw [hQ]; exact hI.lt
        have hQ3 : w2.heap.size ≤ Q9 := by rw [hQ]; exact hMc.size
        replace hI := hI.mod hm id
        replace hMc := hMc.trans hm
        refine scv_alloc rfl rfl 34 rfl (.agg zeroNode) zeroNodeV ?_ ?_
        · rw [show (Value.agg zeroNode).cells = zeroNode from rfl, ← hw]; exact hI
        rw [show (Value.agg zeroNode).cells = zeroNode from rfl, ← hw, ← hQ]
        try go_frame
        clear hw hQ hm
        refine scw_loud rfl (fun K_ hK => ?_)
        go_simp
        refine Calls.mono (copyEntries_any wB1 _ L (HLL.out.kept hMc) (by omega)) ?_
        rintro xx wB2 ⟨u1, rfl, hO1, hm⟩
        have hLc := list_of_ownRow (enc := encEntry) (fun _ => rfl) hO1
        replace hI := hI.mod hm id
        replace hMc := hMc.trans hm
        replace bQ := bQ.mod hm id
        refine ⟨_, rfl, hI, hK _ _ ?_⟩
        clear hK K_ hm hO1
        try go_frame
        have hsz := hMc.size
        refine scw_loud rfl (fun K_ hK => ?_)
        go_simp
        refine Calls.mono (refReplay_fresh wB2 K _ L hLc (by omega)) ?_
        rintro xx wB3 ⟨ym, yn, yl, rfl, hLm, hLn, hLl, hm⟩
        rw [← HNB.out] at hLm hLn hLl
        rw [← HNB.out, ← HER.out]
        have hO2 : NodeIn wB3 NB ym yn yl := ⟨hLm.1, hLn.1, hLl.1, HFB.out.1, HFB.out.2.1, HFB.out.2.2⟩
        have hof : NodeOff (· < wB2.heap.size) NB ym yn yl := ⟨fun h0 g hg hs => by have := hLm.2 h0 g hg; omega, fun h0 g hg hs => by have := hLn.2 h0 g hg; omega, fun h0 g hg hs => by have := hLl.2 h0 g hg; omega⟩
        clear hLm hLn hLl
        have hoff : NodeOff (· = Q9) NB ym yn yl := hof.mono fun g e => by have := bQ.lt; omega
        replace hof := hof.mono (T := (· < w2.heap.size)) fun g hg => Nat.lt_of_lt_of_le hg hsz
        replace hI := hI.mod hm id
        replace hMc := hMc.trans hm
        replace bQ := bQ.mod hm id
        refine ⟨_, rfl, hI, hK _ _ ?_⟩
        clear hK K_ hm hsz hLc
        try go_frame
        iterate 3 (refine scw_quiet rfl (fun w' i_ K_ hK => by go_simp; exact hK) ?_; go_frame)
        have HIo := hide (infoNode NB ym yn yl)
        have HOo := hide (nodeIn_one hO2)
        have hms : Mod (· = Q9) wB3 (wB3.setRow Q9 (nodeC NB ym yn yl)) := (Mod.refl (· = Q9) wB3).setRow (.inr rfl) _
        refine scv_storeRow rfl rfl 34 (.tmp 14) (.tmp 100) rfl Q9 (nodeC NB ym yn yl) rfl rfl 34 zeroNode bQ HIo.out rfl HOo.out (hI.mod hms (by omega)) ?_
        replace hO2 := hO2.modO hms hoff
        replace bQ := bQ.row (nodeC NB ym yn yl)
        replace hMc := hMc.trans' hms (fun g hg e => by omega)
        obtain ⟨wB4, hw⟩ : ∃ y, y = wB3.setRow Q9 (nodeC NB ym yn yl) := ⟨_, rfl⟩
        rw [← hw] at hO2 bQ hMc ⊢
        try go_frame
        clear hw hms hI HIo HOo
        iterate 1 (refine scw_quiet rfl (fun w' i_ K_ hK => by go_simp; exact hK) ?_; go_frame)
        refine scw_nil ?_
        go_wp2_with fail
        go_meet
        exact ⟨Q9, ym, yn, yl, rfl, rfl, hQ3, bQ, hO2, hof, hMc⟩
    obtain ⟨q14, bm, bn, bl, rfl, rfl, h14, b14, hN14, hO14, hm14⟩ := hcut
    obtain ⟨w3, hw3⟩ : ∃ y, y = wc := ⟨_, rfl⟩
    rw [← hw3] at b14 hN14 hm14 ⊢
    clear hw3 hI
    have j11 : w3.cell? ⟨q5, 11, none⟩ = some (.int .i64 K) := by have := (b5.mod hm14 id).cell 11; rw [HOC.out] at this; exact this
    have HRP := hide (replay_any w3 K _ L (HS1.out.kept hm14) (HLL.out.kept hm14) (by omega))
    have HB14 := hide b14
    have HN14 := hide hN14
    have HM14 := hide hm14
    have HO14 := hide hO14
    have hs14 := hm14.size
    clear b14 hN14 hm14 hO14
    have HB4 := hide b4
    have HB5 := hide b5
    have HB6 := hide b6
    have h4l := b4.lt
    have h6l := b6.lt
    clear b4 b5 b6
    go_upto_region 21 with fail
    skip
    have HW3 := hide (rfl : w3.heap.size = w3.heap.size)
    obtain ⟨q16, hq16⟩ : ∃ y : Nat, True := ⟨0, trivial⟩
    clear hq16 HW3
    go_wp2_with fail
    refine Calls.mono HRP.out ?_
    rintro xx w4 ⟨ym, yn, yl, rfl, hO4, hm4⟩
    rw [← HNB.out, ← HER.out]
    rw [← HNB.out] at hO4
    have HI16 := hide (infoNode NB ym yn yl)
    have HO16 := hide (nodeOwn_one hO4)
    obtain ⟨q17, hq⟩ : ∃ q, q = w4.heap.size := ⟨_, rfl⟩
    obtain ⟨w5, hw⟩ : ∃ y, y = w4.alloc (.cells (nodeC NB ym yn yl) 34) := ⟨_, rfl⟩
    have hm5 : Mod None_ w4 w5 := by rw [hw]; exact (Mod.refl _ w4).alloc _
    have b16 : Blk w5 q17 34 (nodeC NB ym yn yl) := by rw [hw, hq]; exact Blk.new w4 _ _
    have hs4 := hm4.size
    have HW5 := hide hw
    have HQ5b := hide hq
    clear hw hq j11 HRP
    go_upto_region 22 with ((with_reducible refine at_slot 16 ?_); refine wpList_declare rfl rfl 34 16 (.tmp 107) rfl rfl rfl zeroNode (nodeC NB ym yn yl) zeroNodeV HI16.out (nodeC_size _ _ _ _) HO16.out (by simp) rfl ?_; go_frame; rw [← HW5.out, ← HQ5b.out])
    clear HW5 HQ5b HO16
    have hmA := hm4.trans hm5
    have HO5 := hide (hO4.kept hm5)
    have hO5 := HO5.out
    have HN5 := hide (hO5.in_of HFB.out.1 HFB.out.2.1 HFB.out.2.2)
    have HB14b := hide (HB14.out.mod hmA id)
    have HN14b := hide (HN14.out.kept hmA)
    have HM5 := hide (HM14.out.trans hmA)
    have hs5 := hm5.size
    have HB16 := hide b16
    clear hO4 hO5 hm4 hm5 hmA b16
    have u0 : w5.cell? ⟨q17, 0, none⟩ = some (.int .i64 NB.ino) := HB16.out.cell 0
    have u1 : w5.cell? ⟨q17, 1, none⟩ = some (.int .i64 NB.kind) := HB16.out.cell 1
    have u2 : w5.cell? ⟨q17, 2, none⟩ = some (.int .i64 NB.links) := HB16.out.cell 2
    have u3 : w5.cell? ⟨q17, 3, none⟩ = some (.int .i64 NB.size) := HB16.out.cell 3
    have u4 : w5.cell? ⟨q17, 4, none⟩ = some (ym) := HB16.out.cell 4
    have u5 : w5.cell? ⟨q17, 5, none⟩ = some (yn) := HB16.out.cell 5
    have u6 : w5.cell? ⟨q17, 6, none⟩ = some (.int .i64 NB.head) := HB16.out.cell 6
    have u7 : w5.cell? ⟨q17, 7, none⟩ = some (.int .i64 NB.tail) := HB16.out.cell 7
    have u8 : w5.cell? ⟨q17, 8, none⟩ = some (yl) := HB16.out.cell 8
    have u9 : w5.cell? ⟨q17, 9, none⟩ = some (.int .i64 NB.entries) := HB16.out.cell 9
    have v0 : w5.cell? ⟨q14, 0, none⟩ = some (.int .i64 NB.ino) := HB14b.out.cell 0
    have v1 : w5.cell? ⟨q14, 1, none⟩ = some (.int .i64 NB.kind) := HB14b.out.cell 1
    have v2 : w5.cell? ⟨q14, 2, none⟩ = some (.int .i64 NB.links) := HB14b.out.cell 2
    have v3 : w5.cell? ⟨q14, 3, none⟩ = some (.int .i64 NB.size) := HB14b.out.cell 3
    have v4 : w5.cell? ⟨q14, 4, none⟩ = some (bm) := HB14b.out.cell 4
    have v5 : w5.cell? ⟨q14, 5, none⟩ = some (bn) := HB14b.out.cell 5
    have v6 : w5.cell? ⟨q14, 6, none⟩ = some (.int .i64 NB.head) := HB14b.out.cell 6
    have v7 : w5.cell? ⟨q14, 7, none⟩ = some (.int .i64 NB.tail) := HB14b.out.cell 7
    have v8 : w5.cell? ⟨q14, 8, none⟩ = some (bl) := HB14b.out.cell 8
    have v9 : w5.cell? ⟨q14, 9, none⟩ = some (.int .i64 NB.entries) := HB14b.out.cell 9
    go_wp2_with fail
    have HSN := hide (lawSameNode w5 NB ym yn yl bm bn bl HN5.out HN14b.out)
    refine Calls.mono HSN.out ?_
    rintro xx w6 ⟨rfl, hm6⟩
    clear HSN u0 u1 u2 u3 u4 u5 u6 u7 u8 u9 v0 v1 v2 v3 v4 v5 v6 v7 v8 v9
    have hmA : Mod None_ w2 w6 := HM5.out.trans hm6
    have hs6 := hm6.size
    have HO6 := hide (HO5.out.kept hm6)
    have HB16c := hide (HB16.out.mod hm6 id)
    have HB14c := hide (HB14b.out.mod hm6 id)
    have HN6 := hide (HN14b.out.kept hm6)
    obtain ⟨v0, v1, v2, v3, v4, v5, v6, v7, hB, hlo, hNn, hOn, hUn⟩ := HP.out
    have hB6 := hB.kept hmA
    have hB3 := hB.kept HM14.out
    have hll := hUB.mid (by omega)
    obtain ⟨hll1, hll2, hll3⟩ := hll
    skip
    skip
    have hBk : BookAt w6 Q w2.heap.size v0 v1 v2 v3 v4 v5 v6 v7 kR kN kE := hB6
    have HKN := hide (keepNode_any w6 Q w2.heap.size v0 v1 v2 v3 v4 v5 v6 v7 ym yn yl NB kR kN kE hBk (HO6.out.low (by omega)) (by omega) (by omega) (by omega) (by omega) (by omega) (by omega))
    have hls : ∀ g, NodeLS ym yn yl g → w3.heap.size ≤ g := fun g hg => (HO6.out.ls_ge hg).1
    have hLn : NodeOff (NodeLS ym yn yl) n vm vn vl := hNn.off_new fun g hg => by have := hls g hg; omega
    have hLb : NodeOff (NodeLS ym yn yl) NB bm bn bl := HN14.out.off_new hls
    have hOb : NodeOff (fun g => XX X0 q4 q6 g ∨ BkO Q v0 v1 v2 v3 v4 v5 v6 v7 g) NB bm bn bl := HO14.out.mono fun g hg => by
      rcases hg with (h | h | h) | h
      · show g < w2.heap.size; have := hX0 g h; omega
      · show g < w2.heap.size; omega
      · show g < w2.heap.size; omega
      · exact bko_lt hB h
    have n4 : ¬ (NodeLS ym yn yl q4 ∨ BkO Q v0 v1 v2 v3 v4 v5 v6 v7 q4) := fun h => h.elim (HO6.out.ls_ne (HB4.out.mod hmA id) (by decide) (by decide) (by decide)) (bko_ne hB HB4.out (by decide) (by decide) (by decide) (by decide) (by decide))
    have n6 : ¬ (NodeLS ym yn yl q6 ∨ BkO Q v0 v1 v2 v3 v4 v5 v6 v7 q6) := fun h => h.elim (HO6.out.ls_ne (HB6.out.mod hmA id) (by decide) (by decide) (by decide)) (bko_ne hB HB6.out (by decide) (by decide) (by decide) (by decide) (by decide))
    have n14 : ¬ (NodeLS ym yn yl q14 ∨ BkO Q v0 v1 v2 v3 v4 v5 v6 v7 q14) := fun h => h.elim (HO6.out.ls_ne HB14c.out (by decide) (by decide) (by decide)) (bko_ne hB6 HB14c.out (by decide) (by decide) (by decide) (by decide) (by decide))
    have hws2 := HM.out.size
    have hm0r : ∀ g, w6.heap.size ≤ g → Z g := fun g hg => hZ g (by have := hmA.size; omega)
    have HNX := hide (fun (w13 : World) hp => play_next (w' := w13) (kR' := kR + 1) (kN' := kN + 1) (kE' := kE) (X := XX X0 q4 q6) hB6 hlo (hNn.kept hmA) hOn hLn hUn hm0r hp)
    have HNY := hide (fun (w13 : World) hp => play_next (w' := w13) (kR' := kR + 1) (kN' := kN + 1) (kE' := kE) (X := XX X0 q4 q6) hB6 hlo HN6.out hOb hLb hUB hm0r hp)
    have HLO := hide hlo
    have HMA := hide hmA
    have HIA := hide (infoNode NB ym yn yl)
    have HLS := hide hls
    clear hB hlo hNn hOn hUn hB6 hB3 hBk hLn hOb hLb hmA hm6 hm0r hls
    go_wp2_with ((with_reducible refine at_slot 120 ?_); refine wpList_val rfl (ex_load rfl (run_loadRow HB16c.out Tryz.underlying34 rfl HIA.out)) ?_; go_frame)
    refine Calls.mono HKN.out ?_
    rintro xx w13 ⟨rfl, hkp⟩
    have HPX := hide (HNX.out w13 hkp)
    have HPY := hide (HNY.out w13 hkp)
    obtain ⟨_, _, _, _, _, _, _, _, _, hmk, _⟩ := hkp
    have b4 := (HB4.out.mod HMA.out id).mod hmk n4
    have b6 := (HB6.out.mod HMA.out id).mod hmk n6
    have b14 := HB14c.out.mod hmk n14
    have hM13 := (HM.out.trans HMA.out.none).trans' hmk (fun g _ hg => hg.elim (fun h => hZ g (by have := HLS.out g h; omega)) (HLO.out g))
    clear HKN HNX HNY HLO n4 n6 n14 hmk HM HP HLS
    by_cases hz : er = 0
    · have HZ := hide hz
      have HIB := hide (infoNode NB bm bn bl)
      have HOB := hide (nodeIn_one HPY.out.in_)
      have hmr : Mod (· = q4) w13 (w13.setRow q4 (nodeC NB bm bn bl)) := (Mod.refl (· = q4) w13).setRow (.inr rfl) _
      have HPZ := hide (HPY.out.node b4 (.inr (.inl rfl)) hmr)
      have HM14 := hide (hM13.trans' hmr (fun g hg e => by subst e; exact h4m))
      have b6z := b6.mod hmr (by omega)
      have b4z := b4.row (nodeC NB bm bn bl)
      clear hmr hM13
      go_upto_region 39 with (first
        | ((with_reducible refine at_slot 124 ?_); refine wpList_val rfl (ex_load rfl (run_loadRow b14 Tryz.underlying34 rfl HIB.out)) ?_; go_frame)
        | ((with_reducible refine at_none 34 4 124 ?_); refine wpList_store_row rfl 34 (.tmp 4) (.tmp 124) rfl q4 (nodeC NB bm bn bl) rfl rfl 34 _ b4 HIB.out rfl HOB.out ?_; go_frame))
      obtain ⟨w14, hw14⟩ : ∃ y, y = w13.setRow q4 (nodeC NB bm bn bl) := ⟨_, rfl⟩
      rw [← hw14] at HPZ HM14 b4z b6z ⊢
      clear hw14
      have HIe := hide (infoNode NB bm bn bl)
      have HOe := hide (nodeIn_one HPZ.out.in_)
      have hmr : Mod (· = q6) w14 (w14.setRow q6 (nodeC NB bm bn bl)) := (Mod.refl (· = q6) w14).setRow (.inr rfl) _
      have HF : Hid (PlaysPost Z X0 w Q kR kN kE c (.returned (.tuple #[.agg (nodeC NB bm bn bl), .bool true])) (w14.setRow q6 (nodeC NB bm bn bl))) := hide ⟨NB, bm, bn, bl, (kR + 1), (kN + 1), kE, rfl, (HPZ.out.node b6z (.inr (.inr rfl)) hmr).weak (fun _ f => .inl f) (by omega), HM14.out.trans' hmr (fun g hg e => by subst e; exact h6m), by omega, by omega, by omega⟩
      have HB := hide (b6z.row (nodeC NB bm bn bl))
      clear hmr
      go_wp2_with (first
        | ((with_reducible refine at_slot 166 ?_); refine wpList_val rfl (ex_load rfl (run_loadRow b4z Tryz.underlying34 rfl HIe.out)) ?_; go_frame)
        | ((with_reducible refine at_none 34 6 166 ?_); refine wpList_store_row rfl 34 (.tmp 6) (.tmp 166) rfl q6 (nodeC NB bm bn bl) rfl rfl 34 zeroNode b6z HIe.out rfl HOe.out ?_; go_frame))
      have hl := run_loadVar_row (P := Tryz.prog) _ q6 34 34 _ (0, 0) _ HB.out Tryz.underlying34 rfl HIe.out
      exact ⟨rfl, .tuple #[.agg (nodeC NB bm bn bl), .bool true], by simp [results, Tryz.results4, asAddr, hl], HF.out⟩
    · have HM13 := hide hM13
      clear hM13
      have HIe := hide (infoNode n vm vn vl)
      have HOe := hide (nodeIn_one HPX.out.in_)
      have hmr : Mod (· = q6) w13 (w13.setRow q6 (nodeC n vm vn vl)) := (Mod.refl (· = q6) w13).setRow (.inr rfl) _
      have HF : Hid (PlaysPost Z X0 w Q kR kN kE c (.returned (.tuple #[.agg (nodeC n vm vn vl), .bool true])) (w13.setRow q6 (nodeC n vm vn vl))) := hide ⟨n, vm, vn, vl, (kR + 1), (kN + 1), kE, rfl, (HPX.out.node b6 (.inr (.inr rfl)) hmr).weak (fun _ f => .inl f) (by omega), HM13.out.trans' hmr (fun g hg e => by subst e; exact h6m), by omega, by omega, by omega⟩
      have HB := hide (b6.row (nodeC n vm vn vl))
      clear hmr
      go_wp2_with (first
        | ((with_reducible refine at_slot 166 ?_); refine wpList_val rfl (ex_load rfl (run_loadRow b4 Tryz.underlying34 rfl HIe.out)) ?_; go_frame)
        | ((with_reducible refine at_none 34 6 166 ?_); refine wpList_store_row rfl 34 (.tmp 6) (.tmp 166) rfl q6 (nodeC n vm vn vl) rfl rfl 34 zeroNode b6 HIe.out rfl HOe.out ?_; go_frame))
      have hl := run_loadVar_row (P := Tryz.prog) _ q6 34 34 _ (0, 0) _ HB.out Tryz.underlying34 rfl HIe.out
      exact ⟨rfl, .tuple #[.agg (nodeC n vm vn vl), .bool true], by simp [results, Tryz.results4, asAddr, hl], HF.out⟩
  by_cases k4 : k = 4
  · subst k4
    have HNI := hide HP.out.in_
    have hmid := HP.out.upto.mid (by omega)
    have HMID := hide hmid
    have hcl := canonList_len HP.out.upto (by omega)
    have HI := hide (infoNode n vm vn vl)
    have HB4 := hide b4
    have HB6 := hide b6
    clear hmid b4 b6 HN HE HS
    have HRC := hide (refCanon_any w0 n vm vn vl (HNI.out.atM HMID.out))
    go_wp2_with ((with_reducible refine at_slot 128 ?_); refine wpList_val rfl (ex_load rfl (run_loadRow HB4.out Tryz.underlying34 rfl HI.out)) ?_; go_frame)
    refine Calls.mono HRC.out ?_
    rintro xx w1 hp
    obtain ⟨vb, rfl, hLb, hm1⟩ := canon_list hp
    clear hp HRC
    have HB4b := hide (HB4.out.mod hm1 id)
    have HCY := hide (lawCopyM w1 n vm vn vl (HNI.out.kept hm1) HMID.out)
    have HLb := hide hLb
    have HM1 := hide hm1
    clear hLb hm1
    go_wp2_with ((with_reducible refine at_slot 133 ?_); refine wpList_val rfl (ex_load rfl (run_loadRow HB4b.out Tryz.underlying34 rfl HI.out)) ?_; go_frame)
    refine Calls.mono HCY.out ?_
    rintro xx w2 ⟨um, un, ul, rfl, hO1, hm2⟩
    have hNc := hO1.in_ HNI.out
    have HCA := hide (canon_own w2 n um un ul (hNc.atM HMID.out))
    have HM2 := hide (HM1.out.trans hm2)
    have HLb2 := hide (HLb.out.kept hm2)
    clear HCY hO1 hNc hm2 HLb HM1
    go_wp2_with fail
    refine Calls.mono HCA.out ?_
    rintro xx w3 ⟨hm3, va, rfl, hO3⟩
    have HSE := hide (lawSameEntries w3 va vb _ _ (list_of_ownRow (enc := encEntry) (fun _ => rfl) hO3) (HLb2.out.kept hm3))
    have HO3 := hide (own_base hO3 HM2.out.size)
    have HM3 := hide (HM2.out.trans hm3)
    clear HCA hO3 hm3 HM2 HLb2
    obtain ⟨er, her⟩ : ∃ y, y = canonErr n := ⟨_, rfl⟩
    rw [← her]
    clear her
    go_wp2_with fail
    refine Calls.mono HSE.out ?_
    rintro xx w6 ⟨rfl, hm6⟩
    simp only [decide_true]
    clear HSE
    have hmA := HM3.out.trans hm6
    have hO6 := own_mod HO3.out hm6 (fun _ _ f => f)
    clear HM3 HO3 hm6
    obtain ⟨v0, v1, v2, v3, v4, v5, v6, v7, hB, hlo, hNn, hOn, hUn⟩ := HP.out
    have hB6 := hB.kept hmA
    have HKN := hide (keepEntriesB w6 Q w0.heap.size v0 v1 v2 v3 v4 v5 v6 v7 va (canonList n) kR kN kE hB6 hO6 hcl (by omega) hmA.size)
    have hls : ∀ g, (va).ownBlock = some g → w0.heap.size ≤ g := fun g hg => (own_blk hO6 hg).1
    have hLn : NodeOff (fun g => (va).ownBlock = some g) n vm vn vl := hNn.off_new hls
    have n4 : ¬ ((va).ownBlock = some q4 ∨ BkO Q v0 v1 v2 v3 v4 v5 v6 v7 q4) := fun h => h.elim (fun e => own_ne hO6 (HB4.out.mod hmA id) (by decide) e rfl) (bko_ne hB HB4.out (by decide) (by decide) (by decide) (by decide) (by decide))
    have n6 : ¬ ((va).ownBlock = some q6 ∨ BkO Q v0 v1 v2 v3 v4 v5 v6 v7 q6) := fun h => h.elim (fun e => own_ne hO6 (HB6.out.mod hmA id) (by decide) e rfl) (bko_ne hB HB6.out (by decide) (by decide) (by decide) (by decide) (by decide))
    have hws2 := HM.out.size
    have hm0r : ∀ g, w6.heap.size ≤ g → Z g := fun g hg => hZ g (by have := hmA.size; omega)
    have HNX := hide (fun (w13 : World) hp => play_next (w' := w13) (kR' := kR) (kN' := kN) (kE' := kE + 1) (X := XX X0 q4 q6) hB6 hlo (hNn.kept hmA) hOn hLn hUn hm0r hp)
    have HLO := hide hlo
    have HMA := hide hmA
    have HLS := hide hls
    clear hB hlo hNn hOn hUn hB6 hLn hmA hm0r hls hO6
    go_wp2_with fail
    refine Calls.mono HKN.out ?_
    rintro xx w13 ⟨rfl, hkp⟩
    have HPX := hide (HNX.out w13 hkp)
    obtain ⟨_, _, _, _, _, _, _, _, _, hmk, _⟩ := hkp
    have b4 := (HB4.out.mod HMA.out id).mod hmk n4
    have b6 := (HB6.out.mod HMA.out id).mod hmk n6
    have HM13 := hide ((HM.out.trans HMA.out.none).trans' hmk (fun g _ hg => hg.elim (fun h => hZ g (by have := HLS.out g h; omega)) (HLO.out g)))
    clear HKN HNX HLO n4 n6 hmk HM HP HLS
    have HIe := hide (infoNode n vm vn vl)
    have HOe := hide (nodeIn_one HPX.out.in_)
    have hmr : Mod (· = q6) w13 (w13.setRow q6 (nodeC n vm vn vl)) := (Mod.refl (· = q6) w13).setRow (.inr rfl) _
    have HF : Hid (PlaysPost Z X0 w Q kR kN kE c (.returned (.tuple #[.agg (nodeC n vm vn vl), .bool true])) (w13.setRow q6 (nodeC n vm vn vl))) := hide ⟨n, vm, vn, vl, kR, (kN), (kE + 1), rfl, (HPX.out.node b6 (.inr (.inr rfl)) hmr).weak (fun _ f => .inl f) (by omega), HM13.out.trans' hmr (fun g hg e => by subst e; exact h6m), by omega, by omega, by omega⟩
    have HB := hide (b6.row (nodeC n vm vn vl))
    clear hmr
    go_wp2_with (first
      | ((with_reducible refine at_slot 166 ?_); refine wpList_val rfl (ex_load rfl (run_loadRow b4 Tryz.underlying34 rfl HIe.out)) ?_; go_frame)
      | ((with_reducible refine at_none 34 6 166 ?_); refine wpList_store_row rfl 34 (.tmp 6) (.tmp 166) rfl q6 (nodeC n vm vn vl) rfl rfl 34 zeroNode b6 HIe.out rfl HOe.out ?_; go_frame))
    have hl := run_loadVar_row (P := Tryz.prog) _ q6 34 34 _ (0, 0) _ HB.out Tryz.underlying34 rfl HIe.out
    exact ⟨rfl, .tuple #[.agg (nodeC n vm vn vl), .bool true], by simp [results, Tryz.results4, asAddr, hl], HF.out⟩
  by_cases k5 : k = 5
  · subst k5
    have HNI := hide HP.out.in_
    have hmid := HP.out.upto.mid (by omega)
    have HMID := hide hmid
    have hcl := pagesOf_len n
    have HI := hide (infoNode n vm vn vl)
    have HB4 := hide b4
    have HB6 := hide b6
    clear hmid b4 b6 HN HE HS
    have HRC := hide (refPages_any w0 n vm vn vl (HNI.out.atM HMID.out))
    go_wp2_with ((with_reducible refine at_slot 153 ?_); refine wpList_val rfl (ex_load rfl (run_loadRow HB4.out Tryz.underlying34 rfl HI.out)) ?_; go_frame)
    refine Calls.mono HRC.out ?_
    rintro xx w1 ⟨vb, rfl, hLb, hm1⟩
    clear HRC
    have HB4b := hide (HB4.out.mod hm1 id)
    have HCY := hide (lawCopyM w1 n vm vn vl (HNI.out.kept hm1) HMID.out)
    have HLb := hide hLb
    have HM1 := hide hm1
    clear hLb hm1
    go_wp2_with ((with_reducible refine at_slot 155 ?_); refine wpList_val rfl (ex_load rfl (run_loadRow HB4b.out Tryz.underlying34 rfl HI.out)) ?_; go_frame)
    refine Calls.mono HCY.out ?_
    rintro xx w2 ⟨um, un, ul, rfl, hO1, hm2⟩
    have hNc := hO1.in_ HNI.out
    have HCA := hide (pages_own w2 n um un ul (hNc.atM HMID.out))
    have HM2 := hide (HM1.out.trans hm2)
    have HLb2 := hide (HLb.out.kept hm2)
    clear HCY hO1 hNc hm2 HLb HM1
    go_wp2_with fail
    refine Calls.mono HCA.out ?_
    rintro xx w3 ⟨va, rfl, hO3, hm3⟩
    have HSE := hide (lawSameNumbers w3 va vb _ _ (list_of_ownRow (enc := encInt) (fun _ => rfl) hO3) (HLb2.out.kept hm3))
    have HO3 := hide (own_base hO3 HM2.out.size)
    have HM3 := hide (HM2.out.trans hm3)
    clear HCA hO3 hm3 HM2 HLb2
    go_wp2_with fail
    refine Calls.mono HSE.out ?_
    rintro xx w6 ⟨rfl, hm6⟩
    simp only [decide_true]
    clear HSE
    have hmA := HM3.out.trans hm6
    have hO6 := own_mod HO3.out hm6 (fun _ _ f => f)
    clear HM3 HO3 hm6
    obtain ⟨v0, v1, v2, v3, v4, v5, v6, v7, hB, hlo, hNn, hOn, hUn⟩ := HP.out
    have hB6 := hB.kept hmA
    have HKN := hide (keepNumbersB w6 Q w0.heap.size v0 v1 v2 v3 v4 v5 v6 v7 va (pagesOf n) kR kN kE hB6 hO6 hcl (by omega) hmA.size)
    have hls : ∀ g, (va).ownBlock = some g → w0.heap.size ≤ g := fun g hg => (own_blk hO6 hg).1
    have hLn : NodeOff (fun g => (va).ownBlock = some g) n vm vn vl := hNn.off_new hls
    have n4 : ¬ ((va).ownBlock = some q4 ∨ BkO Q v0 v1 v2 v3 v4 v5 v6 v7 q4) := fun h => h.elim (fun e => own_ne hO6 (HB4.out.mod hmA id) (by decide) e rfl) (bko_ne hB HB4.out (by decide) (by decide) (by decide) (by decide) (by decide))
    have n6 : ¬ ((va).ownBlock = some q6 ∨ BkO Q v0 v1 v2 v3 v4 v5 v6 v7 q6) := fun h => h.elim (fun e => own_ne hO6 (HB6.out.mod hmA id) (by decide) e rfl) (bko_ne hB HB6.out (by decide) (by decide) (by decide) (by decide) (by decide))
    have hws2 := HM.out.size
    have hm0r : ∀ g, w6.heap.size ≤ g → Z g := fun g hg => hZ g (by have := hmA.size; omega)
    have HNX := hide (fun (w13 : World) hp => play_next (w' := w13) (kR' := kR) (kN' := kN + 1) (kE' := kE) (X := XX X0 q4 q6) hB6 hlo (hNn.kept hmA) hOn hLn hUn hm0r hp)
    have HLO := hide hlo
    have HMA := hide hmA
    have HLS := hide hls
    clear hB hlo hNn hOn hUn hB6 hLn hmA hm0r hls hO6
    go_wp2_with fail
    refine Calls.mono HKN.out ?_
    rintro xx w13 ⟨rfl, hkp⟩
    have HPX := hide (HNX.out w13 hkp)
    obtain ⟨_, _, _, _, _, _, _, _, _, hmk, _⟩ := hkp
    have b4 := (HB4.out.mod HMA.out id).mod hmk n4
    have b6 := (HB6.out.mod HMA.out id).mod hmk n6
    have HM13 := hide ((HM.out.trans HMA.out.none).trans' hmk (fun g _ hg => hg.elim (fun h => hZ g (by have := HLS.out g h; omega)) (HLO.out g)))
    clear HKN HNX HLO n4 n6 hmk HM HP HLS
    have HIe := hide (infoNode n vm vn vl)
    have HOe := hide (nodeIn_one HPX.out.in_)
    have hmr : Mod (· = q6) w13 (w13.setRow q6 (nodeC n vm vn vl)) := (Mod.refl (· = q6) w13).setRow (.inr rfl) _
    have HF : Hid (PlaysPost Z X0 w Q kR kN kE c (.returned (.tuple #[.agg (nodeC n vm vn vl), .bool true])) (w13.setRow q6 (nodeC n vm vn vl))) := hide ⟨n, vm, vn, vl, kR, (kN + 1), (kE), rfl, (HPX.out.node b6 (.inr (.inr rfl)) hmr).weak (fun _ f => .inl f) (by omega), HM13.out.trans' hmr (fun g hg e => by subst e; exact h6m), by omega, by omega, by omega⟩
    have HB := hide (b6.row (nodeC n vm vn vl))
    clear hmr
    go_wp2_with (first
      | ((with_reducible refine at_slot 166 ?_); refine wpList_val rfl (ex_load rfl (run_loadRow b4 Tryz.underlying34 rfl HIe.out)) ?_; go_frame)
      | ((with_reducible refine at_none 34 6 166 ?_); refine wpList_store_row rfl 34 (.tmp 6) (.tmp 166) rfl q6 (nodeC n vm vn vl) rfl rfl 34 zeroNode b6 HIe.out rfl HOe.out ?_; go_frame))
    have hl := run_loadVar_row (P := Tryz.prog) _ q6 34 34 _ (0, 0) _ HB.out Tryz.underlying34 rfl HIe.out
    exact ⟨rfl, .tuple #[.agg (nodeC n vm vn vl), .bool true], by simp [results, Tryz.results4, asAddr, hl], HF.out⟩
  clear HN HE HS HS0 HA HEO
  have HIe := hide (infoNode n vm vn vl)
  have HOe := hide (nodeIn_one HP.out.in_)
  have hmr : Mod (· = q6) w0 (w0.setRow q6 (nodeC n vm vn vl)) := (Mod.refl (· = q6) w0).setRow (.inr rfl) _
  have HF : Hid (PlaysPost Z X0 w Q kR kN kE c (.returned (.tuple #[.agg (nodeC n vm vn vl), .bool true])) (w0.setRow q6 (nodeC n vm vn vl))) := hide ⟨n, vm, vn, vl, kR, kN, kE, rfl, (HP.out.node b6 (.inr (.inr rfl)) hmr).weak (fun _ f => .inl f) (by omega), HM.out.trans' hmr (fun g hg e => by subst e; exact h6m), by omega, by omega, by omega⟩
  have HB := hide (b6.row (nodeC n vm vn vl))
  clear hmr
  go_wp2_with (first
    | ((with_reducible refine at_slot 166 ?_); refine wpList_val rfl (ex_load rfl (run_loadRow b4 Tryz.underlying34 rfl HIe.out)) ?_; go_frame)
    | ((with_reducible refine at_none 34 6 166 ?_); refine wpList_store_row rfl 34 (.tmp 6) (.tmp 166) rfl q6 (nodeC n vm vn vl) rfl rfl 34 zeroNode b6 HIe.out rfl HOe.out ?_; go_frame))
  have hl := run_loadVar_row (P := Tryz.prog) _ q6 34 34 _ (0, 0) _ HB.out Tryz.underlying34 rfl HIe.out
  exact ⟨rfl, .tuple #[.agg (nodeC n vm vn vl), .bool true], by simp [results, Tryz.results4, asAddr, hl], HF.out⟩
end Go.Proofs.YtabebkffcmajkaaGreatDoor

/-! Law walk: InodeAll. -/
namespace Go.Proofs.YtabebkffcmajkaaGreatDoor
open Go.RowKit Go.Maps Go.Shelf
attribute [local go_sem] quietV loudUpon Oper.semAt_some

structure OpVD where
  kind : Int
  N : NodeD
  am : Value
  an : Value
  al : Value
  K : Int
  ve : Value
  es : List EntD
def encOpV (x : OpVD) : List Value := (opC x.kind x.N x.am x.an x.al x.K x.ve).toList
structure OpIn (w : World) (x : OpVD) : Prop where
  node : NodeIn w x.N x.am x.an x.al
  ents : ListAt encEntry 8 w x.ve x.es
  few : x.es.length ≤ 2000000
theorem offS_of {α : Type} {enc : α → List Value} {sz : Nat} {w : World} {v : Value} {l : List α} (h : ListAt enc sz w v l) {S : Nat → Prop} (hS : ∀ g, S g → w.heap.size ≤ g) : OffS S v l.length := fun h0 g hg hs => by
  have := listAt_below h h0 hg
  have := hS g hs
  omega
theorem OpIn.mod {w w' : World} {x : OpVD} (h : OpIn w x) {S : Nat → Prop} (hm : Mod S w w') (hS : ∀ g, S g → w.heap.size ≤ g) : OpIn w' x :=
  ⟨h.node.modO hm (h.node.off_new hS), h.ents.modX hm (offS_of h.ents hS), h.few⟩
theorem prNil {α : Type} (enc : α → List Value) (sz : Nat) (e tS : TypeId) (mk : Int → α) (w : World) (b : Nat) : Pr enc sz e tS mk w b (.slice none 0 0) (.slice none 0 0) [] [] :=
  ⟨⟨rfl, .inl ⟨rfl, rfl⟩⟩, ⟨rfl, .inl ⟨rfl, rfl⟩⟩, (fun g h => by cases h), (fun i h => by cases h), (fun x h => by cases h), (fun x h => by cases h)⟩

set_option maxRecDepth 100000 in
set_option maxHeartbeats 8000000 in
theorem lawAll (w : World) (v : Value) (l : List OpVD) (hs : Steps w) (h : ListAt encOpV 13 w v l) (hO : ∀ x ∈ l, OpIn w x)
    (hH : ∀ (w' : World) (Q b : Nat) (v0 v1 v2 v3 v4 v5 v6 v7 : Value) (kR kN kE : Nat), BookAt w' Q b v0 v1 v2 v3 v4 v5 v6 v7 kR kN kE → kR ≤ 100000 ∧ kN ≤ 100000 ∧ kE ≤ 100000 → Calls Tryz.prog 5 #[.pointer (some ⟨Q, 0, none⟩)] w' fun e w'' => e = .returned (.bool true) ∧ w' = w'') :
    Calls Tryz.prog 3 #[v] w (BoolPost w true) := by
  obtain ⟨A, c, rfl, hc1, hc2, hA⟩ := h
  unfold maxLen at hc2
  have hln : ∀ w, (Builtin.len_ #[22] 3 #[.slice A l.length c]).run Tryz.prog w = .ok (.int .i64 l.length) w := fun w => by simp [Builtin.len_, run_underlying Tryz.underlying22]; rfl
  obtain ⟨Q, hQ⟩ : ∃ m, m = w.heap.size := ⟨_, rfl⟩
  obtain ⟨w1, hw1⟩ : ∃ y, y = w.alloc (.cells #[.slice none 0 0, .slice none 0 0, .slice none 0 0, .slice none 0 0, .slice none 0 0, .slice none 0 0, .slice none 0 0, .slice none 0 0] 29) := ⟨_, rfl⟩
  have hm1 : Mod None_ w w1 := by rw [hw1]; exact (Mod.refl _ w).alloc _
  have bB : Blk w1 Q 29 #[.slice none 0 0, .slice none 0 0, .slice none 0 0, .slice none 0 0, .slice none 0 0, .slice none 0 0, .slice none 0 0, .slice none 0 0] := by rw [hw1, hQ]; exact Blk.new w _ _
  obtain ⟨q4, hq4⟩ : ∃ m, m = w1.heap.size := ⟨_, rfl⟩
  have hq41 : Q < q4 := by rw [hq4, hw1, hQ]; simp
  obtain ⟨w2, hw2⟩ : ∃ y, y = w1.alloc (.cells zeroNode 34) := ⟨_, rfl⟩
  have hm2 : Mod None_ w1 w2 := by rw [hw2]; exact (Mod.refl _ w1).alloc _
  have b4 : Blk w2 q4 34 (nodeC zeroN (.slice none 0 0) (.slice none 0 0) (.slice none 0 0)) := by rw [hw2, hq4]; exact Blk.new w1 _ _
  have hM := hm1.trans hm2
  have hB : BookAt w2 Q w2.heap.size (.slice none 0 0) (.slice none 0 0) (.slice none 0 0) (.slice none 0 0) (.slice none 0 0) (.slice none 0 0) (.slice none 0 0) (.slice none 0 0) 0 0 0 :=
    ⟨bB.mod hm2 id, ⟨[], [], prNil _ _ _ _ _ _ _, rfl, rfl⟩, ⟨[], [], prNil _ _ _ _ _ _ _, rfl, rfl⟩, ⟨[], [], prNil _ _ _ _ _ _ _, rfl, rfl⟩, ⟨[], [], prNil _ _ _ _ _ _ _, rfl, rfl⟩⟩
  have hP : PlayAt (fun g => w.heap.size ≤ g ∧ g ≠ q4) (· = q4) w2 Q zeroN (.slice none 0 0) (.slice none 0 0) (.slice none 0 0) 0 0 0 0 :=
    ⟨_, _, _, _, _, _, _, _, hB, (fun g hg => by rcases hg with h | h | h | h | h | h | h | h | h <;> first | (subst h; exact ⟨by omega, by omega⟩) | cases h),
      ⟨nilList _ _ _, nilList _ _ _, nilList _ _ _, (fun r h => by cases h), ⟨by decide, by decide⟩, ⟨by decide, by decide⟩⟩, ⟨(fun h => by cases h), (fun h => by cases h), (fun h => by cases h)⟩, upto_zero⟩
  have HA := hide hA
  have HO := hide hO
  have HS := hide hs
  have hh1 : w.heap.size ≤ Q := by omega
  have HW1 := hide hw1
  have HW2 := hide hw2
  have HQ4 := hide hq4
  have HQ := hide hQ
  clear hA hO hs hw1 hw2 hq4 hQ hm1 hm2 hB bB
  go_enter Tryz.func3, Tryz.ntmps3
  go_upto_region 2 with fail
  rw [← HQ.out, ← HW1.out]
  have hi0 := infoZero
  have HI0 := hide hi0
  clear hi0
  go_wp2_with (first
    | ((with_reducible refine at_slot 9 ?_); refine wpList_val rfl (ex_build (ps := []) rfl (run_build31 _)) ?_; go_frame)
    | ((with_reducible refine at_slot 4 ?_); refine wpList_declare rfl rfl 34 4 (.tmp 9) rfl rfl rfl zeroNode zeroNode zeroNodeV HI0.out rfl oneZero (by simp) rfl ?_; go_frame; rw [← HW2.out, ← HQ4.out]))
  clear HW1 HW2 HQ4 HQ
  go_loopw [6] (fun s6 wr => ∃ (i : Nat) (n : NodeD) (vm vn vl : Value) (kR kN kE : Nat), s6 = .int .i64 i ∧ i ≤ l.length ∧ i ≤ 40 ∧ Blk wr q4 34 (nodeC n vm vn vl) ∧ PlayAt (fun g => w.heap.size ≤ g ∧ g ≠ q4) (· = q4) wr Q n vm vn vl kR kN kE (100 * i) ∧ kR ≤ 100 * i ∧ kN ≤ 100 * i ∧ kE ≤ 100 * i ∧ Mod (w.heap.size ≤ ·) w wr) (fun s6 _ => 40 - (intOf s6).toNat)
  case atStart => exact ⟨0, zeroN, _, _, _, 0, 0, 0, rfl, Nat.zero_le _, Nat.zero_le _, b4, hP, Nat.zero_le _, Nat.zero_le _, Nat.zero_le _, hM.none⟩
  clear hP b4 hM
  obtain ⟨i, n, vm, vn, vl, kR, kN, kE, rfl, hi1, hi2, b4, hP, hk1, hk2, hk3, hM⟩ := hrel
  by_cases hlt1 : i < l.length
  · have hi3 : (i : Int) < l.length := by omega
    by_cases hlt2 : i < 40
    · have hi4 : (i : Int) < 40 := by omega
      obtain ⟨g, o, rfl, hg, hcell⟩ := HA.out (by omega)
      have hc := hcell i hlt1
      have hox := HO.out _ (List.getElem_mem hlt1)
      obtain ⟨x, hx⟩ : ∃ x, x = l[i] := ⟨_, rfl⟩
      rw [← hx] at hc hox
      have hrg : wr.rangeAt g (o + i * 13) (encOpV x) := fun j u h => (World.cell?_of_block (hM.block g hg (by omega))).trans (hc j u h)
      have hin := hox.mod hM (fun g h => h)
      have hSR : Steps wr := HS.out.mod hM (by have := HS.out.1; omega)
      have hoff : OffS (fun g => w.heap.size ≤ g ∧ g ≠ q4) x.ve x.es.length := offS_of hox.ents (fun g h => h.1)
      have hq4l := b4.lt
      have hwz := hM.size
      have hglt : g < wr.heap.size := by omega
      have hw0 := HS.out.1
      obtain ⟨k, N, am, an, al, K, ve, es⟩ := x
      obtain ⟨hin1, hin2, hin3⟩ := hin
      simp only at hin1 hin2 hin3 hoff
      have HP := hide hP
      have HM := hide hM
      have HN1 := hide hin1
      have HN2 := hide hin2
      have HOF := hide hoff
      have HSR := hide hSR
      clear hx hc hcell hox hP hM hin1 hin2 hoff hSR
      go_upto_region 7 with fail
      refine region_jxw [(true, 0), (true, 1), (true, 2), (true, 3), (true, 4), (true, 5), (false, 6), (true, 7), (true, 8), (true, 9), (false, 10), (true, 11)] [10] (fun w' => w'.rangeAt g (o + i * 13) (encOpV ⟨k, N, am, an, al, K, ve, es⟩)) (fun _ w' => Blk w' q4 34 (nodeC n vm vn vl)) (by kernel_rfl) (by kernel_rfl) ?_
      rintro w3 hw3
      have hm3 : Mod None_ wr w3 := by rw [hw3]; exact (Mod.refl _ wr).drew
      replace b4 := b4.mod hm3 id
      have hrg3 := rangeAt_mod hrg hm3 hglt id
      have hsz3 := hm3.size
      clear hw3 hrg
      refine ⟨hrg3, fun _ _ => b4, ?_⟩
      have HIN := hide (infoNode n vm vn vl)
      refine jxw_quiet rfl rfl [] (by kernel_rfl) (fun w' i1 i2 K hK => by go_simp; exact hK) ?_
      go_frame
      refine jxw_qv rfl rfl [10] (by kernel_rfl) rfl (fun w' hI hR => ex_load rfl (run_loadRow (hR 10 (by simp)) Tryz.underlying34 rfl HIN.out)) ?_
      try go_frame
      iterate 3 (refine jxw_quiet rfl rfl [] (by kernel_rfl) (fun w' i1 i2 K hK => by go_simp; exact hK) ?_; go_frame)
      refine jxw_qv rfl rfl [] (by kernel_rfl) rfl (fun w' hI hR => ex_load rfl (run_loadMidA w' g (o + i * 13) 39 (opC k N am an al K ve) _ hI Tryz.underlying39 rfl (by show _ = some 13; kernel_rfl))) ?_
      try go_frame
      have HPL := hide (plays_any w3 Q (fun g => w.heap.size ≤ g ∧ g ≠ q4) n vm vn vl kR kN kE (100 * i) k K N am an al ve es (HSR.out.kept hm3) (by omega) (fun g hg => ⟨by omega, by omega⟩) (· = q4) (fun g hg => by subst hg; omega) (HP.out.kept hm3) (HN1.out.kept hm3) (HN2.out.kept hm3) HOF.out ⟨by omega, by omega, by omega, by omega⟩ hin3)
      refine jxw_loud rfl (fun K hK => ?_)
      go_simp
      refine Calls.mono HPL.out ?_
      rintro y w4 ⟨n2, um, un, ul, kR2, kN2, kE2, rfl, hP2, hm4, hl1, hl2, hl3⟩
      have hrg4 := rangeAt_mod hrg3 hm4 (by omega) (fun h => by have := h.1; omega)
      replace b4 := b4.mod hm4 (fun h => h.2 rfl)
      have hM4 := (HM.out.trans hm3.none).trans' hm4 (fun g _ h => h.1)
      refine ⟨_, rfl, ⟨hrg4, fun _ _ _ => b4⟩, hK _ _ ?_⟩
      clear hK K HPL hrg3 hm4 hm3 HP HM HN1 HN2 HOF HSR
      try go_frame
      iterate 3 (refine jxw_quiet rfl rfl [] (by kernel_rfl) (fun w' i1 i2 K hK => by go_simp; exact hK) ?_; go_frame)
      have HI2 := hide (infoNode n2 um un ul)
      have HO2 := hide (nodeIn_one hP2.in_)
      have hms : Mod (· = q4) w4 (w4.setRow q4 (nodeC n2 um un ul)) := (Mod.refl (· = q4) w4).setRow (.inr rfl) _
      refine jxw_storeRow rfl rfl 34 (.tmp 4) (.tmp 28) rfl q4 (nodeC n2 um un ul) rfl rfl 34 (nodeC n vm vn vl) b4 HI2.out rfl HO2.out ⟨rangeAt_mod hrg4 hms (by have := hM4.size; omega) (by omega), fun d hd hn => absurd (by simp at hd; simp [hd]) hn⟩ ?_
      try go_frame
      refine jxw_quiet rfl rfl [] (by kernel_rfl) (fun w' i1 i2 K hK => by go_simp; exact hK) ?_
      go_frame
      refine jxw_nil ?_
      have hP5 := hP2.node b4 rfl hms
      have b5 := b4.row (nodeC n2 um un ul)
      have hM5 := hM4.trans' hms (fun g _ h => by subst h; omega)
      obtain ⟨w5, hw5⟩ : ∃ y, y = w4.setRow q4 (nodeC n2 um un ul) := ⟨_, rfl⟩
      rw [← hw5] at hP5 b5 hM5 ⊢
      have HHO : Hid (Calls Tryz.prog 5 #[.pointer (some ⟨Q, 0, none⟩)] w5 fun e w'' => e = .returned (.bool true) ∧ w5 = w'') := hide (by
        obtain ⟨v0, v1, v2, v3, v4, v5, v6, v7, hB, _⟩ := hP5
        exact hH w5 Q _ v0 v1 v2 v3 v4 v5 v6 v7 kR2 kN2 kE2 hB ⟨by omega, by omega, by omega⟩)
      have HP5 := hide (hP5.weak (fun _ h => h) (show 100 * i + 100 ≤ 100 * (i + 1) by omega))
      have HM5 := hide hM5
      clear hw5 hms hP2 hP5 hM4 hM5 b4 hrg4 HIN HI2 HO2
      go_wp2_with fail
      refine Calls.mono HHO.out ?_
      rintro y w6 ⟨rfl, rfl⟩
      go_wp2_with fail
      go_roundw
      case rel => exact ⟨i + 1, n2, um, un, ul, kR2, kN2, kE2, by simp, by omega, by omega, b5, HP5.out, by omega, by omega, by omega, HM5.out⟩
      case measure => simp [intOf]; omega
    · have hi4 : ¬ (i : Int) < 40 := by omega
      have HF := hide (hM.mono (T := None_) fun g hg h => by omega)
      clear hP hM
      go_wp2
      go_ret
      exact ⟨rfl, HF.out⟩
  · have hi3 : ¬ (i : Int) < l.length := by omega
    have HF := hide (hM.mono (T := None_) fun g hg h => by omega)
    clear hP hM
    go_wp2
    go_ret
    exact ⟨rfl, HF.out⟩
end Go.Proofs.YtabebkffcmajkaaGreatDoor

/-! A script of Ops as an argument. -/
namespace Go.Proofs.YtabebkffcmajkaaGreatDoor
open Go.RowKit Go.Maps Go.ChangeShapes Go.WideShapes Go.Deep
section
variable {H : Type} {ec : TypeId × Value → H} {W : World} {base : Nat} {spare : Nat → Bool} {held : Bool}
theorem bulk_elems_le (elems spare : List (DataW H)) : Rows.uptoBulkAll elems ≤ Rows.uptoBulk (.slice elems spare) := by
  simp only [Rows.uptoBulk]
  omega
theorem open_listB {α : Type} (enc : α → List Value) (Q : α → Prop) (sz : Nat) (hs : 0 < sz) {tS tE : TypeId} (ht : Tryz.prog.underlying tS = some (.slice tE)) (hC : Tryz.prog.cellsOf tE = sz) (he : ∀ y, (enc y).length = sz) (B : Nat)
    (hdec : ∀ n cs x, DataW.trod ec Tryz.prog W base spare held n tE cs = some x → Rows.uptoBulk x.1 ≤ B → ∃ y : α, cs = enc y ∧ Q y)
    {fuel : Nat} {cv : Value} {x : DataW H × List MemPlace} (h : DataW.trod ec Tryz.prog W base spare held fuel tS [cv] = some x) (hB : Rows.uptoBulk x.1 ≤ B) : ∃ l : List α, ListAt enc sz W cv l ∧ ∀ y ∈ l, Q y := by
  rcases open_slice ht h with ⟨h0, _⟩ | ⟨a, len, cap, m, n, D, Pl, hcs, hb, hl, hm, hmm, hx, hi⟩
  · simp only [List.cons.injEq, and_true] at h0
    subst h0
    exact ⟨[], ⟨none, 0, rfl, Nat.le_refl _, by unfold maxLen; omega, fun h => by simp at h⟩, by simp⟩
  · simp only [List.cons.injEq, and_true] at hcs
    subst hcs
    have hlm : len ≤ m := by rw [hmm]; split <;> omega
    have hDB : ∀ i, i < len → Rows.uptoBulk (D i) ≤ B := fun i hi' => by
      rw [hx] at hB
      have h1 : D i ∈ (List.range len).map D := List.mem_map.2 ⟨i, List.mem_range.2 hi', rfl⟩
      exact Nat.le_trans (bulk_part_le h1) (Nat.le_trans (bulk_elems_le _ _) hB)
    obtain ⟨l, hll, hp⟩ := list_of (P := fun i (y : α) => Q y ∧ ∀ j u, (enc y)[j]? = some u → W.cell? (a.add (i * sz + j)) = some u) len (fun i hi' => by
      obtain ⟨cs', hc, ht'⟩ := hi i (Nat.lt_of_lt_of_le hi' hlm)
      rw [hC] at hc
      obtain ⟨y, rfl, hq⟩ := hdec _ _ _ ht' (hDB i hi')
      obtain ⟨_, hcl, hat⟩ := World.cells?_some hc
      refine ⟨y, hq, fun j u hj => ?_⟩
      have hjl : j < sz := by have := (List.getElem?_eq_some_iff.1 hj).1; rwa [he] at this
      have hcell := hat j hjl
      rw [← Go.Deep.add_add, hcell, hj])
    subst hll
    refine ⟨l, ⟨some a, cap, rfl, hl, hm, fun h0 => ?_⟩, fun y hy => ?_⟩
    · obtain ⟨q0, c0⟩ := hp 0 h0
      have hz : 0 < (enc l[0]).length := by rw [he]; exact hs
      have c00 := c0 0 _ (List.getElem?_eq_getElem hz)
      have h2 : a.add (0 * sz + 0) = a := by rw [Nat.zero_mul]; rfl
      rw [h2] at c00
      have hsp := spot_of c00
      have hg := block_lt_of_cell c00
      obtain ⟨g, o, sp⟩ := a
      simp only at hsp
      subst hsp
      have hadd : ∀ n, (⟨g, o, none⟩ : Addr).add n = ⟨g, o + n, none⟩ := fun n => by unfold Addr.add; split <;> simp_all
      refine ⟨g, o, rfl, hg, fun i hi' j u hj => ?_⟩
      have := (hp i hi').2 j u hj
      rw [hadd, ← Nat.add_assoc] at this
      exact this
    · obtain ⟨i, hi', rfl⟩ := List.getElem_of_mem hy
      exact (hp i hi').1
theorem cellsOpV : Tryz.prog.cellsOf 39 = 13 := by kernel_rfl
set_option maxRecDepth 100000 in
theorem dec_op {n : Nat} {cs : List Value} {x : DataW H × List MemPlace} (h : DataW.trod ec Tryz.prog W base spare held n 39 cs = some x) (hB : Rows.uptoBulk x.1 ≤ 1048576) : ∃ y : OpVD, cs = encOpV y ∧ OpIn W y := by
  obtain ⟨ys, n', hn', hy, hlen, hyl, hf⟩ := DataW.trod_struct Tryz.underlying39 h
  rw [cellsOpV] at hlen
  match cs, hlen with
  | [a0, a1, a2, a3, a4, a5, a6, a7, a8, a9, a10, a11, a12], _ =>
    have t0 := hf 0 _ rfl
    have t1 := hf 1 _ rfl
    have t2 := hf 2 _ rfl
    have t3 := hf 3 _ rfl
    simp only [List.getElem_toArray, List.getElem_cons_zero, List.getElem_cons_succ, cellsInt, cellsNode, cellsLE, List.drop_zero, List.take_succ_cons, List.take_zero, List.drop_succ_cons] at t0 t1 t2 t3
    match ys, hyl with
    | [y0, y1, y2, y3], _ =>
      obtain ⟨x0, q0, w0⟩ := dec_int (t0.trans rfl)
      obtain ⟨N, vm, vn, vl, qN, hN, _, _⟩ := dec_node (t1.trans rfl)
      obtain ⟨x2, q2, w2⟩ := dec_int (t2.trans rfl)
      obtain ⟨l3, L3, _, z3⟩ := open_list encEntry (fun _ => True) 8 (by omega) Tryz.underlying37 cellsEntry (fun _ => rfl) (fun n cs x hx => dec_entry hx) (t3.trans rfl)
      simp only [encInt, List.cons.injEq, and_true] at q0 q2
      subst q0 q2
      have hb3 : Rows.uptoBulk y3.1 ≤ 1048576 := by
        rw [hy] at hB
        have h1 : y3.1 ∈ [y0, y1, y2, y3].map Prod.fst := List.mem_map_of_mem (f := Prod.fst) (by simp)
        have h2 := bulk_part_le h1
        have e : Rows.uptoBulk (.agg ([y0, y1, y2, y3].map Prod.fst)) = Rows.uptoBulkAll ([y0, y1, y2, y3].map Prod.fst) + 1 := by simp only [Rows.uptoBulk]
        have h3 : Rows.uptoBulk (.agg ([y0, y1, y2, y3].map Prod.fst)) ≤ 1048576 := hB
        omega
      refine ⟨⟨x0, N, vm, vn, vl, x2, a12, l3⟩, ?_, ⟨hN, L3, ?_⟩⟩
      · show _ = (opC x0 N vm vn vl x2 a12).toList
        have e : [a1, a2, a3, a4, a5, a6, a7, a8, a9, a10] = (nodeC N vm vn vl).toList := qN
        simp only [nodeC, List.cons.injEq, and_true] at e
        obtain ⟨rfl, rfl, rfl, rfl, rfl, rfl, rfl, rfl, rfl, rfl⟩ := e
        rfl
      · show l3.length ≤ 2000000
        omega
end
theorem open_opsV {H : Type} {ec : TypeId × Value → H} {W : World} {v : Value} {d : DataW H} {p : List MemPlace} (h : DataW.Trod ec Tryz.prog W 0 (fun _ => true) true 22 v d p) (hv : v.cells.toList = [v]) (hB : Rows.uptoBulk d ≤ 1048576) :
    ∃ l : List OpVD, ListAt encOpV 13 W v l ∧ ∀ x ∈ l, OpIn W x := by
  obtain ⟨fuel, hf⟩ := h
  rw [hv] at hf
  exact open_listB encOpV (OpIn W) 13 (by omega) Tryz.underlying22 cellsOpV (fun _ => rfl) 1048576 (fun n cs x hx hb => dec_op hx hb) hf hB
theorem lawAll_any (w : World) (v : Value) (l : List OpVD) (hs : Steps w) (h : ListAt encOpV 13 w v l) (hO : ∀ x ∈ l, OpIn w x) : Calls Tryz.prog 3 #[v] w (BoolPost w true) :=
  lawAll w v l hs h hO fun w' Q b v0 v1 v2 v3 v4 v5 v6 v7 kR kN kE hB hk => holds_any w' Q b v0 v1 v2 v3 v4 v5 v6 v7 kR kN kE hB hk.2.1 hk.2.2 (nodesHold_any w' Q b v0 v1 v2 v3 v4 v5 v6 v7 kR kN kE hB hk.1)
end Go.Proofs.YtabebkffcmajkaaGreatDoor

namespace Go.Proofs.YtabebkffcmajkaaGreatDoor.inodeAll
open Go.ChangeShapes Go.WideShapes Go.ChangeAt Go.RowKit
open Go.ChangeMaps (open_string shut_string)
set_option linter.unusedVariables false
theorem ownG : ownKnob Tryz.prog.godebug = none := by kernel_rfl
theorem gSteps : Tryz.prog.globalNamed "furrow/codec.steps" = some 0 := by kernel_rfl
theorem gStepsType : (Tryz.prog.globals[0]?).map (·.type) = some 167 := by kernel_rfl
theorem cellsT16 : Tryz.prog.cellsOf 167 = 16 := by kernel_rfl
theorem cellsU32 : Tryz.prog.cellsOf 146 = 1 := by kernel_rfl
theorem steps_tab {W : World} (h : laidMetH Tryz.prog Rows.inodeAllUptoRow.laid W) : Lib.TabIs Tryz.prog W "furrow/codec.steps" .u32 sumTab :=
  Lib.tabIs_of_head (rest := []) gSteps gStepsType Tryz.underlying167 Tryz.underlying146 cellsU32 cellsT16 h
theorem steps_of {W : World} (h : laidMetH Tryz.prog Rows.inodeAllUptoRow.laid W) : Steps W := by
  have ht := steps_tab h
  have hc : ∀ i : Nat, i < 16 → W.cell? ⟨0, i, none⟩ = some (.int .u32 (sumTab.getD i 0)) := fun i hi => ht.cell gSteps i hi
  exact ⟨block_lt_of_cell (hc 0 (by omega)), hc⟩
set_option maxRecDepth 100000 in
theorem contract (H : Type) (enc : TypeId × Value → H) (W : World) (base : Nat) (args : Array Value) (ds gs : List (DataW H)) (before : List MemPlace)
    (hval : ∀ (j : Nat) t v, Tryz.f3.params[j]? = some t → args[j]? = some v → Value.okWide Tryz.prog W .any base t v)
    (hW : DataW.Whole enc Tryz.prog Tryz.f3.params.toList Rows.inodeAllSpec.vars false W args.toList ds gs before) (hL : laidMetH Tryz.prog Rows.inodeAllUptoRow.laid W) (hk : Rows.uptoSmall H (ds ++ gs) = true) :
    Calls Tryz.prog 3 args W fun e W' => ∃ v, e = .returned v ∧ Rows.inodeAllSpec.post enc Tryz.prog Tryz.f3 false true false false W args v W' := by
  have hW' := hW
  obtain ⟨p, q, hA0, hV, rfl, hfz, hnd⟩ := hW
  have hA : DataW.TrodAll enc Tryz.prog W 0 (fun _ => true) true Tryz.f3.params.toList args.toList ds p := hA0
  rw [Tryz.params3] at hA hval
  obtain ⟨v0, vs0, d0, ds0, p0, q0, hargs, rfl, rfl, h0, r0⟩ := trodAll_cons hA
  obtain ⟨rfl, rfl, rfl⟩ := trodAll_nil r0
  obtain rfl : args = #[v0] := by cases args; simp_all
  obtain ⟨rfl, rfl⟩ := trodVars_none hV
  have k0 := h0
  have lt0 : ∀ x ∈ p0, x.block < W.heap.size := by obtain ⟨m, hm⟩ := k0; exact DataW.trod_lt m _ _ _ hm
  have hb0 : Rows.uptoBulk d0 ≤ 1048576 := by
    have h := bulk_bound hk
    exact Nat.le_trans (bulk_part_le (by simp)) h
  obtain ⟨sa0, sl0, sc0, rfl⟩ := okWide_slice Tryz.underlying22 (hval 0 22 v0 rfl rfl)
  obtain ⟨l0, hl0, hO0⟩ := open_opsV h0 rfl hb0
  clear hA0
  refine (lawAll_any W _ l0 (steps_of hL) hl0 hO0).mono fun e W' ⟨he, hm⟩ => ?_
  subst he
  have bel := hm.below
  exact ⟨_, rfl, _, _, _, [], _, [], hW', trodAll_mk1 (shut_bool Tryz.underlying4 _),
    (trodAll_cons_mk (Below.trod laidOut (by kernel_rfl) (of_decide_eq_true (by kernel_rfl)) k0 bel lt0) trodAll_mk0),
    rfl, bel.frame _, fun h => by cases h⟩
/-- a world for the witness: the settled one, the table (block 0) holding what its initialiser lays -/
noncomputable def laidWorld (os : Os) : World :=
  { World.holding Tryz.prog os ⟨#[], #[], []⟩ with heap := (World.holding Tryz.prog os ⟨#[], #[], []⟩).heap.modify 0 fun
      | .cells _ t frozen => .cells (sumTab.map (Value.int .u32)).toArray t frozen
      | o => o }
theorem laid_met (os : Os) : laidMet Tryz.prog Rows.inodeAllUptoRow.laid ((laidWorld os).forCall (fun _ _ => 0) ⟨#[], #[.slice none 0 0], []⟩).memory :=
  laidMet_of_run' 8 (by kernel_rfl) (by kernel_rfl)
theorem reads (os : Os) {H : Type} (enc : TypeId × Value → H) : ∃ places, DataW.whole enc Tryz.prog ((laidWorld os).forCall (fun _ _ => 0) ⟨#[], #[.slice none 0 0], []⟩).memory Tryz.f3.params.toList Rows.inodeAllSpec.vars false #[Value.slice none 0 0].toList 8 = some ([.nil], [], places) :=
  ⟨[], by kernel_rfl⟩
set_option maxRecDepth 100000 in
theorem lifted (os : Os) (started : os.Started) (H : Type) (enc : TypeId × Value → H) (F : Stop.Interp) :
    ReturnsInHanded {} Tryz.checked os 3 .any ((Rows.OpenSpec.upto Rows.inodeAllSpec).preRow enc Tryz.prog Tryz.f3 Rows.inodeAllUptoRow.domain false Rows.inodeAllUptoRow.laid) (((Rows.OpenSpec.upto Rows.inodeAllSpec).at F).post enc Tryz.prog Tryz.f3 false true false false) := by
  obtain ⟨places, hx⟩ := reads os enc
  refine returnsInHanded_of_row (C := Tryz.checked) (s := Rows.OpenSpec.upto Rows.inodeAllSpec) ownG started (by kernel_rfl) Tryz.func3
    (witness_row_at (enc := enc) (C := Tryz.checked) false (laidWorld os) #[.slice none 0 0] rfl (by kernel_rfl) (by kernel_rfl) (by kernel_rfl)
      (OpenSpec.preRow_of_cond 8 hx (by kernel_rfl) (fun k hk => by cases hk; kernel_rfl) (by kernel_rfl) (laid_met os))) ?_
  intro W base args ds gs before hval hW _ hcond _ hL _ _
  exact contract H enc W base args ds gs before hval hW hL (hcond _ rfl)
theorem said : Rows.InodeAllUptoSaid :=
  OpenClaim.holds_of_cond 3 Tryz.f3 rfl rfl rfl rfl rfl rfl rfl ⟨rfl, rfl, rfl, rfl, rfl⟩ rfl rfl rfl rfl rfl (by kernel_rfl) Tryz.func3 (by kernel_rfl)
    (of_decide_eq_true (by kernel_rfl)) (by unfold Func.isWrapper; first | (rw [if_pos (by decide +kernel)]; kernel_rfl) | (rw [if_neg (by decide +kernel)]; exact ⟨rfl, rfl⟩))
    (fun os started H enc _ F => by rw [OpenClaim.pre_eq_preRow]; exact lifted os started H enc F)
theorem plain (f : FuncId) (fn : Func) (hf : Tryz.pinned.checked.prog.funcNamed "furrow/furrowlaw09.InodeAll" = some f) (hfn : Tryz.pinned.checked.prog.funcs[f]? = some fn) :
    true = Tryz.pinned.checked.prog.looks [] ∧ ∀ (j : Nat) t, fn.params[j]? = some t → Tryz.pinned.checked.prog.wantsStandIn t = false := by
  obtain rfl : f = 3 := Option.some.inj ((show Tryz.prog.funcNamed "furrow/furrowlaw09.InodeAll" = some 3 by kernel_rfl).symm.trans hf) |>.symm
  obtain rfl : fn = Tryz.f3 := (Option.some.inj (Tryz.func3.symm.trans hfn)).symm
  refine ⟨by kernel_rfl, fun j t ht => ?_⟩
  rw [Tryz.params3] at ht
  have hm := Array.mem_of_getElem? ht
  simp only [List.mem_toArray, List.mem_cons, List.not_mem_nil, or_false] at hm
  rcases hm with rfl
  · exact (show Tryz.prog.wantsStandIn 22 = false by kernel_rfl)
theorem card : Rows.InodeAllUptoCardSaid :=
  Claim7.holds_tied_plain_at .later [] _ _ _ _ said (fun _ h => by cases h) (by kernel_rfl) (fun _ h => by cases h) inodeAllUpto_row_tie rfl ⟨rfl, rfl⟩ (by kernel_rfl) rfl plain (by kernel_rfl)
end Go.Proofs.YtabebkffcmajkaaGreatDoor.inodeAll
namespace Go.Proofs.YtabebkffcmajkaaGreatDoor
theorem inodeAll_holds : Rows.InodeAllUptoCardSaid := inodeAll.card
#print axioms inodeAll_holds
end Go.Proofs.YtabebkffcmajkaaGreatDoor
