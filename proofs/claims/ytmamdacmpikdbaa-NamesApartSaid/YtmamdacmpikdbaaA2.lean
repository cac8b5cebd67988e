import Derived.Test.YtmamdacmpikdbaaA1
import Derived.Test.YtmamdacmpikdbaaRF3
/-! all: what All of a directory gives, collected. -/
namespace Go.Proofs.Ytmamdacmpikdbaa
open Go.RowKit Go.Maps Go.Shelf
attribute [local go_sem] Oper.semAt_some

theorem at_slotIn {F : Fence} {m : Nat} {P : Program} {ops : Array Oper} {rest : List Oper} {a : Act} {w : World} {Q : Exit → Act → World → Prop} (n : Nat) {op : Op} {ty : TypeId} {pos : String} {after : Array Edge} {g : Option (Nat × Bool)}
    (h : wpListIn F m P ops Q (⟨some n, op, ty, pos, after, g⟩ :: rest) a w) : wpListIn F m P ops Q (⟨some n, op, ty, pos, after, g⟩ :: rest) a w := h
/-- what a round does that appends to a slice of its own in the variable bl -/
theorem grown_keeps {B bl : Nat} {U w1 : World} {A A2 : Option Addr} {n c n2 c2 : Nat} {xs xs2 : List Value} (hbl : bl < B) (_hB : B ≤ U.heap.size) (hv : Blk U bl 28 #[.slice A n c]) (hown : U.ownsRow B 36 2 (.slice A n c) n xs) (hown2 : w1.ownsRow B 36 2 (.slice A2 n2 c2) n2 xs2)
    (hm : Mod (fun k => some k = (Value.slice A n c).ownBlock) U w1) (hat : (Value.slice A2 n2 c2).ownBlock = (Value.slice A n c).ownBlock ∨ (Value.slice A2 n2 c2).ownBlock = some (U.heap.size + 1)) :
    KeepsFrom B U (w1.setCell ⟨bl, 0, none⟩ (.slice A2 n2 c2)) ∧ KpO B bl U (w1.setCell ⟨bl, 0, none⟩ (.slice A2 n2 c2)) ∧ Blk (w1.setCell ⟨bl, 0, none⟩ (.slice A2 n2 c2)) bl 28 #[.slice A2 n2 c2] ∧ (w1.setCell ⟨bl, 0, none⟩ (.slice A2 n2 c2)).ownsRow B 36 2 (.slice A2 n2 c2) n2 xs2 ∧
      Mod (fun k => B ≤ k ∨ k = bl) U (w1.setCell ⟨bl, 0, none⟩ (.slice A2 n2 c2)) := by
  have hob : ∀ g, (Value.slice A n c).ownBlock = some g → B ≤ g ∧ ∃ cur, U.heap[g]? = some (.cells cur 36 (0, 0)) := fun g hg => own_blk hown hg
  have hv1 := hv.mod hm (fun e => by have := (hob _ e.symm).1; omega)
  have hv2 : Blk (w1.setCell ⟨bl, 0, none⟩ (.slice A2 n2 c2)) bl 28 #[.slice A2 n2 c2] := by simpa using hv1.set_ 0 (.slice A2 n2 c2)
  refine ⟨⟨by simpa [World.setCell] using hm.size, fun k o hk ho hoc => ?_⟩, ⟨by simpa [World.setCell] using hm.size, fun k cs t fr hk hc hne => ?_, fun k hk => ?_⟩, hv2, own_mod hown2 ((Mod.refl (· = bl) w1).setCell (p := ⟨bl, 0, none⟩) (.inr rfl) _) (fun g hg e => by have := (own_blk hown2 hg).1; omega), ?_⟩
  · have hlt := (Array.getElem?_eq_some_iff.1 ho).1
    refine (Below.heap_setCell w1 _ _ k (by simp; omega)).trans ((hm.block k hlt (fun e => ?_)).trans ho)
    obtain ⟨_, cur, hh⟩ := hob k e.symm
    rw [hh] at ho; cases ho; simp [Obj.isCells] at hoc
  · have hlt := (Array.getElem?_eq_some_iff.1 hc).1
    refine (Below.heap_setCell w1 _ _ k (by simp; omega)).trans ((hm.block k hlt (fun e => ?_)).trans hc)
    apply hne
    rw [e]; unfold ownerAt; rw [hv.cell 0]; rfl
  · have e1 : ownerAt (w1.setCell ⟨bl, 0, none⟩ (.slice A2 n2 c2)) bl = (Value.slice A2 n2 c2).ownBlock := by unfold ownerAt; rw [hv2.cell 0]; rfl
    have e2 : ownerAt U bl = (Value.slice A n c).ownBlock := by unfold ownerAt; rw [hv.cell 0]; rfl
    rw [e1] at hk
    rcases hat with h | h
    · left; rw [e2, ← h]; exact hk
    · right; rw [h] at hk; injection hk with hk; omega
  · exact Mod.setCell (S := fun k => B ≤ k ∨ k = bl) (hm.mono fun k _ e => .inl (hob k e.symm).1) (.inr (.inr rfl)) _
theorem wpListIn_append_dent {F : Fence} {n : Nat} {ops : Array Oper} {rest : List Oper} {o : Oper} {a : Act} {w : World} {Q : Exit → Act → World → Prop} (hg : o.guard = none) (s x : Operand)
    (ho : o.op = .call { callee := .builtin .append, args := #[s, x], argTypes := #[28, 28] }) (W : World) (base : Nat) (v : Value) (acc : List (ByteArray × Int)) (p : ByteArray × Int)
    (hw : w = W.alloc (.cells #[.string p.1, .int .i64 p.2] 36)) (hs : a.eval s = v) (gx : Nat) (hgx : gx = W.heap.size) (hx : a.eval x = .slice (some ⟨gx, 0, none⟩) 1 1)
    (hown : W.ownsRow base 36 2 v acc.length (pairCells acc)) (hb : base ≤ W.heap.size) (hl : acc.length ≤ 5000000000000)
    (h : ∀ v' w', w'.ownsRow base 36 2 v' (acc ++ [p]).length (pairCells (acc ++ [p])) → Mod (fun k => some k = v.ownBlock) W w' → (v'.ownBlock = v.ownBlock ∨ v'.ownBlock = some (W.heap.size + 1)) → wpListIn F n Try.prog ops Q rest (a.put o.dst v') w') :
    wpListIn F n Try.prog ops Q (o :: rest) a w := by
  subst hgx
  obtain ⟨i0, hi, hz, hsz, hby⟩ := info_parts info36
  have hM : Mod None_ W w := by rw [hw]; exact (Mod.refl _ W).alloc _
  have hown1 := own_mod hown hM (fun _ _ f => f)
  have hB : Blk w W.heap.size 36 #[.string p.1, .int .i64 p.2] := by rw [hw]; exact Blk.new _ _ _
  obtain ⟨v', w', hrun, hown', hgr, _, hat⟩ := run_append_own_at (P := Try.prog) w base 28 o.type 36 i0 _ 2 24 Try.underlying28 hi hz hsz hby rfl (by decide) v acc.length _ hown1 ⟨W.heap.size, 0, none⟩ 1 1 [.string p.1, .int .i64 p.2] rfl
    (fun t u ht => by rw [add_none, hB.cell]; simpa using ht) (pairCells_one [p]) (by simp only [maxLen]; omega) (by omega) (by rw [hw, alloc_size]; omega)
  have e : pairCells (acc ++ [p]) = pairCells acc ++ [.string p.1, .int .i64 p.2] := by unfold pairCells; rw [List.flatMap_append]; simp
  refine wpListIn_plain hg fun K hK' => ?_
  unfold Oper.wpIn
  refine ⟨?_, ?_⟩
  · simp [Oper.about, ho, resolve, Target.leads, Sem.run_pure]
  · rw [Oper.semAt_plain F _ _ (by rw [ho]; intro c hc'; cases hc')]
    simp [execOp, ho, resolve, invoke, builtin, hs, hx, hrun, Result.andThen]
    refine hK' _ _ (h v' w' (by rw [List.length_append, e]; exact hown') (hM.none.trans' (Mod.of_grown hgr) fun k hk e => e) ?_)
    rw [hw, alloc_size] at hat
    exact hat

set_option maxRecDepth 100000 in
set_option maxHeartbeats 2000000 in
theorem all_any (w : World) (b : Nat) (R : List Row) (d : Int) (hlen : R.length ≤ 5000000000000) (hd : (Lit.int .i64 d).wf = true) (hI : IndexAt w b R) :
    Calls Try.prog 29 #[.pointer (some ⟨b + 3, 0, none⟩), .int .i64 d, .int .i64 (listPairs R d).length] w fun e w' => ∃ v, e = .returned v ∧ Dents w' w.heap.size v (listPairs R d) ∧ Mod None_ w w' := by
  refine (callsIn_wide (n := 3)).1 ?_
  refine callsIn_of_wp_marks Try.func29 rfl trivial ?_ rfl
  simp only [Try.ntmps29, List.size_toArray, List.length_cons, List.length_nil, Nat.reduceAdd, Nat.reduceSub, Array.replicate_succ, Array.replicate_zero, List.push_toArray, List.append_toArray, List.nil_append, List.cons_append]
  gi_wp2_with (refine ⟨trivial, ?_⟩; gi_at_call 28; refine (callsIn_wide.2 (all_call _ b d)).mono ?_; rintro e w1 ⟨rfl, rfl⟩)
  have hPl : (listPairs R d).length ≤ 5000000000000 := by rw [listPairs_length]; exact Nat.le_trans (cntDir_le R d) hlen
  obtain ⟨m, hm⟩ : ∃ m, m = w.heap.size := ⟨_, rfl⟩
  obtain ⟨W, hW⟩ : ∃ W, W = (((((w.alloc (.cells #[.int .i64 (listPairs R d).length] 3)).alloc (.cells #[.slice none 0 0] 28)).alloc (.cells #[.slice none 0 0] 28)).alloc (.cells #[.pointer (some ⟨b + 3, 0, none⟩)] 24)).alloc (.cells #[.int .i64 d] 3)) := ⟨_, rfl⟩
  have h0 : Mod None_ w W := by rw [hW]; exact (((((Mod.refl _ w).alloc _).alloc _).alloc _).alloc _).alloc _
  have hsz : W.heap.size = m + 5 := by rw [hW, hm]; simp
  have b0 : Blk W m 3 #[.int .i64 (listPairs R d).length] := by rw [hW, hm]; exact ((((Blk.new w 3 _).alloc _).alloc _).alloc _).alloc _
  have b1 : Blk W (m + 1) 28 #[.slice none 0 0] := by
    have := (((Blk.new (w.alloc (.cells #[.int .i64 (listPairs R d).length] 3)) 28 #[.slice none 0 0]).alloc (.cells #[.slice none 0 0] 28)).alloc (.cells #[.pointer (some ⟨b + 3, 0, none⟩)] 24)).alloc (.cells #[.int .i64 d] 3)
    rw [alloc_size, ← hm, ← hW] at this; exact this
  have b2 : Blk W (m + 2) 28 #[.slice none 0 0] := by
    have := ((Blk.new ((w.alloc (.cells #[.int .i64 (listPairs R d).length] 3)).alloc (.cells #[.slice none 0 0] 28)) 28 #[.slice none 0 0]).alloc (.cells #[.pointer (some ⟨b + 3, 0, none⟩)] 24)).alloc (.cells #[.int .i64 d] 3)
    rw [alloc_size, alloc_size, ← hm, ← hW] at this; exact this
  have b3 : Blk W (m + 3) 24 #[.pointer (some ⟨b + 3, 0, none⟩)] := by
    have := (Blk.new (((w.alloc (.cells #[.int .i64 (listPairs R d).length] 3)).alloc (.cells #[.slice none 0 0] 28)).alloc (.cells #[.slice none 0 0] 28)) 24 #[.pointer (some ⟨b + 3, 0, none⟩)]).alloc (.cells #[.int .i64 d] 3)
    rw [alloc_size, alloc_size, alloc_size, ← hm, ← hW] at this; exact this
  have b4 : Blk W (m + 4) 3 #[.int .i64 d] := by
    have := Blk.new ((((w.alloc (.cells #[.int .i64 (listPairs R d).length] 3)).alloc (.cells #[.slice none 0 0] 28)).alloc (.cells #[.slice none 0 0] 28)).alloc (.cells #[.pointer (some ⟨b + 3, 0, none⟩)] 24)) 3 #[.int .i64 d]
    rw [alloc_size, alloc_size, alloc_size, alloc_size, ← hm, ← hW] at this; exact this
  rw [← hW, ← hm]
  have hIW := hI.kept h0
  have hno : ownerAt W (m + 2) = none := by unfold ownerAt; rw [b2.cell 0]; rfl
  obtain ⟨P, hP⟩ : ∃ P, P = listPairs R d := ⟨_, rfl⟩
  have HP := hide hP
  rw [← hP] at hPl b0 ⊢
  rw [show m + 1 + 1 + 1 + 1 = m + 4 from rfl, show m + 1 + 1 + 1 = m + 3 from rfl, show m + 1 + 1 = m + 2 from rfl]
  have hs1 : W.heap.size ≤ m + 5 := by omega
  have hs2 : m + 5 ≤ W.heap.size := by omega
  have hm1 : w.heap.size ≤ m := by omega
  have HMW := hide hm
  clear hW hP hI hsz hm
  have hst := all_stops 2 (by omega) W (KpO W.heap.size (m + 2)) (fun U _ => KpO.refl _ _ U) (fun h k => h.trans k) (fun U o hU => KpO.alloc U o (by omega)) (KpO.keep (by omega) hno) (fun h => h.size) b R d (m + 3) (m + 4) hlen hd hIW (b3.cell 0) (b4.cell 0) (by omega) (by omega)
  rw [← HP.out] at hst
  clear hIW b3 b4
  refine wpIn_rangeFunc_ownG rfl (by omega) (gf := 42) (lb := #[.pointer (some ⟨m + 3, 0, none⟩), .pointer (some ⟨m + 4, 0, none⟩)]) rfl trivial (enters_of Try.func42 (by kernel_rfl) rfl)
    hst (fun h k => h.trans k) (fun U l o o' hl h ho _ => KpO.putObj U l o o' (by omega) h ho) (Below.refl _ _) (fun _ => rfl)
    (fun pre U => (∃ v, Blk U (m + 2) 28 #[v] ∧ U.ownsRow W.heap.size 36 2 v pre.length (pairCells pre)) ∧ Blk U m 3 #[.int .i64 P.length] ∧ Blk U (m + 1) 28 #[.slice none 0 0] ∧ W.heap.size ≤ U.heap.size ∧ Mod None_ w U)
    (fun _ _ _ => False)
    ?own (fun _ _ _ _ _ hs _ _ => hs)
    ⟨⟨_, b2, rfl, .inl ⟨rfl, rfl⟩⟩, b0, b1, Nat.le_refl _, h0⟩
    (fun x => { tmps := #[.pointer (some ⟨b + 3, 0, none⟩), .int .i64 d, .int .i64 P.length, undef, undef, .pointer (some ⟨m, 0, none⟩), .pointer (some ⟨m + 1, 0, none⟩), .pointer (some ⟨m + 2, 0, none⟩), .string x.1, .int .i64 x.2, .pointer (some ⟨b + 3, 0, none⟩), .int .i64 d,
      .func (.func 42) #[] #[.pointer (some ⟨m + 3, 0, none⟩), .pointer (some ⟨m + 4, 0, none⟩)], .string x.1, .int .i64 x.2, undef, undef, undef, undef, undef, undef, undef, undef, undef, undef, undef, undef], defers := [] }) ?assign ?body ?done ?stop
  case own =>
    rintro pre A B row ⟨⟨v, hv, hown⟩, hm0, hm1, hsU, hM⟩ hg hr
    have hmod := Mod.of_grown hg
    refine ⟨⟨v, hv.mod hmod (fun e => ?_), own_mod hown hmod (fun g hg' e => ?_)⟩, hm0.mod hmod (fun e => ?_), hm1.mod hmod (fun e => ?_), Nat.le_trans hsU hmod.size, hM.trans' hmod (fun k hk e => ?_)⟩
    · have := (hr _ e.symm).1; omega
    · obtain ⟨_, o, ho, hoc⟩ := hr _ e.symm
      obtain ⟨_, cur, hh⟩ := own_blk hown hg'
      rw [hh] at ho; cases ho; simp [Obj.isCells] at hoc
    · have := (hr _ e.symm).1; omega
    · have := (hr _ e.symm).1; omega
    · have := (hr _ e.symm).1; omega
  case assign =>
    intro l x U K hK
    gi_wp2
    exact hK
  case body =>
    rintro l pre x U ⟨⟨v, hv, hown⟩, hm0, hm1, hbU, hM⟩ hlt
    obtain ⟨A, c, rfl⟩ := own_slice hown
    have cl : U.cell? ⟨m + 2, 0, none⟩ = some (.slice A pre.length c) := hv.cell 0
    have cm : U.cell? ⟨m, 0, none⟩ = some (.int .i64 P.length) := hm0.cell 0
    have hng : decide (P.length < pre.length) = false := decide_eq_false (by omega)
    have hln : (Builtin.len_ #[28] 3 #[.slice A pre.length c]).run Try.prog U = .ok (.int .i64 pre.length) U := by simp [Builtin.len_, run_underlying Try.underlying28]; rfl
    gi_wp2_with ((with_reducible refine at_slotIn 25 ?_); refine wpListIn_append_dent rfl (.tmp 20) (.tmp 24) rfl U W.heap.size (.slice A pre.length c) pre x rfl rfl U.heap.size rfl rfl hown hbU (by omega) ?_; intro v8 w8 hown8 hm8 hat8; obtain ⟨A2, c2, rfl⟩ := own_slice hown8; go_frame
                 obtain ⟨k1, k2, k3, k4, k5⟩ := grown_keeps (by omega) hbU hv hown hown8 hm8 hat8
                 have hv8 := hv.mod hm8 (fun e => by have := (own_blk hown e.symm).1; omega)
                 have cl8 : w8.cell? ⟨m + 2, 0, none⟩ = some (.slice A pre.length c) := hv8.cell 0
                 have cf8 : w8.frozen? ⟨m + 2, 0, none⟩ = false := hv8.frozen 0
                 have K1 := hide k1
                 have K2 := hide k2
                 have K3 := hide k3
                 have K4 := hide k4
                 have K5 := hide k5
                 clear k1 k2 k3 k4 k5 hown8 hm8 hat8 hv8)
    have e : (pre ++ [x]).length = pre.length + 1 := by simp
    have q1 := K1.out
    have q2 := K2.out
    have q3 := K3.out
    have q4 := K4.out
    have q5 := K5.out
    rw [e] at q1 q2 q3 q5
    have q4' : (w8.setCell ⟨m + 2, 0, none⟩ (.slice A2 (pre.length + 1) c2)).ownsRow W.heap.size 36 2 (.slice A2 (pre.length + 1) c2) (pre ++ [x]).length (pairCells (pre ++ [x])) := by
      have := q4
      rw [e] at this ⊢; exact this
    exact ⟨q1, q2, ⟨_, q3, q4'⟩, hm0.mod q5 (by omega), hm1.mod q5 (by omega), Nat.le_trans hbU q5.size, hM.trans' q5 (fun k hk e => by omega)⟩
  case done =>
    rintro D ys U hD hys ⟨⟨v, hv, hown⟩, hm0, hm1, hbU, hM⟩ hK
    obtain rfl : P = ys := hys.symm
    obtain ⟨A, c, rfl⟩ := own_slice hown
    have cl : U.cell? ⟨m + 2, 0, none⟩ = some (.slice A P.length c) := hv.cell 0
    have c1 : U.cell? ⟨m + 1, 0, none⟩ = some (.slice none 0 0) := hm1.cell 0
    have f1 : U.frozen? ⟨m + 1, 0, none⟩ = false := hm1.frozen 0
    gi_wp2
    have hK2 : (U.setCell ⟨m + 1, 0, none⟩ (.slice A P.length c)).heap[D]? = some (.deferred (some [])) := (KeepsOthers.setCell _ _ _).same D _ hK rfl
    have hm2 : Mod (· = m + 1) U (U.setCell ⟨m + 1, 0, none⟩ (.slice A P.length c)) := (Mod.refl (· = m + 1) U).setCell (p := ⟨m + 1, 0, none⟩) (.inr rfl) _
    have hm3 : Mod (· = D) (U.setCell ⟨m + 1, 0, none⟩ (.slice A P.length c)) ((U.setCell ⟨m + 1, 0, none⟩ (.slice A P.length c)).putObj D (.deferred none)) := (Mod.of_grown (grownBy_putObj' _ D _)).mono fun k _ e => by cases e; rfl
    have hB1 : Blk ((U.setCell ⟨m + 1, 0, none⟩ (.slice A P.length c)).putObj D (.deferred none)) (m + 1) 28 #[.slice A P.length c] := by
      have : Blk (U.setCell ⟨m + 1, 0, none⟩ (.slice A P.length c)) (m + 1) 28 #[.slice A P.length c] := by simpa using hm1.set_ 0 (.slice A P.length c)
      exact this.mod hm3 (by omega)
    have hc := hB1.cell 0
    have hown2 := own_mod (own_mod hown hm2 (fun g hg e => by have := (own_blk hown hg).1; omega)) hm3 (fun g hg e => by
      subst e
      have h2 := own_mod hown hm2 (fun g hg e => by have := (own_blk hown hg).1; omega)
      obtain ⟨_, cur, hh⟩ := own_blk h2 hg
      rw [hK2] at hh; cases hh)
    have hfin : Mod None_ w ((U.setCell ⟨m + 1, 0, none⟩ (.slice A P.length c)).putObj D (.deferred none)) := (hM.trans' hm2 (fun k hk e => by omega)).trans' hm3 (fun k hk e => by omega)
    refine ⟨by simp, .inl ⟨_, _, rfl, run_takeDeferred hK2, ?_⟩⟩
    have hD2 : Dents ((U.setCell ⟨m + 1, 0, none⟩ (.slice A P.length c)).putObj D (.deferred none)) w.heap.size (.slice A P.length c) (listPairs R d) := by rw [← HP.out]; exact (Dents.of_own hown2).lo (by omega)
    have HD2 := hide hD2
    have HFI := hide hfin
    clear hK hK2 hm2 hm3 hown2 hD2 hfin hown hv hm0 hm1 hM hst b0 b1 b2 hB1
    refine ⟨.slice A P.length c, ?_, _, rfl, HD2.out, HFI.out⟩
    simp [results, Try.results29, go_sem, hc]
  case stop =>
    rintro D c pre U hD _ h _
    exact h.elim
end Go.Proofs.Ytmamdacmpikdbaa
