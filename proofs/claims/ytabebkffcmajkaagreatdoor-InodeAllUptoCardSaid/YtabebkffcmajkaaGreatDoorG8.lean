import Derived.Laws.Cover3
import Derived.Great.BuildSlice
import Derived.Test.YtabebkffcmajkaaGreatDoorG4
import Derived.Test.YtabebkffcmajkaaGreatDoorG3
import Derived.Test.YtabebkffcmajkaaGreatDoorG7
import Derived.Test.YtabebkffcmajkaaGreatDoorG5
import Derived.Test.YtabebkffcmajkaaGreatDoorG1
import Derived.Test.YtabebkffcmajkaaGreatDoorG6
set_option linter.unusedVariables false
set_option linter.unusedSimpArgs false
/-! Walk: radix' Cut. -/
namespace Go.Proofs.YtabebkffcmajkaaGreatDoor
open Go.RowKit Go.Maps Go.Shelf
attribute [local go_sem] quietV loudUpon Oper.semAt_some

def cutOne (g : Nat → Int) (x : Int × Int) : Nat → Int := if 0 ≤ x.1 ∧ x.1 < 512 then setAt g x.1.toNat 0 else g
def cutTo (f : Nat → Int) (L : List (Int × Int)) : Nat → Int := L.foldl cutOne f
def cutF (f : Nat → Int) (n : Int) : Nat → Int := fun i => if n ≤ (i : Int) then 0 else f i
theorem cutTo_snoc (f : Nat → Int) (L : List (Int × Int)) (x : Int × Int) : cutTo f (L ++ [x]) = cutOne (cutTo f L) x := by unfold cutTo; rw [List.foldl_append]; rfl
theorem cutTo_zero (i : Nat) : ∀ (L : List (Int × Int)) (f : Nat → Int), f i = 0 → cutTo f L i = 0
  | [], _, h => h
  | x :: L, f, h => cutTo_zero i L (cutOne f x) (by
    unfold cutOne
    split
    · unfold setAt; split
      · rfl
      · exact h
    · exact h)
theorem cutTo_in (i : Nat) (hi : i < 512) : ∀ (L : List (Int × Int)) (f : Nat → Int) (x : Int × Int), x ∈ L → x.1 = i → cutTo f L i = 0
  | y :: L, f, x, hx, he => by
    rcases List.mem_cons.1 hx with rfl | hx
    · refine cutTo_zero i L _ ?_
      unfold cutOne
      rw [if_pos (by omega), he]
      simp [setAt]
    · exact cutTo_in i hi L _ x hx he
theorem cutTo_out (i : Nat) : ∀ (L : List (Int × Int)) (f : Nat → Int), (∀ x ∈ L, x.1 ≠ i) → cutTo f L i = f i
  | [], _, _ => rfl
  | x :: L, f, h => by
    have h1 := cutTo_out i L (cutOne f x) (fun y hy => h y (by simp [hy]))
    show cutTo (cutOne f x) L i = f i
    rw [h1]
    have hx := h x (by simp)
    unfold cutOne
    split
    · rw [setAt_ne _ _ (by omega)]
    · rfl
theorem cutTo_items (f : Nat → Int) (n : Int) (i : Nat) (hi : i < 512) : cutTo f (itemsOf f 0 512 n) i = cutF f n i := by
  unfold cutF
  by_cases hn : n ≤ (i : Int)
  · rw [if_pos hn]
    by_cases h0 : f i = 0
    · exact cutTo_zero i _ f h0
    · refine cutTo_in i hi _ f ((i : Int), f i) ?_ rfl
      unfold itemsOf
      refine List.mem_map.2 ⟨i, List.mem_filter.2 ⟨List.mem_range.2 hi, ?_⟩, by simp⟩
      simp only [decide_eq_true_eq]
      exact ⟨h0, by omega⟩
  · rw [if_neg hn]
    refine cutTo_out i _ f fun x hx => ?_
    unfold itemsOf at hx
    obtain ⟨y, hy, rfl⟩ := List.mem_map.1 hx
    have := (List.mem_filter.1 hy).2
    simp only [decide_eq_true_eq] at this
    show (0 : Int) + (y : Int) ≠ i
    omega
/-- what holds in Cut's loop -/
def CutI (w0 : World) (bl t r : Nat) (TB : Nat → Prop) (f : Nat → Int) (pre : List (Int × Int)) (U : World) : Prop :=
  ∃ v mid leaf many, Blk U bl 32 #[v] ∧ U.ownsRow w0.heap.size 3 1 v (pre.map Prod.snd).length (rowOf encInt (pre.map Prod.snd)) ∧ Mod (fun g => g = bl ∨ TB g) w0 U ∧
    RadixAt U t r mid leaf (cutTo f pre) many ∧ ∀ g, TreeB t r mid leaf g → TB g
theorem CutI.grown {w0 : World} {bl t r : Nat} {TB : Nat → Prop} {f : Nat → Int} {pre : List (Int × Int)} {A B : World} {row : Option Nat} (h : CutI w0 bl t r TB f pre A) (hbl : bl < w0.heap.size) (hTB : ∀ g, TB g → g < w0.heap.size)
    (hg : A.grownBy B row) (hr : ∀ r, row = some r → w0.heap.size ≤ r ∧ ∃ o : Obj, A.heap[r]? = some o ∧ o.isCells = false) : CutI w0 bl t r TB f pre B := by
  obtain ⟨v, mid, leaf, many, hv, hown, hM, hT, hB⟩ := h
  refine ⟨v, mid, leaf, many, blk_of_grown_own hv hg hr (by omega), own_mod hown (Mod.of_grown hg) (fun g hg' e => ?_), mod_of_grown_own hM hg hr (Nat.le_refl _), hT.mod (Mod.of_grown hg) (fun g hg' e => ?_), hB⟩
  · obtain ⟨_, o, ho, hoc⟩ := hr g e.symm
    obtain ⟨_, cur, hh⟩ := own_blk hown hg'
    rw [hh] at ho; cases ho; simp [Obj.isCells] at hoc
  · have h1 := hTB g (hB g hg')
    have h2 := (hr g e.symm).1
    omega
def CutPost (w : World) (t r : Nat) (mid leaf : Nat → Option Nat) (f : Nat → Int) (n : Int) : Ending → World → Prop := fun e w' =>
  ∃ v mid' leaf' many', e = .returned v ∧ RadixAt w' t r mid' leaf' (cutF f n) many' ∧ (∀ g, TreeB t r mid' leaf' g → TreeB t r mid leaf g) ∧ Mod (TreeB t r mid leaf) w w'

set_option maxRecDepth 100000 in
set_option maxHeartbeats 8000000 in
theorem cut_any (w : World) (t r : Nat) (mid leaf : Nat → Option Nat) (f : Nat → Int) (many n : Int) (h : RadixAt w t r mid leaf f many) : Calls Tryz.prog 119 #[.pointer (some ⟨t, 0, none⟩), .int .i64 n] w (CutPost w t r mid leaf f n) := by
  have HR := hide h
  have hTBl : ∀ g, TreeB t r mid leaf g → g < w.heap.size := fun g hg => h.lt hg
  clear h
  refine calls_of_wp_marks 3 Tryz.func119 rfl ?_
  simp only [Tryz.ntmps119, List.size_toArray, List.length_cons, List.length_nil, Nat.reduceAdd, Nat.reduceSub, Array.replicate_succ, Array.replicate_zero, List.push_toArray, List.append_toArray, List.nil_append, List.cons_append]
  go_wp2_with fail
  refine (from_call _ t n).mono ?_
  rintro e w3 ⟨rfl, hw3⟩
  obtain ⟨m, hm⟩ : ∃ m, m = w.heap.size := ⟨_, rfl⟩
  simp only [alloc_size]
  rw [← hm]
  have hM3 : Mod None_ w w3 := by rw [hw3]; exact (((((Mod.refl _ w).alloc _).alloc _).alloc _).alloc _).alloc _
  have b0 : Blk w3 m 80 #[.pointer (some ⟨t, 0, none⟩)] := by rw [hw3, hm]; exact ((((Blk.new w 80 _).alloc _).alloc _).alloc _).alloc _
  have bz : Blk w3 (m + 1) 3 #[.int .i64 0] := by
    have := (((Blk.new (w.alloc (.cells #[.pointer (some ⟨t, 0, none⟩)] 80)) 3 #[.int .i64 0]).alloc (.cells #[.slice none 0 0] 32)).alloc (.cells #[.pointer (some ⟨t, 0, none⟩)] 80)).alloc (.cells #[.int .i64 n] 3)
    rw [← hw3, alloc_size, ← hm] at this
    exact this
  have bl : Blk w3 (m + 2) 32 #[.slice none 0 0] := by
    have := ((Blk.new ((w.alloc (.cells #[.pointer (some ⟨t, 0, none⟩)] 80)).alloc (.cells #[.int .i64 0] 3)) 32 #[.slice none 0 0]).alloc (.cells #[.pointer (some ⟨t, 0, none⟩)] 80)).alloc (.cells #[.int .i64 n] 3)
    rw [← hw3, alloc_size, alloc_size, ← hm] at this
    exact this
  have b1 : Blk w3 (m + 3) 80 #[.pointer (some ⟨t, 0, none⟩)] := by
    have := (Blk.new (((w.alloc (.cells #[.pointer (some ⟨t, 0, none⟩)] 80)).alloc (.cells #[.int .i64 0] 3)).alloc (.cells #[.slice none 0 0] 32)) 80 #[.pointer (some ⟨t, 0, none⟩)]).alloc (.cells #[.int .i64 n] 3)
    rw [← hw3, alloc_size, alloc_size, alloc_size, ← hm] at this
    exact this
  have b2 : Blk w3 (m + 4) 3 #[.int .i64 n] := by
    have := Blk.new ((((w.alloc (.cells #[.pointer (some ⟨t, 0, none⟩)] 80)).alloc (.cells #[.int .i64 0] 3)).alloc (.cells #[.slice none 0 0] 32)).alloc (.cells #[.pointer (some ⟨t, 0, none⟩)] 80)) 3 #[.int .i64 n]
    rw [← hw3, alloc_size, alloc_size, alloc_size, alloc_size, ← hm] at this
    exact this
  have hR3 := HR.out.kept hM3
  have hml : m + 2 < w3.heap.size := bl.lt
  have hTm : ∀ g, TreeB t r mid leaf g → g < m := fun g hg => by have := hTBl g hg; omega
  have hgem : w.heap.size ≤ m := by omega
  have hem : m ≤ w.heap.size := by omega
  clear hw3 hm
  go_wp2_with fail
  rw [show m + 2 + 1 = m + 3 from rfl, show m + 3 + 1 = m + 4 from rfl]
  have hno : ownerAt w3 (m + 2) = none := by unfold ownerAt; rw [bl.cell 0]; rfl
  have hst := from_stops 2 w3 (KpO w3.heap.size (m + 2)) (fun W _ => KpO.refl _ _ W) (fun h k => h.trans k) (keep_own hml hno) t r mid leaf f many n (m + 4) (m + 3) hR3 (b2.cell 0) (b1.cell 0)
  have hNl := itemsOf_length f 0 512 n
  obtain ⟨P, hP⟩ : ∃ P, P = itemsOf f 0 512 n := ⟨_, rfl⟩
  have HP := hide hP
  rw [← hP] at hst hNl
  clear hP HR
  refine wp_range_mid 3 (by omega) (gf := 54) (lb := #[.pointer (some ⟨m + 4, 0, none⟩), .pointer (some ⟨m + 3, 0, none⟩)]) rfl (enters_of Tryz.func54 (by kernel_rfl) rfl) hst (fun h k => h.trans k) (fun U l o o' hl h ho _ => KpO.putObj U l o o' (by omega) h ho) (Below.refl _ _) (fun _ => rfl)
    (CutI w3 (m + 2) t r (TreeB t r mid leaf) f) (fun _ _ _ => False) 0 (CutI w3 (m + 2) t r (TreeB t r mid leaf) f P)
    (fun pre A B row h hg hr => h.grown (by omega) (fun g hg => by have := hTm g hg; omega) hg hr) (fun c pre A B row h _ _ => h)
    ⟨_, mid, leaf, many, bl, ⟨rfl, .inl ⟨rfl, rfl⟩⟩, Mod.refl _ _, hR3, fun _ h => h⟩ ?done ?stop ?body ?rest
  case done =>
    rintro xs U hxs h
    obtain rfl : P = xs := hxs.symm
    exact h
  case stop =>
    rintro c pre U hp h
    exact h.elim
  case body =>
    apply Exists.intro
    refine ⟨?_, ?_⟩
    · intro l x U K hK
      gi_wp2
      exact hK
    · rintro l pre x U ⟨v, mid1, leaf1, many1, hv, hown, hM, hT, hB⟩ hlt
      obtain ⟨A, c, rfl⟩ := own_slice hown
      have cl : U.cell? ⟨m + 2, 0, none⟩ = some (.slice A (pre.map Prod.snd).length c) := hv.cell 0
      have hnb : ∀ k, k = m + 2 ∨ TreeB t r mid leaf k → k < m ∨ k = m + 2 := fun k e => e.elim .inr fun e => .inl (hTm k e)
      have c0 : U.cell? ⟨m, 0, none⟩ = some (.pointer (some ⟨t, 0, none⟩)) := (World.cell?_of_block (hM.block m (by omega) (fun e => by have := hnb m e; omega))).trans (b0.cell 0)
      have c1 : U.cell? ⟨m + 1, 0, none⟩ = some (.int .i64 0) := (World.cell?_of_block (hM.block (m + 1) (by omega) (fun e => by have := hnb (m + 1) e; omega))).trans (bz.cell 0)
      have hsn : (pre ++ [x]).map Prod.snd = pre.map Prod.snd ++ [x.2] := by simp
      have hcs := cutTo_snoc f pre x
      have hln : (pre.map Prod.snd).length < P.length := by simpa using hlt
      obtain ⟨R, hR⟩ : ∃ R, R = pre.map Prod.snd := ⟨_, rfl⟩
      obtain ⟨F, hF⟩ : ∃ F, F = cutTo f pre := ⟨_, rfl⟩
      rw [← hR] at hv hown cl hsn hln
      rw [← hF] at hT hcs
      have HSN := hide hsn
      have HCS := hide hcs
      have hbU : w3.heap.size ≤ U.heap.size := hM.size
      clear hR hF hsn hcs hst hlt
      gi_wp2_with ((with_reducible refine at_slotIn 17 ?_); refine wpListIn_append_row encInt 32 3 (.int .i64 0) 1 8 Tryz.underlying32 infoInt rfl (by decide) (fun _ => rfl) oneInt rfl (.tmp 14) (.tmp 16) rfl U w3.heap.size (.slice A R.length c) R x.2 rfl rfl U.heap.size rfl rfl hown hbU (by unfold maxLen; omega) (by omega) ?_; intro v8 w8 hown8 hm8 hat8; obtain ⟨N8, hN8⟩ : ∃ N, N = (R ++ [x.2]).length := ⟨_, rfl⟩; rw [← hN8] at hown8; have HN8 := hide hN8; clear hN8; obtain ⟨A2, c2, rfl⟩ := own_slice hown8; go_frame
                   obtain ⟨k1, k2, k3, k4, k5⟩ := grown_keeps 32 3 1 (by omega) hbU hv hown hown8 hm8 hat8
                   have hv8 := hv.mod hm8 (fun e => by have := (own_blk hown e.symm).1; omega)
                   have cl8 : w8.cell? ⟨m + 2, 0, none⟩ = some (.slice A R.length c) := hv8.cell 0
                   have cf8 : w8.frozen? ⟨m + 2, 0, none⟩ = false := hv8.frozen 0
                   have d0 : w8.cell? ⟨m, 0, none⟩ = some (.pointer (some ⟨t, 0, none⟩)) := (World.cell?_of_block (hm8.block m (block_lt_of_cell c0) (fun e => by have := (own_blk hown e.symm).1; omega))).trans c0
                   have d1 : w8.cell? ⟨m + 1, 0, none⟩ = some (.int .i64 0) := (World.cell?_of_block (hm8.block (m + 1) (block_lt_of_cell c1) (fun e => by have := (own_blk hown e.symm).1; omega))).trans c1
                   have L1 := hide k1
                   have L2 := hide k2
                   have L3 := hide k3
                   have L4 := hide k4
                   have L5 := hide k5
                   clear k1 k2 k3 k4 k5 hown8 hm8 hat8 hv8)
      obtain ⟨W1, hW1⟩ : ∃ W1, W1 = w8.setCell ⟨m + 2, 0, none⟩ (.slice A2 N8 c2) := ⟨_, rfl⟩
      rw [show m + 1 + 1 = m + 2 from rfl, ← hW1]
      have t1 := L1.out
      have t2 := L2.out
      have t3 := L3.out
      have t4 := L4.out
      have t5 := L5.out
      rw [← hW1] at t1 t2 t3 t4 t5
      have hT1 := hT.mod t5 (fun g hg e => by have := hTm g (hB g hg); omega)
      have hUs := t5.size
      have T1 := hide t1
      have T2 := hide t2
      clear hW1 L1 L2 L3 L4 L5 d0 d1 cl8 cf8 t1 t2 c0 c1 cl
      refine ⟨trivial, ?_⟩
      by_cases hx : 0 ≤ x.1 ∧ x.1 < 512
      · have hcut : cutOne F x = setAt F x.1.toNat 0 := by unfold cutOne; rw [if_pos hx]
        rw [hcut] at HCS
        refine (CallsIn.inRound l (callsIn_wide.2 (set_o W1 t r mid1 leaf1 F many1 0 x.1 x.1.toNat hT1 (by omega) (by omega)))).mono ?_
        rintro e W2 ⟨mid2, leaf2, many2, rfl, hT2, hM2, hB2⟩
        have hB3 : ∀ g, TreeB t r mid2 leaf2 g → TreeB t r mid leaf g := fun g hg => (hB2 g hg).elim (hB g) (fun e => absurd rfl e.1)
        have u1 : KeepsFrom w3.heap.size W1 W2 := KeepsFrom.of_mod hM2 (fun k hk _ e => by have := hTm k (hB k e); omega)
        have u2 : KpO w3.heap.size (m + 2) W1 W2 := KpO.of_mod hM2 (by omega) (fun e => by have := hTm _ (hB _ e); omega) (fun k hk _ e => by have := hTm k (hB k e); omega)
        have u3 : CutI w3 (m + 2) t r (TreeB t r mid leaf) f (pre ++ [x]) W2 := by
          refine ⟨_, mid2, leaf2, many2, t3.mod hM2 (fun e => by have := hTm _ (hB _ e); omega), ?_, (hM.trans' t5 (fun k hk e => by omega)).trans' hM2 (fun k _ e => .inr (hB k e)), ?_, hB3⟩
          · rw [HSN.out]
            rw [HN8.out] at t4 ⊢
            exact own_mod t4 hM2 (fun g hg e => by have := hTm g (hB g e); have := (own_blk t4 hg).1; omega)
          · rw [HCS.out]; exact hT2
        have HA := hide (T1.out.trans u1)
        have HB := hide (T2.out.trans u2)
        have HC := hide u3
        clear u1 u2 u3 hT2 hM2 hB2 hB3 t3 t4 t5 hT1 hT hM hcut
        gi_wp2
        exact ⟨HA.out, HB.out, HC.out⟩
      · have hcut : cutOne F x = F := by unfold cutOne; rw [if_neg hx]
        rw [hcut] at HCS
        refine (CallsIn.inRound l (callsIn_wide.2 (set_out W1 t x.1 0 hx))).mono ?_
        rintro e W2 ⟨rfl, rfl⟩
        have u3 : CutI w3 (m + 2) t r (TreeB t r mid leaf) f (pre ++ [x]) W1 := by
          refine ⟨_, mid1, leaf1, many1, t3, ?_, hM.trans' t5 (fun k hk e => by omega), ?_, hB⟩
          · rw [HSN.out]
            rw [HN8.out] at t4 ⊢
            exact t4
          · rw [HCS.out]; exact hT1
        have HC := hide u3
        clear u3 t3 t4 t5 hT1 hT hM hcut
        gi_wp2
        exact ⟨T1.out, T2.out, HC.out⟩
  case rest =>
    rintro D U hD ⟨v, mid1, leaf1, many1, hv, hown, hM, hT, hB⟩ hdf
    obtain ⟨A, c, rfl⟩ := own_slice hown
    have cl : U.cell? ⟨m + 2, 0, none⟩ = some (.slice A (P.map Prod.snd).length c) := hv.cell 0
    have hm3 : Mod (· = D) U (U.putObj D (.deferred none)) := (Mod.of_grown (grownBy_putObj' _ D _)).mono fun k _ e => by cases e; rfl
    have hfin : Mod (TreeB t r mid leaf) w (U.putObj D (.deferred none)) := ((hM3.mono (fun _ _ e => e.elim)).trans' hM (fun k hk e => e.elim (fun e => by omega) id)).trans' hm3 (fun k hk e => by have := hM3.size; omega)
    have hpost : CutPost w t r mid leaf f n (.returned (.slice A (P.map Prod.snd).length c)) (U.putObj D (.deferred none)) := by
      refine ⟨_, mid1, leaf1, many1, rfl, ?_, hB, hfin⟩
      have h1 := hT.mod hm3 (fun g hg e => by have := hTm g (hB g hg); omega)
      refine h1.congrF fun i hi => ?_
      rw [HP.out]; exact cutTo_items f n i hi
    have HF := hide hpost
    have HD := hide hdf
    clear hfin hown hm3 hM hv hst hdf b0 b1 b2 bl bz hpost hT
    dsimp only
    go_wp2
    refine ⟨by simp, .inl ⟨_, _, rfl, run_takeDeferred HD.out, ?_⟩⟩
    refine ⟨.slice A (P.map Prod.snd).length c, ?_, HF.out⟩
    simp [results, Tryz.results119, go_sem]
end Go.Proofs.YtabebkffcmajkaaGreatDoor

/-! Walk: stepOf. -/
namespace Go.Proofs.YtabebkffcmajkaaGreatDoor
open Go.RowKit Go.Maps Go.Shelf
attribute [local go_sem] quietV loudUpon Oper.semAt_some

/-- the entry with Seq 1 -/
def one (e : EntD) : EntD := { e with seq := 1 }
/-- a good entry's step as a value -/
def actV (e : EntD) : Value :=
  if e.kind = 1 then stepV (.write ⟨e.off, e.page, e.count⟩ e.size) else if e.kind = 2 then stepV (.resize e.size)
  else if e.kind = 3 then stepV (.add e.name e.ino) else .iface 98 (.agg #[.string e.name])
def StepPost (w : World) (e : EntD) : Ending → World → Prop := fun x w' =>
  x = .returned (.tuple #[if goodEnt (one e) = true then actV e else .nilIface, .int .i64 (if goodEnt (one e) = true then 0 else 34)]) ∧ Mod None_ w w'

set_option maxRecDepth 100000 in
set_option maxHeartbeats 2000000 in
theorem stepOf_any (w : World) (e : EntD) (hs : Steps w) : Calls Tryz.prog 24 #[.agg (encEntry e).toArray] w (StepPost w e) := by
  obtain ⟨m, hm⟩ : ∃ m, m = w.heap.size := ⟨_, rfl⟩
  obtain ⟨w0, hw0⟩ : ∃ w0, w0 = w.alloc (.cells (encEntry e).toArray 49) := ⟨_, rfl⟩
  have hM0 : Mod None_ w w0 := by rw [hw0]; exact (Mod.refl _ w).alloc _
  have b0 : Blk w0 m 49 (encEntry e).toArray := by rw [hw0, hm]; exact Blk.new w 49 _
  have hgem : w.heap.size ≤ m := by omega
  have hS0 := hs.kept hM0
  have hs' := hs.1
  have c1 : w0.cell? ⟨m, 1, none⟩ = some (.int .u64 e.seq) := b0.cell 1
  have f1 : w0.frozen? ⟨m, 1, none⟩ = false := b0.frozen _
  have HW0 := hide hw0
  have HMM := hide hm
  clear hw0 hm hs
  go_enter Tryz.func24, Tryz.ntmps24
  go_upto_region 1 with fail
  rw [← HMM.out, ← HW0.out]
  clear HMM HW0
  go_upto_region 2 with fail
  obtain ⟨w1, hw1⟩ : ∃ w1, w1 = w0.setCell ⟨m, 1, none⟩ (.int .u64 1) := ⟨_, rfl⟩
  rw [← hw1]
  have hm1 : Mod (· = m) w0 w1 := by rw [hw1]; exact (Mod.refl (· = m) w0).setCell (p := ⟨m, 1, none⟩) (.inr rfl) _
  have b1 : Blk w1 m 49 (encEntry (one e)).toArray := by
    have := b0.set_ 1 (.int .u64 1)
    rw [← hw1] at this
    exact this
  have hM1 : Mod None_ w w1 := hM0.trans' hm1 (fun g hg e => by omega)
  have hS1 : Steps w1 := hS0.mod hm1 (fun e => by omega)
  clear hw1 hm1 b0 hM0 hS0 c1 f1
  have HI := hide (infoEnt (one e))
  have HP := hide (packEntry_any w1 (one e) hS1 (by show (0 : Int) ≤ 1; omega))
  go_wp2_with ((with_reducible refine at_slot 8 ?_); refine wpList_val rfl (ex_load rfl (run_loadRow b1 Tryz.underlying49 rfl HI.out)) ?_; go_frame)
  refine HP.out.mono ?_
  rintro x w2 ⟨hm2, rfl⟩
  have hM2 := hM1.trans hm2
  have b2 := b1.mod hm2 id
  clear b1 hM1 hS1 HP HI hm2
  obtain ⟨q, hq⟩ : ∃ q, q = w2.heap.size := ⟨_, rfl⟩
  obtain ⟨L, hL⟩ : ∃ L, L = (if goodEnt (one e) = true then closeOf (packF (one e)) else z64) := ⟨_, rfl⟩
  rw [← hL]
  clear hL
  obtain ⟨w3, hw3⟩ : ∃ w3, w3 = w2.alloc (.cells (lineC L) 88) := ⟨_, rfl⟩
  have hm3 : Mod None_ w2 w3 := by rw [hw3]; exact (Mod.refl _ w2).alloc _
  have hM3 := hM2.trans hm3
  have b3 := b2.mod hm3 id
  clear hM2 b2 hm3
  have HW3 := hide hw3
  have HQ := hide hq
  clear hw3 hq
  cases hg : goodEnt (one e) with
  | false =>
    rw [show (if (false = true) then (0 : Int) else 34) = 34 from rfl]
    have HF : Hid (StepPost w e (.returned (.tuple #[.nilIface, .int .i64 34])) w3) := hide ⟨by rw [hg]; rfl, hM3⟩
    clear hM3 b3 hg
    go_wp2_with ((with_reducible refine at_slot 4 ?_); refine wpList_declare rfl rfl 88 4 (.tmp 10) rfl rfl rfl (lineC z64) (lineC L) zeroLine (infoLine _) (by rw [lineC_size, lineC_size]) (lineC_one _) (by simp) rfl ?_; go_frame; rw [← HW3.out, ← HQ.out])
    go_ret2
    exact HF.out
  | true =>
    rw [show (if (true = true) then (0 : Int) else 34) = 0 from rfl]
    have c0 : w3.cell? ⟨m, 0, none⟩ = some (.int .i64 e.kind) := b3.cell 0
    have c2 : w3.cell? ⟨m, 2, none⟩ = some (.int .i64 e.off) := b3.cell 2
    have c3 : w3.cell? ⟨m, 3, none⟩ = some (.int .i64 e.count) := b3.cell 3
    have c4 : w3.cell? ⟨m, 4, none⟩ = some (.int .i64 e.page) := b3.cell 4
    have c5 : w3.cell? ⟨m, 5, none⟩ = some (.int .i64 e.size) := b3.cell 5
    have c6 : w3.cell? ⟨m, 6, none⟩ = some (.int .i64 e.ino) := b3.cell 6
    have c7 : w3.cell? ⟨m, 7, none⟩ = some (.string e.name) := b3.cell 7
    have HFF : ∀ v, v = actV e → Hid (StepPost w e (.returned (.tuple #[v, .int .i64 0])) w3) := fun v hv => hide ⟨by rw [hg, hv]; rfl, hM3⟩
    clear hM3 b3 hg
    go_upto_region 5 with ((with_reducible refine at_slot 4 ?_); refine wpList_declare rfl rfl 88 4 (.tmp 10) rfl rfl rfl (lineC z64) (lineC L) zeroLine (infoLine _) (by rw [lineC_size, lineC_size]) (lineC_one _) (by simp) rfl ?_; go_frame; rw [← HW3.out, ← HQ.out])
    clear HW3 HQ
    by_cases hk1 : e.kind = 1
    · have k1 : (e.kind == 1) = true := by simp [hk1]
      have HF := HFF _ (by unfold actV; rw [if_pos hk1])
      clear HFF
      go_wp2
      go_ret2
      exact HF.out
    · have k1 : (e.kind == 1) = false := by simp [hk1]
      by_cases hk2 : e.kind = 2
      · have k2 : (e.kind == 2) = true := by simp [hk2]
        have HF := HFF _ (by unfold actV; rw [if_neg hk1, if_pos hk2])
        clear HFF
        go_wp2
        go_ret2
        exact HF.out
      · have k2 : (e.kind == 2) = false := by simp [hk2]
        by_cases hk3 : e.kind = 3
        · have k3 : (e.kind == 3) = true := by simp [hk3]
          have HF := HFF _ (by unfold actV; rw [if_neg hk1, if_neg hk2, if_pos hk3])
          clear HFF
          go_wp2
          go_ret2
          exact HF.out
        · have k3 : (e.kind == 3) = false := by simp [hk3]
          have HF := HFF _ (by unfold actV; rw [if_neg hk1, if_neg hk2, if_neg hk3])
          clear HFF
          go_wp2
          go_ret2
          exact HF.out
end Go.Proofs.YtabebkffcmajkaaGreatDoor

/-! Walks: what a step does (on). -/
namespace Go.Proofs.YtabebkffcmajkaaGreatDoor
open Go.RowKit Go.Maps Go.Shelf
attribute [local go_sem] quietV loudUpon Oper.semAt_some

/-- what a log means so far -/
inductive SenseD where
  | file (z : Int) (f : Nat → Int)
  | dir (rows : List Row)
def SenseAt (w : World) (B s : Nat) : SenseD → Prop
  | .file z f => B ≤ s ∧ ∃ t r mid leaf many, Blk w s 83 #[.int .i64 1, .int .i64 z, .pointer (some ⟨t, 0, none⟩), .pointer none] ∧ RadixAt w t r mid leaf f many ∧ ∀ g, TreeB t r mid leaf g → B ≤ g ∧ g ≠ s
  | .dir rows => B ≤ s ∧ ∃ b, Blk w s 83 #[.int .i64 2, .int .i64 0, .pointer none, .pointer (some ⟨b + 3, 0, none⟩)] ∧ IndexAt w b rows ∧ B ≤ b ∧ (s < b ∨ b + 4 ≤ s)
theorem SenseAt.kept {w w' : World} {B s : Nat} {D : SenseD} (h : SenseAt w B s D) (hm : Mod None_ w w') : SenseAt w' B s D := by
  cases D with
  | file z f =>
    obtain ⟨h1, t, r, mid, leaf, many, h2, h3, h4⟩ := h
    exact ⟨h1, t, r, mid, leaf, many, h2.mod hm id, h3.kept hm, h4⟩
  | dir rows =>
    obtain ⟨h1, b, h2, h3, h4⟩ := h
    exact ⟨h1, b, h2.mod hm id, h3.kept hm, h4⟩
theorem SenseAt.lt {w : World} {B s : Nat} {D : SenseD} (h : SenseAt w B s D) : s < w.heap.size := by
  cases D with
  | file z f => obtain ⟨_, t, r, mid, leaf, many, h2, _⟩ := h; exact h2.lt
  | dir rows => obtain ⟨_, b, h2, _⟩ := h; exact h2.lt
theorem endP_left (n : Int) (w : World) (h0 : 0 ≤ n) (h1 : n ≤ 262144) : Calls Tryz.prog 63 #[.int .i64 n] w fun e w' => e = .returned (.int .i64 ((n + 511) / 512)) ∧ w' = w :=
  (endPage_any n w h0 h1).mono fun _ _ ⟨a, b⟩ => ⟨a, b.symm⟩

set_option maxRecDepth 100000 in
set_option maxHeartbeats 2000000 in
theorem resize_dir (w : World) (B s : Nat) (rows : List Row) (z : Int) (h : SenseAt w B s (.dir rows)) :
    Calls Tryz.prog 118 #[.agg #[.int .i64 z], .pointer (some ⟨s, 0, none⟩)] w fun e w' => e = .returned (.int .i64 90) ∧ Mod None_ w w' := by
  obtain ⟨w0, hw0⟩ : ∃ w0, w0 = w.alloc (.cells #[.int .i64 z] 94) := ⟨_, rfl⟩
  have hM0 : Mod None_ w w0 := by rw [hw0]; exact (Mod.refl _ w).alloc _
  have c0 : w0.cell? ⟨s, 0, none⟩ = some (.int .i64 2) := by obtain ⟨_, b, h2, _⟩ := h.kept hM0; exact h2.cell 0
  have HW0 := hide hw0
  clear h hw0
  go_enter Tryz.func118, Tryz.ntmps118
  go_upto_region 1 with fail
  rw [← HW0.out]
  clear HW0
  go_wp2
  go_ret
  exact ⟨rfl, hM0⟩

set_option maxRecDepth 100000 in
set_option maxHeartbeats 2000000 in
theorem resize_file (w : World) (B s : Nat) (z0 : Int) (f : Nat → Int) (z : Int) (h : SenseAt w B s (.file z0 f)) (hz : 0 ≤ z ∧ z ≤ 262144) :
    Calls Tryz.prog 118 #[.agg #[.int .i64 z], .pointer (some ⟨s, 0, none⟩)] w fun e w' => e = .returned (.int .i64 0) ∧ SenseAt w' B s (.file z (cutF f ((z + 511) / 512))) ∧ Mod (B ≤ ·) w w' := by
  obtain ⟨hBs, t, r, mid, leaf, many, hb, hT, hB⟩ := h
  have hsl := hb.lt
  obtain ⟨m, hm⟩ : ∃ m, m = w.heap.size := ⟨_, rfl⟩
  obtain ⟨w0, hw0⟩ : ∃ w0, w0 = w.alloc (.cells #[.int .i64 z] 94) := ⟨_, rfl⟩
  have hM0 : Mod None_ w w0 := by rw [hw0]; exact (Mod.refl _ w).alloc _
  have b0 : Blk w0 m 94 #[.int .i64 z] := by rw [hw0, hm]; exact Blk.new w 94 _
  have hT0 := hT.kept hM0
  have hb0 := hb.mod hM0 id
  have hTl : ∀ g, TreeB t r mid leaf g → g < m := fun g hg => by have := hT.lt hg; omega
  have HW0 := hide hw0
  have HMM := hide hm
  rw [← hm] at hsl
  have hem : m ≤ w.heap.size := by omega
  clear hw0 hm hT hb
  go_enter Tryz.func118, Tryz.ntmps118
  go_upto_region 1 with fail
  rw [← HMM.out, ← HW0.out]
  clear HMM HW0
  have c0 : w0.cell? ⟨s, 0, none⟩ = some (.int .i64 1) := hb0.cell 0
  have c1 : w0.cell? ⟨s, 1, none⟩ = some (.int .i64 z0) := hb0.cell 1
  have f1 : w0.frozen? ⟨s, 1, none⟩ = false := hb0.frozen _
  have d0 : w0.cell? ⟨m, 0, none⟩ = some (.int .i64 z) := b0.cell 0
  go_wp2_with fail
  obtain ⟨w1, hw1⟩ : ∃ w1, w1 = (w0.setCell ⟨s, 1, none⟩ (.int .i64 z)) := ⟨_, rfl⟩
  rw [← hw1]
  have hm1 : Mod (· = s) w0 w1 := by rw [hw1]; exact (Mod.refl (· = s) w0).setCell (p := ⟨s, 1, none⟩) (.inr rfl) _
  have b1 : Blk w1 s 83 #[.int .i64 1, .int .i64 z, .pointer (some ⟨t, 0, none⟩), .pointer none] := by rw [hw1]; exact hb0.set_ 1 (.int .i64 z)
  have b2 := b0.mod hm1 (by omega)
  have hT1 := hT0.mod hm1 (fun g hg => (hB g hg).2)
  clear hw1 c0 c1 f1 d0 b0 hT0 hb0
  refine region_tail 7 (by kernel_rfl) (by kernel_rfl) ?_
  rintro w3 hw3
  have hm3 : Mod None_ w1 w3 := by rw [hw3]; exact (Mod.refl _ w1).drew
  replace b1 := b1.mod hm3 id
  replace b2 := b2.mod hm3 id
  replace hT1 := hT1.kept hm3
  have hM3 : Mod (B ≤ ·) w w3 := ((hM0.mono (T := (B ≤ ·)) (fun _ _ e => e.elim)).trans' hm1 (fun g hg e => by omega)).trans' hm3 (fun g hg e => e.elim)
  have c2 : w3.cell? ⟨s, 2, none⟩ = some (.pointer (some ⟨t, 0, none⟩)) := b1.cell 2
  have d0 : w3.cell? ⟨m, 0, none⟩ = some (.int .i64 z) := b2.cell 0
  clear hw3 hm3 hm1 b2 hM0
  simp only [List.take_succ_cons, List.take_zero, List.drop_succ_cons, List.drop_zero]
  repeat still_step
  still_call (endP_left _ _ hz.1 hz.2)
  refine wpStill_nil ?_
  go_wp2_with fail
  refine (cut_any w3 t r mid leaf f many ((z + 511) / 512) hT1).mono ?_
  rintro e w4 ⟨v, mid', leaf', many', rfl, hT4, hB4, hm4⟩
  have hfin : SenseAt w4 B s (.file z (cutF f ((z + 511) / 512))) := ⟨hBs, t, r, mid', leaf', many', b1.mod hm4 (fun e => (hB s e).2 rfl), hT4, fun g hg => hB g (hB4 g hg)⟩
  have hM4 : Mod (B ≤ ·) w w4 := hM3.trans' hm4 (fun g hg e => (hB g e).1)
  have HF := hide hfin
  have HM := hide hM4
  clear hfin hM4 hM3 hT4 hB4 hm4 b1 hT1 c2 d0
  go_wp2
  go_ret
  exact ⟨rfl, HF.out, HM.out⟩

/-! ### write -/
set_option maxRecDepth 100000 in
set_option maxHeartbeats 2000000 in
theorem write_dir (w : World) (B s : Nat) (rows : List Row) (r : RunD) (z : Int) (h : SenseAt w B s (.dir rows)) :
    Calls Tryz.prog 117 #[.agg #[.int .i64 r.off, .int .i64 r.page, .int .i64 r.count, .int .i64 z], .pointer (some ⟨s, 0, none⟩)] w fun e w' => e = .returned (.int .i64 90) ∧ Mod None_ w w' := by
  obtain ⟨w0, hw0⟩ : ∃ w0, w0 = w.alloc (.cells #[.int .i64 r.off, .int .i64 r.page, .int .i64 r.count, .int .i64 z] 92) := ⟨_, rfl⟩
  have hM0 : Mod None_ w w0 := by rw [hw0]; exact (Mod.refl _ w).alloc _
  have c0 : w0.cell? ⟨s, 0, none⟩ = some (.int .i64 2) := by obtain ⟨_, b, h2, _⟩ := h.kept hM0; exact h2.cell 0
  have HW0 := hide hw0
  clear h hw0
  go_enter Tryz.func117, Tryz.ntmps117
  go_upto_region 1 with fail
  rw [← HW0.out]
  clear HW0
  go_wp2
  go_ret
  exact ⟨rfl, hM0⟩

set_option maxRecDepth 100000 in
set_option maxHeartbeats 4000000 in
theorem write_file (w : World) (B s : Nat) (z0 : Int) (f : Nat → Int) (x : RunD) (z : Int) (h : SenseAt w B s (.file z0 f)) (hz : 0 ≤ z ∧ z ≤ 262144) (hx : 0 ≤ x.off ∧ 0 ≤ x.count ∧ x.off + x.count ≤ 512 ∧ 0 ≤ x.page ∧ x.page ≤ 1024) :
    Calls Tryz.prog 117 #[.agg #[.int .i64 x.off, .int .i64 x.page, .int .i64 x.count, .int .i64 z], .pointer (some ⟨s, 0, none⟩)] w fun e w' => e = .returned (.int .i64 0) ∧
      SenseAt w' B s (.file z (cutF (setN f x.off.toNat x.page x.count.toNat) ((z + 511) / 512))) ∧ Mod (B ≤ ·) w w' := by
  obtain ⟨hBs, t, r, mid, leaf, many, hb, hT, hB⟩ := h
  have hsl := hb.lt
  obtain ⟨m, hm⟩ : ∃ m, m = w.heap.size := ⟨_, rfl⟩
  obtain ⟨w0, hw0⟩ : ∃ w0, w0 = w.alloc (.cells #[.int .i64 x.off, .int .i64 x.page, .int .i64 x.count, .int .i64 z] 92) := ⟨_, rfl⟩
  have hM0 : Mod None_ w w0 := by rw [hw0]; exact (Mod.refl _ w).alloc _
  have b0 : Blk w0 m 92 #[.int .i64 x.off, .int .i64 x.page, .int .i64 x.count, .int .i64 z] := by rw [hw0, hm]; exact Blk.new w 92 _
  have hT0 := hT.kept hM0
  have hb0 := hb.mod hM0 id
  have hTl : ∀ g, TreeB t r mid leaf g → g < m := fun g hg => by have := hT.lt hg; omega
  have HW0 := hide hw0
  have HMM := hide hm
  rw [← hm] at hsl
  have hem : m ≤ w.heap.size := by omega
  have hgem : w.heap.size ≤ m := by omega
  clear hw0 hm hT hb
  go_enter Tryz.func117, Tryz.ntmps117
  go_upto_region 1 with fail
  rw [← HMM.out, ← HW0.out]
  clear HMM HW0
  have c0 : w0.cell? ⟨s, 0, none⟩ = some (.int .i64 1) := hb0.cell 0
  have d0 : w0.cell? ⟨m, 2, none⟩ = some (.int .i64 x.count) := b0.cell 2
  obtain ⟨n, hn⟩ : ∃ n : Nat, x.count = n := ⟨x.count.toNat, by omega⟩
  obtain ⟨o1, ho1⟩ : ∃ o1 : Nat, x.off = o1 := ⟨x.off.toNat, by omega⟩
  have HN := hide hn
  have HO := hide ho1
  obtain ⟨hx1, hx2, hx3, hx4, hx5⟩ := hx
  have hno : o1 + n ≤ 512 := by omega
  have hnx : x.count ≤ (n : Int) := by omega
  have hnx2 : (n : Int) ≤ x.count := by omega
  clear hn ho1
  have h0 : Blk w0 m 92 #[.int .i64 x.off, .int .i64 x.page, .int .i64 x.count, .int .i64 z] ∧ Blk w0 s 83 #[.int .i64 1, .int .i64 z0, .pointer (some ⟨t, 0, none⟩), .pointer none] ∧
    ∃ mid leaf many, RadixAt w0 t r mid leaf (setN f o1 x.page 0) many ∧ (∀ g, TreeB t r mid leaf g → B ≤ g ∧ g ≠ s ∧ g ≠ m) ∧ Mod (B ≤ ·) w w0 := ⟨b0, hb0, mid, leaf, many, hT0, fun g hg => ⟨(hB g hg).1, (hB g hg).2, by have := hTl g hg; omega⟩, hM0.mono fun _ _ e => e.elim⟩
  clear b0 hb0 hT0 hM0
  go_wp2_with fail
  go_loopw [14] (fun s' wr => ∃ i : Nat, i ≤ n ∧ s' = .int .i64 i ∧ Blk wr m 92 #[.int .i64 x.off, .int .i64 x.page, .int .i64 x.count, .int .i64 z] ∧ Blk wr s 83 #[.int .i64 1, .int .i64 z0, .pointer (some ⟨t, 0, none⟩), .pointer none] ∧
    ∃ mid leaf many, RadixAt wr t r mid leaf (setN f o1 x.page i) many ∧ (∀ g, TreeB t r mid leaf g → B ≤ g ∧ g ≠ s ∧ g ≠ m) ∧ Mod (B ≤ ·) w wr) (fun s' _ => n - (intOf s').toNat)
  case atStart => exact ⟨0, Nat.zero_le _, rfl, h0⟩
  case round =>
    obtain ⟨i, hi, rfl, b1, b2, mid1, leaf1, many1, hT1, hB1, hM1⟩ := hrel
    clear h0 hB hTl c0 d0
    by_cases hin : i < n
    · have hii : (i : Int) < x.count := by omega
      have c2 : wr.cell? ⟨s, 2, none⟩ = some (.pointer (some ⟨t, 0, none⟩)) := b2.cell 2
      go_wp2_with fail
      refine region_tail 14 (by kernel_rfl) (by kernel_rfl) ?_
      rintro w3 hw3
      have hm3 : Mod None_ wr w3 := by rw [hw3]; exact (Mod.refl _ wr).drew
      replace b1 := b1.mod hm3 id
      replace b2 := b2.mod hm3 id
      replace hT1 := hT1.kept hm3
      replace hM1 := hM1.trans' hm3 (fun g hg e => e.elim)
      have c2 : w3.cell? ⟨s, 2, none⟩ = some (.pointer (some ⟨t, 0, none⟩)) := b2.cell 2
      have d0 : w3.cell? ⟨m, 0, none⟩ = some (.int .i64 x.off) := b1.cell 0
      have d1 : w3.cell? ⟨m, 1, none⟩ = some (.int .i64 x.page) := b1.cell 1
      clear hw3 hm3
      have hset := set_o w3 _ _ _ _ _ _ (x.page + i) (x.off + i) (o1 + i) hT1 (by rw [HO.out]; push_cast; rfl) (by omega)
      have HS := hide hset
      clear hset
      simp only [List.take_succ_cons, List.take_zero, List.drop_succ_cons, List.drop_zero]
      repeat still_step
      refine wpStill_nil ?_
      go_wp2_with fail
      refine HS.out.mono ?_
      rintro e w5 ⟨mid3, leaf3, many3, rfl, hT3, hM3, hB3⟩
      have hnext : Blk w5 m 92 #[.int .i64 x.off, .int .i64 x.page, .int .i64 x.count, .int .i64 z] ∧ Blk w5 s 83 #[.int .i64 1, .int .i64 z0, .pointer (some ⟨t, 0, none⟩), .pointer none] ∧
          ∃ mid leaf many, RadixAt w5 t r mid leaf (setN f o1 x.page (i + 1)) many ∧ (∀ g, TreeB t r mid leaf g → B ≤ g ∧ g ≠ s ∧ g ≠ m) ∧ Mod (B ≤ ·) w w5 := by
        refine ⟨b1.mod hM3 (fun e => (hB1 m e).2.2 rfl), b2.mod hM3 (fun e => (hB1 s e).2.1 rfl), mid3, leaf3, many3, ?_, fun g hg => ?_, hM1.trans' hM3 (fun g hg e => (hB1 g e).1)⟩
        · have e : wrap64 (x.page + i) = x.page + i := by unfold wrap64; omega
          show RadixAt w5 _ _ _ _ (setAt (setN f o1 x.page i) (o1 + i) (wrap64 (x.page + i))) _
          rw [e]
          exact hT3
        · rcases hB3 g hg with e | e
          · exact hB1 g e
          · have := b1.lt
            have := b2.lt
            have := e.2
            exact ⟨by omega, by omega, by omega⟩
      have HNX := hide hnext
      clear hnext hT3 hM3 hB3 hT1 hB1 hM1 b1 b2
      go_wp2
      go_roundw
      case rel => exact ⟨i + 1, by omega, by simp, HNX.out⟩
      case measure => simp [intOf]; omega
    · obtain rfl : i = n := by omega
      have hii : x.count ≤ (i : Int) := by omega
      have d3 : wr.cell? ⟨m, 3, none⟩ = some (.int .i64 z) := b1.cell 3
      have hto : x.off.toNat = o1 := by rw [HO.out]; rfl
      have htc : x.count.toNat = i := by omega
      have HR := hide (resize_file wr B s z0 (setN f x.off.toNat x.page x.count.toNat) z ⟨hBs, t, r, mid1, leaf1, many1, b2, by rw [hto, htc]; exact hT1, fun g hg => ⟨(hB1 g hg).1, (hB1 g hg).2.1⟩⟩ hz)
      have HM := hide hM1
      clear hT1 hB1 hM1 b1 b2 hto htc
      go_wp2_with fail
      refine HR.out.mono ?_
      rintro e w6 ⟨rfl, h1, h2⟩
      have HF := hide h1
      have HG := hide (HM.out.trans h2)
      clear h1 h2
      go_wp2
      go_ret
      exact ⟨rfl, HF.out, HG.out⟩

/-! ### add -/
theorem ix_up {w w' w0 : World} {B b : Nat} (h : Mod (B ≤ ·) w0 w) (hm : Mod (Ix b) w w') (hb : B ≤ b) : Mod (B ≤ ·) w0 w' := h.trans' hm fun g _ e => by unfold Ix at e; omega
def RowPost (w : World) (B s : Nat) (er : List Row → Int) (nx : List Row → List Row) (D : SenseD) : Ending → World → Prop := fun e w' => Mod (B ≤ ·) w w' ∧
  match D with
  | .file _ _ => e = .returned (.int .i64 90)
  | .dir rows => if er rows = 0 then e = .returned (.int .i64 0) ∧ SenseAt w' B s (.dir (nx rows)) else e = .returned (.int .i64 90)
def lenD : SenseD → Nat
  | .file _ _ => 0
  | .dir rows => rows.length
set_option maxRecDepth 100000 in
set_option maxHeartbeats 2000000 in
theorem add_any (w : World) (B s : Nat) (D : SenseD) (nm : ByteArray) (ino : Int) (h : SenseAt w B s D) (hl : lenD D < 4611686018427387900) :
    Calls Tryz.prog 120 #[.agg #[.string nm, .int .i64 ino], .pointer (some ⟨s, 0, none⟩)] w (RowPost w B s (fun rows => putErr rows 1 nm ino) (fun rows => putRows rows 1 nm ino) D) := by
  obtain ⟨m, hm⟩ : ∃ m, m = w.heap.size := ⟨_, rfl⟩
  obtain ⟨w0, hw0⟩ : ∃ w0, w0 = w.alloc (.cells #[.string nm, .int .i64 ino] 96) := ⟨_, rfl⟩
  have hM0 : Mod None_ w w0 := by rw [hw0]; exact (Mod.refl _ w).alloc _
  have b0 : Blk w0 m 96 #[.string nm, .int .i64 ino] := by rw [hw0, hm]; exact Blk.new w 96 _
  have hs0 : w0.heap.size ≤ m + 1 := by rw [hw0, hm]; simp
  have hsl := h.lt
  have h0 := h.kept hM0
  have HW0 := hide hw0
  have HMM := hide hm
  rw [← hm] at hsl
  clear h hw0 hm
  go_enter Tryz.func120, Tryz.ntmps120
  go_upto_region 1 with fail
  rw [← HMM.out, ← HW0.out]
  clear HMM HW0
  cases D with
  | file z f =>
    obtain ⟨_, t, r, mid, leaf, many, hb, _⟩ := h0
    refine region_mxw [(true, 0), (true, 1), (true, 2), (true, 3), (true, 4), (true, 5), (true, 6), (true, 7), (true, 8), (true, 9), (true, 10), (true, 11), (true, 12), (true, 13), (true, 14), (true, 15), (false, 16), (true, 17), (true, 18)] (fun w' => w'.cell? ⟨s, 0, none⟩ = some (.int .i64 1)) (by kernel_rfl) (by kernel_rfl) ?_
    rintro w3 hw3
    have hm3 : Mod None_ w0 w3 := by rw [hw3]; exact (Mod.refl _ w0).drew
    have c0 := (hb.mod hm3 id).cell 0
    clear hw3
    have HF := hide ((hM0.trans hm3).mono (T := (B ≤ ·)) fun _ _ e => e.elim)
    refine ⟨c0, ?_⟩
    iterate 16 (refine mxw_quiet rfl (fun w' i1 K hK => by go_simp; exact hK) ?_; go_frame)
    refine mxw_loud rfl (fun K hK => ?_)
    go_simp
    refine hK _ _ ?_
    clear hK K
    try go_frame
    iterate 2 (refine mxw_quiet rfl (fun w' i1 K hK => by go_simp; exact hK) ?_; go_frame)
    refine mxw_nil ?_
    go_wp2
    go_ret
    exact ⟨HF.out, rfl⟩
  | dir rows =>
    obtain ⟨hBs, b, hb, hI, hBb, hap⟩ := h0
    have hmb : m < b ∨ b + 4 ≤ m := by
      have h1 := hI.lt
      have h2 : b + 3 ≠ m := fun e => by
        have h3 := hI.blk
        rw [e] at h3
        unfold Blk at h3 b0
        rw [b0] at h3
        cases h3
      omega
    refine region_mxw [(true, 0), (true, 1), (true, 2), (true, 3), (true, 4), (true, 5), (true, 6), (true, 7), (true, 8), (true, 9), (true, 10), (true, 11), (true, 12), (true, 13), (true, 14), (true, 15), (false, 16), (true, 17), (true, 18)] (fun w' => w'.cell? ⟨s, 0, none⟩ = some (.int .i64 2) ∧ w'.cell? ⟨s, 3, none⟩ = some (.pointer (some ⟨b + 3, 0, none⟩)) ∧ w'.cell? ⟨m, 0, none⟩ = some (.string nm) ∧ w'.cell? ⟨m, 1, none⟩ = some (.int .i64 ino)) (by kernel_rfl) (by kernel_rfl) ?_
    rintro w3 hw3
    have hm3 : Mod None_ w0 w3 := by rw [hw3]; exact (Mod.refl _ w0).drew
    replace hb := hb.mod hm3 id
    replace b0 := b0.mod hm3 id
    replace hI := hI.kept hm3
    have hM3 : Mod (B ≤ ·) w w3 := (hM0.trans hm3).mono (T := (B ≤ ·)) fun _ _ e => e.elim
    clear hw3 hm3 hM0
    have HP := hide (put_any w3 b rows 1 nm ino hl hI)
    refine ⟨⟨hb.cell 0, hb.cell 3, b0.cell 0, b0.cell 1⟩, ?_⟩
    iterate 16 (refine mxw_quiet rfl (fun w' i1 K hK => by obtain ⟨i1, i2, i3, i4⟩ := i1; go_simp; exact hK) ?_; go_frame)
    refine mxw_loud rfl (fun K hK => ?_)
    go_simp
    refine Calls.mono HP.out ?_
    rintro e w4 ⟨rfl, hm4, hI4⟩
    have hM4 := ix_up hM3 hm4 hBb
    replace hb := hb.mod hm4 (by unfold Ix; omega)
    replace b0 := b0.mod hm4 (by unfold Ix; omega)
    clear hI HP hm4 hM3
    refine ⟨_, rfl, ⟨hb.cell 0, hb.cell 3, b0.cell 0, b0.cell 1⟩, hK _ _ ?_⟩
    clear hK K
    try go_frame
    by_cases hz : putErr rows 1 nm ino = 0
    · have d6 : (putErr rows 1 nm ino != 0) = false := by simp [hz]
      have HF : Hid (RowPost w B s (fun rows => putErr rows 1 nm ino) (fun rows => putRows rows 1 nm ino) (.dir rows) (.returned (.int .i64 0)) w4) := hide ⟨hM4, by show if putErr rows 1 nm ino = 0 then _ else _; rw [if_pos hz]; exact ⟨rfl, hBs, b, hb, hI4, hBb, hap⟩⟩
      clear hz hM4 hb hI4 b0
      iterate 2 (refine mxw_quiet rfl (fun w' i1 K hK => by go_simp; exact hK) ?_; go_frame)
      refine mxw_nil ?_
      go_wp2
      go_ret
      exact HF.out
    · have d6 : (putErr rows 1 nm ino != 0) = true := by simp [hz]
      have HF : Hid (RowPost w B s (fun rows => putErr rows 1 nm ino) (fun rows => putRows rows 1 nm ino) (.dir rows) (.returned (.int .i64 90)) w4) := hide ⟨hM4, by show if putErr rows 1 nm ino = 0 then _ else _; rw [if_neg hz]⟩
      clear hz hM4 hb hI4 b0
      iterate 2 (refine mxw_quiet rfl (fun w' i1 K hK => by go_simp; exact hK) ?_; go_frame)
      refine mxw_nil ?_
      go_wp2
      go_ret
      exact HF.out

/-! ### drop -/
set_option maxRecDepth 100000 in
set_option maxHeartbeats 2000000 in
theorem dropOn_any (w : World) (B s : Nat) (D : SenseD) (nm : ByteArray) (h : SenseAt w B s D) (hl : lenD D < 4611686018427387900) :
    Calls Tryz.prog 121 #[.agg #[.string nm], .pointer (some ⟨s, 0, none⟩)] w (RowPost w B s (fun rows => dropErr rows 1 nm) (fun rows => dropRows rows 1 nm) D) := by
  obtain ⟨m, hm⟩ : ∃ m, m = w.heap.size := ⟨_, rfl⟩
  obtain ⟨w0, hw0⟩ : ∃ w0, w0 = w.alloc (.cells #[.string nm] 98) := ⟨_, rfl⟩
  have hM0 : Mod None_ w w0 := by rw [hw0]; exact (Mod.refl _ w).alloc _
  have b0 : Blk w0 m 98 #[.string nm] := by rw [hw0, hm]; exact Blk.new w 98 _
  have hs0 : w0.heap.size ≤ m + 1 := by rw [hw0, hm]; simp
  have hsl := h.lt
  have h0 := h.kept hM0
  have HW0 := hide hw0
  have HMM := hide hm
  rw [← hm] at hsl
  clear h hw0 hm
  go_enter Tryz.func121, Tryz.ntmps121
  go_upto_region 1 with fail
  rw [← HMM.out, ← HW0.out]
  clear HMM HW0
  cases D with
  | file z f =>
    obtain ⟨_, t, r, mid, leaf, many, hb, _⟩ := h0
    have c0 := hb.cell 0
    have HF := hide (hM0.mono (T := (B ≤ ·)) fun _ _ e => e.elim)
    go_wp2
    go_ret
    exact ⟨HF.out, rfl⟩
  | dir rows =>
    obtain ⟨hBs, b, hb, hI, hBb, hap⟩ := h0
    have hmb : m < b ∨ b + 4 ≤ m := by
      have h1 := hI.lt
      have h2 : b + 3 ≠ m := fun e => by
        have h3 := hI.blk
        rw [e] at h3
        unfold Blk at h3 b0
        rw [b0] at h3
        cases h3
      omega
    have c0 : w0.cell? ⟨s, 0, none⟩ = some (.int .i64 2) := hb.cell 0
    go_wp2_with fail
    refine region_mxw [(true, 0), (true, 1), (true, 2), (true, 3), (true, 4), (true, 5), (false, 6), (true, 7), (true, 8), (true, 9), (true, 10), (true, 11)] (fun w' => w'.cell? ⟨s, 3, none⟩ = some (.pointer (some ⟨b + 3, 0, none⟩)) ∧ w'.cell? ⟨m, 0, none⟩ = some (.string nm)) (by kernel_rfl) (by kernel_rfl) ?_
    rintro w3 hw3
    have hm3 : Mod None_ w0 w3 := by rw [hw3]; exact (Mod.refl _ w0).drew
    replace hb := hb.mod hm3 id
    replace b0 := b0.mod hm3 id
    replace hI := hI.kept hm3
    have hM3 : Mod (B ≤ ·) w w3 := (hM0.trans hm3).mono (T := (B ≤ ·)) fun _ _ e => e.elim
    clear hw3 hm3 hM0 c0
    have HP := hide (drop_any w3 b rows 1 nm hl rfl hI)
    refine ⟨⟨hb.cell 3, b0.cell 0⟩, ?_⟩
    iterate 6 (refine mxw_quiet rfl (fun w' i1 K hK => by obtain ⟨i1, i2⟩ := i1; go_simp; exact hK) ?_; go_frame)
    refine mxw_loud rfl (fun K hK => ?_)
    go_simp
    refine Calls.mono HP.out ?_
    rintro e w4 ⟨rfl, hm4, hI4⟩
    have hM4 := ix_up hM3 hm4 hBb
    replace hb := hb.mod hm4 (by unfold Ix; omega)
    replace b0 := b0.mod hm4 (by unfold Ix; omega)
    clear hI HP hm4 hM3
    refine ⟨_, rfl, ⟨hb.cell 3, b0.cell 0⟩, hK _ _ ?_⟩
    clear hK K
    try go_frame
    iterate 5 (refine mxw_quiet rfl (fun w' i1 K hK => by go_simp; exact hK) ?_; go_frame)
    refine mxw_nil ?_
    by_cases hz : dropErr rows 1 nm = 0
    · have d6 : (dropErr rows 1 nm != 0) = false := by simp [hz]
      have HF : Hid (RowPost w B s (fun rows => dropErr rows 1 nm) (fun rows => dropRows rows 1 nm) (.dir rows) (.returned (.int .i64 0)) w4) := hide ⟨hM4, by show if dropErr rows 1 nm = 0 then _ else _; rw [if_pos hz]; exact ⟨rfl, hBs, b, hb, hI4, hBb, hap⟩⟩
      clear hz hM4 hb hI4 b0
      go_wp2
      go_ret
      exact HF.out
    · have d6 : (dropErr rows 1 nm != 0) = true := by simp [hz]
      have HF : Hid (RowPost w B s (fun rows => dropErr rows 1 nm) (fun rows => dropRows rows 1 nm) (.dir rows) (.returned (.int .i64 90)) w4) := hide ⟨hM4, by show if dropErr rows 1 nm = 0 then _ else _; rw [if_neg hz]⟩
      clear hz hM4 hb hI4 b0
      go_wp2
      go_ret
      exact HF.out
end Go.Proofs.YtabebkffcmajkaaGreatDoor

/-! Walk: an entry's step done to a sense, as one. -/
namespace Go.Proofs.YtabebkffcmajkaaGreatDoor
open Go.RowKit Go.Maps Go.Shelf
attribute [local go_sem] quietV loudUpon Oper.semAt_some

def onOk (e : EntD) : SenseD → Bool
  | .file _ _ => decide (e.kind = 1 ∨ e.kind = 2)
  | .dir rows => if e.kind = 3 then decide (putErr rows 1 e.name e.ino = 0) else if e.kind = 4 then decide (dropErr rows 1 e.name = 0) else false
def onD (e : EntD) : SenseD → SenseD
  | .file _ f => .file e.size (cutF (if e.kind = 1 then setN f e.off.toNat e.page e.count.toNat else f) ((e.size + 511) / 512))
  | .dir rows => if e.kind = 3 then .dir (putRows rows 1 e.name e.ino) else .dir (dropRows rows 1 e.name)
def OnPost (w : World) (B s : Nat) (e : EntD) (D : SenseD) : Ending → World → Prop := fun x w' =>
  Mod (B ≤ ·) w w' ∧ (if onOk e D = true then x = .returned (.int .i64 0) ∧ SenseAt w' B s (onD e D) else x = .returned (.int .i64 90))
/-- what a good entry says -/
structure GoodE (e : EntD) : Prop where
  kind : e.kind = 1 ∨ e.kind = 2 ∨ e.kind = 3 ∨ e.kind = 4
  size : 0 ≤ e.size ∧ e.size ≤ 262144
  run : 0 ≤ e.off ∧ 0 ≤ e.count ∧ e.off + e.count ≤ 512 ∧ 0 ≤ e.page ∧ e.page ≤ 1024
theorem goodE_of {e : EntD} (h : goodEnt (one e) = true) : GoodE e := by
  have hb := ent_bd h
  have hk : 1 ≤ e.kind ∧ e.kind ≤ 4 := hb.kind
  have hz : 0 ≤ e.size ∧ e.size ≤ 262144 := hb.size
  have ho : 0 ≤ e.off ∧ e.off ≤ 512 := hb.off
  have hc : 0 ≤ e.count ∧ e.count ≤ 16 := hb.count
  have hp : 0 ≤ e.page ∧ e.page ≤ 1024 := hb.page
  refine ⟨by omega, hz, ?_⟩
  unfold goodEnt at h
  rw [Bool.and_eq_true] at h
  replace h := h.2
  by_cases h1 : (one e).kind = 1
  · rw [if_pos h1] at h
    simp only [Bool.and_eq_true, roomB, wi_iff] at h
    have h2 : 0 ≤ e.off ∧ e.off ≤ 512 - e.count := h.1.2.1
    omega
  · rw [if_neg h1] at h
    have h2 : e.count = 0 := by
      split at h
      · simp only [Bool.and_eq_true, noPagesB, beq_iff_eq] at h
        exact h.1.2.1
      · split at h
        · simp only [Bool.and_eq_true, noPagesB, beq_iff_eq] at h
          exact h.1.2.1
        · split at h
          · simp only [Bool.and_eq_true, noPagesB, beq_iff_eq] at h
            exact h.1.2.1
          · cases h
    omega
/-- the function behind a step -/
def onFn (e : EntD) : Nat := if e.kind = 1 then 117 else if e.kind = 2 then 118 else if e.kind = 3 then 120 else 121
def onArg (e : EntD) : Value := if e.kind = 1 then .agg #[.int .i64 e.off, .int .i64 e.page, .int .i64 e.count, .int .i64 e.size] else if e.kind = 2 then .agg #[.int .i64 e.size]
  else if e.kind = 3 then .agg #[.string e.name, .int .i64 e.ino] else .agg #[.string e.name]
theorem on_any (w : World) (B s : Nat) (e : EntD) (D : SenseD) (hg : GoodE e) (h : SenseAt w B s D) (hl : lenD D < 4611686018427387900) :
    Calls Tryz.prog (onFn e) #[onArg e, .pointer (some ⟨s, 0, none⟩)] w (OnPost w B s e D) := by
  unfold onFn onArg
  by_cases h1 : e.kind = 1
  · rw [if_pos h1, if_pos h1]
    cases D with
    | file z f =>
      refine (write_file w B s z f ⟨e.off, e.page, e.count⟩ e.size h hg.size hg.run).mono ?_
      rintro x w' ⟨rfl, h2, h3⟩
      refine ⟨h3, ?_⟩
      rw [if_pos (by simp [onOk, h1])]
      refine ⟨rfl, ?_⟩
      simp only [onD]
      rw [if_pos h1]
      exact h2
    | dir rows =>
      refine (write_dir w B s rows ⟨e.off, e.page, e.count⟩ e.size h).mono ?_
      rintro x w' ⟨rfl, h3⟩
      refine ⟨h3.mono fun _ _ e => e.elim, ?_⟩
      rw [if_neg (by simp [onOk, h1])]
  · rw [if_neg h1, if_neg h1]
    by_cases h2 : e.kind = 2
    · rw [if_pos h2, if_pos h2]
      cases D with
      | file z f =>
        refine (resize_file w B s z f e.size h hg.size).mono ?_
        rintro x w' ⟨rfl, h3, h4⟩
        refine ⟨h4, ?_⟩
        rw [if_pos (by simp [onOk, h2])]
        refine ⟨rfl, ?_⟩
        simp only [onD]
        rw [if_neg h1]
        exact h3
      | dir rows =>
        refine (resize_dir w B s rows e.size h).mono ?_
        rintro x w' ⟨rfl, h3⟩
        refine ⟨h3.mono fun _ _ e => e.elim, ?_⟩
        rw [if_neg (by simp [onOk, h2])]
    · rw [if_neg h2, if_neg h2]
      by_cases h3 : e.kind = 3
      · rw [if_pos h3, if_pos h3]
        refine (add_any w B s D e.name e.ino h hl).mono ?_
        rintro x w' ⟨h4, h5⟩
        refine ⟨h4, ?_⟩
        cases D with
        | file z f => rw [if_neg (by simp [onOk, h1, h2])]; exact h5
        | dir rows =>
          by_cases hz : putErr rows 1 e.name e.ino = 0
          · simp only [hz, if_true] at h5
            rw [if_pos (by simp [onOk, h3, hz])]
            refine ⟨h5.1, ?_⟩
            simp only [onD]
            rw [if_pos h3]
            exact h5.2
          · simp only [hz, if_false] at h5
            rw [if_neg (by simp [onOk, h3, hz])]
            exact h5
      · rw [if_neg h3, if_neg h3]
        have h4 : e.kind = 4 := by have := hg.kind; omega
        refine (dropOn_any w B s D e.name h hl).mono ?_
        rintro x w' ⟨h6, h5⟩
        refine ⟨h6, ?_⟩
        cases D with
        | file z f => rw [if_neg (by simp [onOk, h1, h2])]; exact h5
        | dir rows =>
          by_cases hz : dropErr rows 1 e.name = 0
          · simp only [hz, if_true] at h5
            rw [if_pos (by simp [onOk, h4, hz])]
            refine ⟨h5.1, ?_⟩
            simp only [onD]
            rw [if_neg h3]
            exact h5.2
          · simp only [hz, if_false] at h5
            rw [if_neg (by simp [onOk, h4, hz])]
            exact h5

end Go.Proofs.YtabebkffcmajkaaGreatDoor

/-! Walk: into. -/
namespace Go.Proofs.YtabebkffcmajkaaGreatDoor
open Go.RowKit Go.Maps Go.Shelf
attribute [local go_sem] quietV loudUpon Oper.semAt_some

def dKind : SenseD → Int
  | .file _ _ => 1
  | .dir _ => 2
def dSize : SenseD → Int
  | .file z _ => z
  | .dir _ => 0
def dMap : SenseD → List RunD
  | .file _ f => runsOf (itemsOf f 0 512 0)
  | .dir _ => []
def dNames : SenseD → List (ByteArray × Int)
  | .file _ _ => []
  | .dir rows => namesOf rows
def intoN (D : SenseD) (n : NodeD) : NodeD := { n with kind := dKind D, size := dSize D, map := dMap D, names := dNames D }
def IntoPost (w : World) (D : SenseD) (n : NodeD) (vl : Value) : Ending → World → Prop := fun e w' => ∃ vm vn, e = .returned (.agg (nodeC (intoN D n) vm vn vl)) ∧
  w'.ownsRow w.heap.size 73 3 vm (dMap D).length (rowOf encRun (dMap D)) ∧ w'.ownsRow w.heap.size 75 2 vn (dNames D).length (rowOf encDent (dNames D)) ∧ Mod None_ w w'
theorem runCells_row (l : List RunD) : runCells l = rowOf encRun l := rfl
theorem dentCells_row (f : ByteArray → Int) (ns : List ByteArray) : dentCells f ns = rowOf encDent (pairsOf f ns) := by
  unfold dentCells rowOf pairsOf
  rw [List.flatMap_map]
  rfl
theorem nodeC_one (n : NodeD) (vm vn vl : Value) (h1 : vm.oneCell' = true) (h2 : vn.oneCell' = true) (h3 : vl.oneCell' = true) : (nodeC n vm vn vl).all (·.oneCell') = true := by
  simp only [nodeC, List.all_toArray, List.all_cons, List.all_nil, h1, h2, h3, Bool.and_true, Bool.true_and]; rfl
/-- the sense's two first cells, and the block -/
theorem sense_blk {w : World} {B s : Nat} {D : SenseD} (h : SenseAt w B s D) : ∃ a b, Blk w s 83 #[.int .i64 (dKind D), .int .i64 (dSize D), a, b] := by
  cases D with
  | file z f => obtain ⟨_, t, r, mid, leaf, many, h2, _⟩ := h; exact ⟨_, _, h2⟩
  | dir rows => obtain ⟨_, b, h2, _⟩ := h; exact ⟨_, _, h2⟩

set_option maxRecDepth 100000 in
set_option maxHeartbeats 2000000 in
theorem into_any (w : World) (B s : Nat) (D : SenseD) (n : NodeD) (vm vn vl : Value) (h : SenseAt w B s D) (hl : lenD D ≤ 5000000000000) (hvl : vl.oneCell' = true) :
    Calls Tryz.prog 26 #[.pointer (some ⟨s, 0, none⟩), .agg (nodeC n vm vn vl)] w (IntoPost w D n vl) := by
  have hsl := h.lt
  obtain ⟨m, hm⟩ : ∃ m, m = w.heap.size := ⟨_, rfl⟩
  obtain ⟨w0, hw0⟩ : ∃ w0, w0 = (w.alloc (.cells (nodeC n vm vn vl) 34)).alloc (.cells zeroNode 34) := ⟨_, rfl⟩
  have hM0 : Mod None_ w w0 := by rw [hw0]; exact ((Mod.refl _ w).alloc _).alloc _
  have bn : Blk w0 m 34 (nodeC n vm vn vl) := by rw [hw0, hm]; exact (Blk.new w 34 _).alloc _
  have bo : Blk w0 (m + 1) 34 zeroNode := by
    have := Blk.new (w.alloc (.cells (nodeC n vm vn vl) 34)) 34 zeroNode
    rw [← hw0, alloc_size, ← hm] at this
    exact this
  have HH := hide h
  obtain ⟨va, vb, bs⟩ := sense_blk (h.kept hM0)
  have HW0 := hide hw0
  have HMM := hide hm
  rw [← hm] at hsl
  have hem : w.heap.size ≤ m := by omega
  clear h hw0 hm
  go_enter Tryz.func26, Tryz.ntmps26
  go_upto_region 1 with ((with_reducible refine at_slot 4 ?_); refine wpList_alloc rfl 34 rfl (.agg zeroNode) zeroNodeV ?_; go_frame)
  simp only [alloc_size]
  rw [← HMM.out, show (Value.agg zeroNode).cells = zeroNode from rfl, ← HW0.out]
  clear HMM HW0
  refine region_mxw [(true, 0), (true, 1), (true, 2), (true, 3), (true, 4), (true, 5), (true, 6), (true, 7), (true, 8), (false, 9), (true, 10), (false, 11), (true, 12), (false, 13), (true, 14), (false, 15)] (fun w' => w'.cell? ⟨s, 0, none⟩ = some (.int .i64 (dKind D)) ∧ w'.cell? ⟨s, 1, none⟩ = some (.int .i64 (dSize D))) (by kernel_rfl) (by kernel_rfl) ?_
  rintro w1 hw1
  have hm1 : Mod None_ w0 w1 := by rw [hw1]; exact (Mod.refl _ w0).drew
  replace bs := bs.mod hm1 id
  replace bn := bn.mod hm1 id
  replace bo := bo.mod hm1 id
  replace hM0 := hM0.trans hm1
  clear hw1 hm1
  refine ⟨⟨bs.cell 0, bs.cell 1⟩, ?_⟩
  iterate 9 (refine mxw_quiet rfl (fun w' i1 K hK => by obtain ⟨i1, i2⟩ := i1; go_simp; exact hK) ?_; go_frame)
  have f1 : w1.frozen? ⟨m, 1, none⟩ = false := bn.frozen _
  have c1 : w1.cell? ⟨m, 1, none⟩ = some (.int .i64 n.kind) := bn.cell 1
  have i0 : w1.cell? ⟨s, 0, none⟩ = some (.int .i64 (dKind D)) := bs.cell 0
  have i1 : w1.cell? ⟨s, 1, none⟩ = some (.int .i64 (dSize D)) := bs.cell 1
  have I0 := hide (And.intro i0 i1)
  clear i0 i1
  refine mxw_loud rfl (fun K hK => ?_)
  go_simp
  obtain ⟨w2, hw2⟩ : ∃ w2, w2 = w1.setCell ⟨m, 1, none⟩ (.int .i64 (dKind D)) := ⟨_, rfl⟩
  rw [← hw2]
  have hm2 : Mod (· = m) w1 w2 := by rw [hw2]; exact (Mod.refl (· = m) w1).setCell (p := ⟨m, 1, none⟩) (.inr rfl) _
  replace bn : Blk w2 m 34 (nodeC { n with kind := dKind D } vm vn vl) := by rw [hw2]; exact bn.set_ 1 (.int .i64 (dKind D))
  replace bs := bs.mod hm2 (by omega)
  replace bo := bo.mod hm2 (by omega)
  replace hM0 := hM0.trans' hm2 (fun g hg e => by omega)
  clear hw2 hm2 f1 c1
  refine ⟨I0.out, hK _ _ ?_⟩
  clear hK K I0
  try go_frame
  iterate 1 (refine mxw_quiet rfl (fun w' i1 K hK => by obtain ⟨i1, i2⟩ := i1; go_simp; exact hK) ?_; go_frame)
  have f1 : w2.frozen? ⟨m, 3, none⟩ = false := bn.frozen _
  have c1 : w2.cell? ⟨m, 3, none⟩ = some (.int .i64 n.size) := bn.cell 3
  have i0 : w2.cell? ⟨s, 0, none⟩ = some (.int .i64 (dKind D)) := bs.cell 0
  have i1 : w2.cell? ⟨s, 1, none⟩ = some (.int .i64 (dSize D)) := bs.cell 1
  have I0 := hide (And.intro i0 i1)
  clear i0 i1
  refine mxw_loud rfl (fun K hK => ?_)
  go_simp
  obtain ⟨w3, hw3⟩ : ∃ w3, w3 = w2.setCell ⟨m, 3, none⟩ (.int .i64 (dSize D)) := ⟨_, rfl⟩
  rw [← hw3]
  have hm3 : Mod (· = m) w2 w3 := by rw [hw3]; exact (Mod.refl (· = m) w2).setCell (p := ⟨m, 3, none⟩) (.inr rfl) _
  replace bn : Blk w3 m 34 (nodeC { n with kind := dKind D, size := dSize D } vm vn vl) := by rw [hw3]; exact bn.set_ 3 (.int .i64 (dSize D))
  replace bs := bs.mod hm3 (by omega)
  replace bo := bo.mod hm3 (by omega)
  replace hM0 := hM0.trans' hm3 (fun g hg e => by omega)
  clear hw3 hm3 f1 c1
  refine ⟨I0.out, hK _ _ ?_⟩
  clear hK K I0
  try go_frame
  iterate 1 (refine mxw_quiet rfl (fun w' i1 K hK => by obtain ⟨i1, i2⟩ := i1; go_simp; exact hK) ?_; go_frame)
  have f1 : w3.frozen? ⟨m, 4, none⟩ = false := bn.frozen _
  have c1 : w3.cell? ⟨m, 4, none⟩ = some (vm) := bn.cell 4
  have i0 : w3.cell? ⟨s, 0, none⟩ = some (.int .i64 (dKind D)) := bs.cell 0
  have i1 : w3.cell? ⟨s, 1, none⟩ = some (.int .i64 (dSize D)) := bs.cell 1
  have I0 := hide (And.intro i0 i1)
  clear i0 i1
  refine mxw_loud rfl (fun K hK => ?_)
  go_simp
  obtain ⟨w4, hw4⟩ : ∃ w4, w4 = w3.setCell ⟨m, 4, none⟩ (.slice none 0 0) := ⟨_, rfl⟩
  rw [← hw4]
  have hm4 : Mod (· = m) w3 w4 := by rw [hw4]; exact (Mod.refl (· = m) w3).setCell (p := ⟨m, 4, none⟩) (.inr rfl) _
  replace bn : Blk w4 m 34 (nodeC { n with kind := dKind D, size := dSize D } (.slice none 0 0) vn vl) := by rw [hw4]; exact bn.set_ 4 (.slice none 0 0)
  replace bs := bs.mod hm4 (by omega)
  replace bo := bo.mod hm4 (by omega)
  replace hM0 := hM0.trans' hm4 (fun g hg e => by omega)
  clear hw4 hm4 f1 c1
  refine ⟨I0.out, hK _ _ ?_⟩
  clear hK K I0
  try go_frame
  iterate 1 (refine mxw_quiet rfl (fun w' i1 K hK => by obtain ⟨i1, i2⟩ := i1; go_simp; exact hK) ?_; go_frame)
  have f1 : w4.frozen? ⟨m, 5, none⟩ = false := bn.frozen _
  have c1 : w4.cell? ⟨m, 5, none⟩ = some (vn) := bn.cell 5
  have i0 : w4.cell? ⟨s, 0, none⟩ = some (.int .i64 (dKind D)) := bs.cell 0
  have i1 : w4.cell? ⟨s, 1, none⟩ = some (.int .i64 (dSize D)) := bs.cell 1
  have I0 := hide (And.intro i0 i1)
  clear i0 i1
  refine mxw_loud rfl (fun K hK => ?_)
  go_simp
  obtain ⟨w5, hw5⟩ : ∃ w5, w5 = w4.setCell ⟨m, 5, none⟩ (.slice none 0 0) := ⟨_, rfl⟩
  rw [← hw5]
  have hm5 : Mod (· = m) w4 w5 := by rw [hw5]; exact (Mod.refl (· = m) w4).setCell (p := ⟨m, 5, none⟩) (.inr rfl) _
  replace bn : Blk w5 m 34 (nodeC { n with kind := dKind D, size := dSize D } (.slice none 0 0) (.slice none 0 0) vl) := by rw [hw5]; exact bn.set_ 5 (.slice none 0 0)
  replace bs := bs.mod hm5 (by omega)
  replace bo := bo.mod hm5 (by omega)
  replace hM0 := hM0.trans' hm5 (fun g hg e => by omega)
  clear hw5 hm5 f1 c1
  refine ⟨I0.out, hK _ _ ?_⟩
  clear hK K I0
  try go_frame
  refine mxw_nil ?_
  have hS := HH.out.kept hM0
  clear bs HH
  have HONE := hide hvl
  clear hvl
  cases D with
  | file z f =>
    obtain ⟨hBs, t, r, mid, leaf, many, bs, hT, hB⟩ := hS
    have c0 : w5.cell? ⟨s, 0, none⟩ = some (.int .i64 1) := bs.cell 0
    have c2 : w5.cell? ⟨s, 2, none⟩ = some (.pointer (some ⟨t, 0, none⟩)) := bs.cell 2
    go_wp2_with fail
    refine (runs_any w5 t r mid leaf f many hT).mono ?_
    rintro e w6 ⟨v, rfl, hv, hm6⟩
    obtain ⟨A, c, rfl⟩ := own_slice hv
    have hm1l := bo.lt
    replace bn := bn.mod hm6 id
    replace bo := bo.mod hm6 id
    have hM6 := hM0.trans hm6
    have hov : ∀ g, (Value.slice A (runsOf (itemsOf f 0 512 0)).length c).ownBlock = some g → m + 1 < g := fun g hg => by have := (own_blk hv hg).1; omega
    have hv6 := own_base hv hM0.size
    have HV := hide hv6
    have HOV := hide hov
    clear hv hv6 hov c0 c2 bs hM0 hm6
    have f1 : w6.frozen? ⟨m, 4, none⟩ = false := bn.frozen _
    have c1 : w6.cell? ⟨m, 4, none⟩ = some (.slice none 0 0) := bn.cell 4
    obtain ⟨w7, hw7⟩ : ∃ w7, w7 = w6.setCell ⟨m, 4, none⟩ (Value.slice A (runsOf (itemsOf f 0 512 0)).length c) := ⟨_, rfl⟩
    have hm7 : Mod (· = m) w6 w7 := by rw [hw7]; exact (Mod.refl (· = m) w6).setCell (p := ⟨m, 4, none⟩) (.inr rfl) _
    have bn7 : Blk w7 m 34 (nodeC (intoN (SenseD.file z f) n) (Value.slice A (runsOf (itemsOf f 0 512 0)).length c) (.slice none 0 0) vl) := by rw [hw7]; exact bn.set_ 4 (Value.slice A (runsOf (itemsOf f 0 512 0)).length c)
    have bo7 := bo.mod hm7 (by omega)
    have hM7 := hM6.trans' hm7 (fun g hg e => by omega)
    have hm8 : Mod (· = m + 1) w7 (w7.setRow (m + 1) (nodeC (intoN (SenseD.file z f) n) (Value.slice A (runsOf (itemsOf f 0 512 0)).length c) (.slice none 0 0) vl)) := (Mod.refl (· = m + 1) w7).setRow (.inr rfl) _
    have hv8 := own_mod (own_mod HV.out hm7 (fun g hg e => by have := HOV.out g hg; omega)) hm8 (fun g hg e => by have := HOV.out g hg; omega)
    have hfin : IntoPost w (SenseD.file z f) n vl (.returned (.agg (nodeC (intoN (SenseD.file z f) n) (Value.slice A (runsOf (itemsOf f 0 512 0)).length c) (.slice none 0 0) vl))) (w7.setRow (m + 1) (nodeC (intoN (SenseD.file z f) n) (Value.slice A (runsOf (itemsOf f 0 512 0)).length c) (.slice none 0 0) vl)) := ⟨_, _, rfl, hv8, ⟨rfl, .inl ⟨rfl, rfl⟩⟩, hM7.trans' hm8 (fun g hg e => by omega)⟩
    have HF := hide hfin
    have HB := hide (bo7.row (nodeC (intoN (SenseD.file z f) n) (Value.slice A (runsOf (itemsOf f 0 512 0)).length c) (.slice none 0 0) vl))
    have HI := hide (infoNode (intoN (SenseD.file z f) n) (Value.slice A (runsOf (itemsOf f 0 512 0)).length c) (.slice none 0 0) vl)
    have HO := hide (nodeC_one (intoN (SenseD.file z f) n) (Value.slice A (runsOf (itemsOf f 0 512 0)).length c) (.slice none 0 0) vl rfl rfl HONE.out)
    have HW7 := hide hw7
    clear hfin hv8 hm8 hM7 hM6 hm7 hw7 bn bo HV HOV
    go_upto_region 5 with fail
    rw [← HW7.out]
    clear HW7 f1 c1
    go_wp2_with (first
      | ((with_reducible refine at_slot 34 ?_); refine wpList_val rfl (ex_load rfl (run_loadRow bn7 Tryz.underlying34 rfl HI.out)) ?_; go_frame)
      | ((with_reducible refine at_none 34 4 34 ?_); refine wpList_store_row rfl 34 (.tmp 4) (.tmp 34) rfl (m + 1) (nodeC (intoN (SenseD.file z f) n) (Value.slice A (runsOf (itemsOf f 0 512 0)).length c) (.slice none 0 0) vl) rfl rfl 34 zeroNode bo7 HI.out rfl HO.out ?_; go_frame))
    have hl := run_loadVar_row (P := Tryz.prog) _ (m + 1) 34 34 _ (0, 0) _ HB.out Tryz.underlying34 rfl HI.out
    exact ⟨rfl, .agg (nodeC (intoN (SenseD.file z f) n) (Value.slice A (runsOf (itemsOf f 0 512 0)).length c) (.slice none 0 0) vl), by simp [results, Tryz.results26, asAddr, hl], HF.out⟩
  | dir rows =>
    obtain ⟨hBs, b, bs, hI, hBb, hap⟩ := hS
    have c0 : w5.cell? ⟨s, 0, none⟩ = some (.int .i64 2) := bs.cell 0
    have c2 : w5.cell? ⟨s, 3, none⟩ = some (.pointer (some ⟨b + 3, 0, none⟩)) := bs.cell 3
    go_wp2_with fail
    refine (list_any w5 b rows 1 hl rfl hI).mono ?_
    rintro e w6 ⟨v, rfl, hv, hm6⟩
    have hnl : (namesOf rows).length = (listNames rows 1).length := by unfold namesOf; rw [pairsOf_length]
    rw [dentCells_row, ← show namesOf rows = pairsOf (findIno rows 1) (listNames rows 1) from rfl, ← hnl] at hv
    clear hnl
    obtain ⟨A, c, rfl⟩ := own_slice hv
    have hm1l := bo.lt
    replace bn := bn.mod hm6 id
    replace bo := bo.mod hm6 id
    have hM6 := hM0.trans hm6
    have hov : ∀ g, (Value.slice A (namesOf rows).length c).ownBlock = some g → m + 1 < g := fun g hg => by have := (own_blk hv hg).1; omega
    have hv6 := own_base hv hM0.size
    have HV := hide hv6
    have HOV := hide hov
    clear hv hv6 hov c0 c2 bs hM0 hm6
    have f1 : w6.frozen? ⟨m, 5, none⟩ = false := bn.frozen _
    have c1 : w6.cell? ⟨m, 5, none⟩ = some (.slice none 0 0) := bn.cell 5
    obtain ⟨w7, hw7⟩ : ∃ w7, w7 = w6.setCell ⟨m, 5, none⟩ (Value.slice A (namesOf rows).length c) := ⟨_, rfl⟩
    have hm7 : Mod (· = m) w6 w7 := by rw [hw7]; exact (Mod.refl (· = m) w6).setCell (p := ⟨m, 5, none⟩) (.inr rfl) _
    have bn7 : Blk w7 m 34 (nodeC (intoN (SenseD.dir rows) n) (.slice none 0 0) (Value.slice A (namesOf rows).length c) vl) := by rw [hw7]; exact bn.set_ 5 (Value.slice A (namesOf rows).length c)
    have bo7 := bo.mod hm7 (by omega)
    have hM7 := hM6.trans' hm7 (fun g hg e => by omega)
    have hm8 : Mod (· = m + 1) w7 (w7.setRow (m + 1) (nodeC (intoN (SenseD.dir rows) n) (.slice none 0 0) (Value.slice A (namesOf rows).length c) vl)) := (Mod.refl (· = m + 1) w7).setRow (.inr rfl) _
    have hv8 := own_mod (own_mod HV.out hm7 (fun g hg e => by have := HOV.out g hg; omega)) hm8 (fun g hg e => by have := HOV.out g hg; omega)
    have hfin : IntoPost w (SenseD.dir rows) n vl (.returned (.agg (nodeC (intoN (SenseD.dir rows) n) (.slice none 0 0) (Value.slice A (namesOf rows).length c) vl))) (w7.setRow (m + 1) (nodeC (intoN (SenseD.dir rows) n) (.slice none 0 0) (Value.slice A (namesOf rows).length c) vl)) := ⟨_, _, rfl, ⟨rfl, .inl ⟨rfl, rfl⟩⟩, hv8, hM7.trans' hm8 (fun g hg e => by omega)⟩
    have HF := hide hfin
    have HB := hide (bo7.row (nodeC (intoN (SenseD.dir rows) n) (.slice none 0 0) (Value.slice A (namesOf rows).length c) vl))
    have HI := hide (infoNode (intoN (SenseD.dir rows) n) (.slice none 0 0) (Value.slice A (namesOf rows).length c) vl)
    have HO := hide (nodeC_one (intoN (SenseD.dir rows) n) (.slice none 0 0) (Value.slice A (namesOf rows).length c) vl rfl rfl HONE.out)
    have HW7 := hide hw7
    clear hfin hv8 hm8 hM7 hM6 hm7 hw7 bn bo HV HOV
    go_upto_region 5 with fail
    rw [← HW7.out]
    clear HW7 f1 c1
    go_wp2_with (first
      | ((with_reducible refine at_slot 34 ?_); refine wpList_val rfl (ex_load rfl (run_loadRow bn7 Tryz.underlying34 rfl HI.out)) ?_; go_frame)
      | ((with_reducible refine at_none 34 4 34 ?_); refine wpList_store_row rfl 34 (.tmp 4) (.tmp 34) rfl (m + 1) (nodeC (intoN (SenseD.dir rows) n) (.slice none 0 0) (Value.slice A (namesOf rows).length c) vl) rfl rfl 34 zeroNode bo7 HI.out rfl HO.out ?_; go_frame))
    have hl := run_loadVar_row (P := Tryz.prog) _ (m + 1) 34 34 _ (0, 0) _ HB.out Tryz.underlying34 rfl HI.out
    exact ⟨rfl, .agg (nodeC (intoN (SenseD.dir rows) n) (.slice none 0 0) (Value.slice A (namesOf rows).length c) vl), by simp [results, Tryz.results26, asAddr, hl], HF.out⟩
end Go.Proofs.YtabebkffcmajkaaGreatDoor

/-! Walks: empty, slices.Clone. -/
namespace Go.Proofs.YtabebkffcmajkaaGreatDoor
open Go.RowKit Go.Maps Go.Shelf
attribute [local go_sem] quietV loudUpon Oper.semAt_some

theorem reads_lo {w w' : World} {size n : Nat} {A : Option Addr} {xs : List Value} (h : Reads w w.heap.size size A n xs) (hm : Mod None_ w w') : Reads w' w.heap.size size A n xs := by
  refine ⟨h.1, fun h0 => ?_⟩
  obtain ⟨ad, h1, h2, h3⟩ := h.2 h0
  exact ⟨ad, h1, h2, fun j u hj => (World.cell?_of_block (hm.block _ (by rw [show (ad.add j).block = ad.block from by unfold Addr.add; split <;> simp_all]; exact h2) id)).trans (h3 j u hj)⟩
/-- what no entry means -/
def zeroD (k : Int) : SenseD := if k = 1 then .file 0 (fun _ => 0) else .dir []
def EmptyPost (w : World) (k : Int) : Ending → World → Prop := fun e w' => Mod None_ w w' ∧
  (if k = 1 ∨ k = 2 then ∃ s, e = .returned (.pointer (some ⟨s, 0, none⟩)) ∧ SenseAt w' w.heap.size s (zeroD k) else e = .returned (.pointer none))
set_option maxRecDepth 100000 in
set_option maxHeartbeats 1000000 in
theorem empty_any (w : World) (k : Int) : Calls Tryz.prog 33 #[.int .i64 k] w (EmptyPost w k) := by
  by_cases h1 : k = 1
  · subst h1
    go_enter Tryz.func33, Tryz.ntmps33
    go_wp2_with fail
    refine (rnew_any w).mono ?_
    rintro e w2 ⟨rfl, hT, hm⟩
    have HF : Hid (EmptyPost w 1 (.returned (.pointer (some ⟨w2.heap.size, 0, none⟩))) (w2.alloc (.cells #[.int .i64 1, .int .i64 0, .pointer (some ⟨w.heap.size + 1, 0, none⟩), .pointer none] 83))) := hide (by
      refine ⟨hm.alloc _, ?_⟩
      rw [if_pos (by simp)]
      refine ⟨_, rfl, ?_⟩
      rw [show zeroD 1 = .file 0 (fun _ => 0) from by simp [zeroD]]
      have hsz := hm.size
      exact ⟨hsz, _, _, _, _, _, Blk.new w2 _ _, hT.kept ((Mod.refl _ w2).alloc _), fun g hg => ⟨(by
        rcases hg with h | h | ⟨k, _, hk⟩ | ⟨k, _, hk⟩
        · omega
        · omega
        · cases hk
        · cases hk), (by have := hT.lt hg; omega)⟩⟩)
    clear hT hm
    go_wp2
    go_ret
    exact HF.out
  · by_cases h2 : k = 2
    · subst h2
      refine (empty_dir w).mono ?_
      rintro e w' ⟨rfl, hb, hI, hm⟩
      refine ⟨hm, ?_⟩
      rw [if_pos (by simp)]
      refine ⟨_, rfl, ?_⟩
      rw [show zeroD 2 = .dir [] from by simp [zeroD]]
      exact ⟨by omega, _, hb, hI, by omega, by omega⟩
    · have k1 : (k == 1) = false := by simp [h1]
      have k2 : (k == 2) = false := by simp [h2]
      have HF : Hid (EmptyPost w k (.returned (.pointer none)) w) := hide ⟨Mod.refl _ w, by rw [if_neg (by omega)]⟩
      go_enter Tryz.func33, Tryz.ntmps33
      go_wp2
      go_ret
      exact HF.out

set_option maxRecDepth 100000 in
set_option maxHeartbeats 1000000 in
theorem clone_any (w : World) (v : Value) (l : List Int) (h : ListAt encInt 1 w v l) (hl : l.length ≤ 1000000000) : Calls Tryz.prog 27 #[v] w fun e w' => ∃ v', e = .returned v' ∧ w'.ownsRow w.heap.size 3 1 v' l.length (rowOf encInt l) ∧ Mod None_ w w' := by
  obtain ⟨A, c, rfl, hc1, hc2, hA⟩ := id h
  rcases A with _ | ad
  · have hl0 : l = [] := by
      rcases l with _ | ⟨x, l⟩
      · rfl
      · obtain ⟨g, o, e, _⟩ := hA (by simp)
        cases e
    subst hl0
    have he : ∀ w, (binOp .eql 32 (.slice none 0 c) (.slice none 0 0)).run Tryz.prog w = .ok (.bool true) w := by
      intro w
      simp [binOp, run_equal_slice_nil w 32 3 _ _ _ Tryz.underlying32]
    go_enter Tryz.func27, Tryz.ntmps27
    go_wp2
    go_ret
    exact ⟨_, rfl, ⟨rfl, .inl ⟨rfl, rfl⟩⟩, Mod.refl _ w⟩
  · clear hA
    go_enter Tryz.func27, Tryz.ntmps27
    have he : ∀ w, (binOp .eql 32 (.slice (some ad) l.length c) (.slice none 0 0)).run Tryz.prog w = .ok (.bool false) w := by
      intro w
      simp [binOp, run_equal_slice_nil w 32 3 _ _ _ Tryz.underlying32]
    obtain ⟨ii, hii, hzi, hsi, hbi⟩ := info_parts infoInt
    obtain ⟨w0, hw0⟩ : ∃ w0, w0 = w.alloc (.cells #[] 3) := ⟨_, rfl⟩
    have hM0 : Mod None_ w w0 := by rw [hw0]; exact (Mod.refl _ w).alloc _
    have hown : w0.ownsRow w.heap.size 3 1 (.slice (some ⟨w.heap.size, 0, none⟩) 0 0) 0 [] := by
      refine ⟨rfl, .inr ⟨w.heap.size, 0, #[], rfl, Nat.le_refl _, ?_⟩⟩
      have hb : w0.heap[w.heap.size]? = some (.cells #[] 3 (0, 0)) := by rw [hw0]; exact Blk.new w 3 #[]
      exact ⟨hb, Nat.le_refl _, by unfold maxLen; omega, rfl, rfl⟩
    have hlt : w.heap.size ≤ w0.heap.size := hM0.size
    have hrd0 : Reads w0 w.heap.size 1 (some ad) l.length (rowOf encInt l) := reads_lo (ListAt.reads (enc := encInt) (sz := 1) (fun _ => rfl) (by omega) h) hM0
    have HOW := hide hown
    have HRD := hide hrd0
    have HW0 := hide hw0
    clear hown hrd0 hw0
    go_wp2_with ((with_reducible refine at_slot 7 ?_); rw [← HW0.out]; refine wpList_append_any _ rfl (.tmp 5) (.tmp 6) 32 rfl w.heap.size 3 ii (.int .i64 0) 1 8 Tryz.underlying32 hii hzi hsi hbi rfl (by omega) _ 0 [] rfl HOW.out _ (some ad) l.length c _ rfl HRD.out (rowOf_one (fun x u hu => by simp only [encInt, List.mem_cons, List.not_mem_nil, or_false] at hu; subst hu; rfl) l) (by unfold maxLen; omega) (by omega) hlt ?_; intro v' w' hown' hg' hat'; go_frame)
    rw [Nat.zero_add, List.nil_append] at hown'
    have hM : Mod None_ w w' := hM0.trans' (Mod.of_grown hg') (fun k hk e => by
      have : k = w.heap.size := by
        have e' : some k = some w.heap.size := e
        cases e'; rfl
      omega)
    have HF := hide (And.intro hown' hM)
    clear hown' hM hg' hat'
    go_ret
    exact ⟨_, rfl, HF.out⟩
end Go.Proofs.YtabebkffcmajkaaGreatDoor

/-! Walk: Apply. -/
namespace Go.Proofs.YtabebkffcmajkaaGreatDoor
open Go.RowKit Go.Maps Go.Shelf
attribute [local go_sem] quietV loudUpon Oper.semAt_some

theorem on_write (w : World) (v p : Value) : (callMethod (.iface 92 v) "furrow/inode.on" #[p]).run Tryz.prog w = .ok (.enter 117 #[v, p]) w := by kernel_rfl
theorem on_resize (w : World) (v p : Value) : (callMethod (.iface 94 v) "furrow/inode.on" #[p]).run Tryz.prog w = .ok (.enter 118 #[v, p]) w := by kernel_rfl
theorem on_add (w : World) (v p : Value) : (callMethod (.iface 96 v) "furrow/inode.on" #[p]).run Tryz.prog w = .ok (.enter 120 #[v, p]) w := by kernel_rfl
theorem on_drop (w : World) (v p : Value) : (callMethod (.iface 98 v) "furrow/inode.on" #[p]).run Tryz.prog w = .ok (.enter 121 #[v, p]) w := by kernel_rfl
theorem run_on (w : World) (e : EntD) (p : Value) : (callMethod (actV e) "furrow/inode.on" #[p]).run Tryz.prog w = .ok (.enter (onFn e) #[onArg e, p]) w := by
  unfold actV onFn onArg
  by_cases h1 : e.kind = 1
  · simp only [if_pos h1]; exact on_write w _ p
  · simp only [if_neg h1]
    by_cases h2 : e.kind = 2
    · simp only [if_pos h2]; exact on_resize w _ p
    · simp only [if_neg h2]
      by_cases h3 : e.kind = 3
      · simp only [if_pos h3]; exact on_add w _ p
      · simp only [if_neg h3]; exact on_drop w _ p
theorem wpList_on {ops : Array Oper} {rest : List Oper} {o : Oper} {a : Act} {w : World} {Q : Exit → Act → World → Prop} (hg : o.guard = none) (x y : Operand) (ts : Array TypeId)
    (ho : o.op = .call { callee := .invoke x "furrow/inode.on", args := #[y], argTypes := ts }) (e : EntD) (p : Value) (hx : a.eval x = actV e) (hy : a.eval y = p) (R : Ending → World → Prop)
    (hc : Calls Tryz.prog (onFn e) #[onArg e, p] w R) (hr : ∀ x w', R x w' → ∃ v, x = .returned v)
    (h : ∀ v w', R (.returned v) w' → wpList Tryz.prog ops Q rest (a.put o.dst v) w') : wpList Tryz.prog ops Q (o :: rest) a w := by
  refine wpList_plain hg fun K hK => ?_
  unfold Oper.wp
  have hrun : (execOp a.eval o).run Tryz.prog w = .ok (.enter (onFn e) #[onArg e, p]) w := by
    have h1 := run_on w e p
    unfold execOp
    simp only [ho, resolve, invoke, Sem.run_bind, Sem.run_pure, Result.andThen_ok, List.map_toArray, List.map_cons, List.map_nil, hx, hy]
    exact h1
  rw [hrun, Oper.upon_enter]
  refine hc.mono fun x w'' hh => ?_
  obtain ⟨v, rfl⟩ := hr _ _ hh
  exact hK _ _ (h _ _ hh)

/-- what a good node says -/
def senseD (n : NodeD) : SenseD := if n.kind = 1 then .file n.size (tableOf n.map) else .dir ((dirRows n.names).getD [])
theorem sense_at {w w' : World} {n : NodeD} {e : Ending} (h : SensePost w n e w') : Mod None_ w w' ∧
    (if nodeGood n = true then ∃ s, e = .returned (.pointer (some ⟨s, 0, none⟩)) ∧ SenseAt w' w.heap.size s (senseD n) else e = .returned (.pointer none)) := by
  unfold SensePost at h
  unfold nodeGood senseD
  by_cases h1 : n.kind = 1
  · rw [if_pos h1] at h ⊢
    rw [if_pos h1]
    unfold FilePost at h
    split at h
    · rename_i hg
      obtain ⟨s, t, r, mid, leaf, many, rfl, hb, hT, hs, hB, hm⟩ := h
      rw [if_pos hg]
      exact ⟨hm, s, rfl, hs, t, r, mid, leaf, many, hb, hT, hB⟩
    · rename_i hg
      rw [if_neg hg]
      exact ⟨h.2, h.1⟩
  · rw [if_neg h1] at h ⊢
    rw [if_neg h1]
    by_cases h2 : n.kind = 2
    · rw [if_pos h2] at h ⊢
      unfold DirPost at h
      split at h
      · rename_i hg
        obtain ⟨s, b, rows, rfl, hb, hI, hr, hs, hs2, hm⟩ := h
        rw [if_pos hg]
        refine ⟨hm, s, rfl, ?_⟩
        rw [hr]
        exact ⟨by omega, b, hb, hI, hs, .inr (by omega)⟩
      · rename_i hg
        rw [if_neg hg]
        exact ⟨h.2, h.1⟩
    · rw [if_neg h2] at h ⊢
      exact ⟨h.2, by simpa using h.1⟩
theorem fold_len : ∀ (l : List (ByteArray × Int)) (acc rows : List Row), l.foldl dirStep (some acc) = some rows → rows.length = l.length + acc.length
  | [], acc, rows, h => by cases h; simp
  | x :: l, acc, rows, h => by
    rw [List.foldl_cons, show dirStep (some acc) x = (if x.2 = 1 ∨ putErr acc 1 x.1 x.2 ≠ 0 then none else some (⟨1, x.1, x.2⟩ :: acc)) from rfl] at h
    split at h
    · have := dirStep_none l
      rw [show l.foldl dirStep none = none from this] at h
      cases h
    · have := fold_len l _ rows h
      simp at this ⊢
      omega
theorem lenD_sense (n : NodeD) : lenD (senseD n) ≤ n.names.length := by
  unfold senseD
  split
  · exact Nat.zero_le _
  · cases hr : dirRows n.names with
    | none => exact Nat.zero_le _
    | some rows =>
      have := fold_len n.names [] rows hr
      show rows.length ≤ _
      simp at this
      omega
theorem lenD_on (e : EntD) (D : SenseD) : lenD (onD e D) ≤ lenD D + 1 := by
  cases D with
  | file z f => exact Nat.zero_le _
  | dir rows =>
    simp only [onD]
    split
    · show (putRows rows 1 e.name e.ino).length ≤ rows.length + 1
      unfold putRows
      split <;> simp
    · show (dropRows rows 1 e.name).length ≤ rows.length + 1
      have := List.length_filter_le (fun r : Row => !decide (r.dir = 1 ∧ r.name = e.name)) rows
      unfold dropRows
      omega
def zeroN : NodeD := ⟨0, 0, 0, 0, [], [], 0, 0, [], 0⟩
def applyErr (n : NodeD) (e : EntD) : Int := if goodEnt (one e) = false then 34 else if nodeGood n = false then 90 else if onOk e (senseD n) = false then 90 else 0
def applyN (n : NodeD) (e : EntD) : NodeD := if applyErr n e = 0 then { intoN (onD e (senseD n)) n with entries := wrap64 (n.entries + 1) } else zeroN
def ApplyPost (w : World) (n : NodeD) (e : EntD) : Ending → World → Prop := fun x w' => ∃ vm vn vl, x = .returned (.tuple #[.agg (nodeC (applyN n e) vm vn vl), .int .i64 (applyErr n e)]) ∧
  NodeOwn w.heap.size w' (applyN n e) vm vn vl ∧ Mod None_ w w'
theorem zeroN_own (b : Nat) (w : World) : NodeOwn b w zeroN (.slice none 0 0) (.slice none 0 0) (.slice none 0 0) := ⟨⟨rfl, .inl ⟨rfl, rfl⟩⟩, ⟨rfl, .inl ⟨rfl, rfl⟩⟩, ⟨rfl, .inl ⟨rfl, rfl⟩⟩⟩
theorem ApplyPost.bad {w w' : World} {n : NodeD} {e : EntD} {k : Int} (h : applyErr n e = k) (hk : k ≠ 0) (hm : Mod None_ w w') : ApplyPost w n e (.returned (.tuple #[.agg zeroNode, .int .i64 k])) w' := by
  have h2 : applyN n e = zeroN := by unfold applyN; rw [if_neg (by rw [h]; exact hk)]
  unfold ApplyPost
  rw [h2, h]
  exact ⟨_, _, _, rfl, zeroN_own _ _, hm⟩
theorem run_build31 (w : World) : (Instr.build 34 #[]).run Tryz.prog w = .ok (.agg zeroNode) w := by kernel_rfl
theorem infoZero : (Tryz.prog.info? 34).map (·.size) = some zeroNode.size := by show _ = some 10; kernel_rfl
theorem oneZero : zeroNode.all (·.oneCell') = true := by simp [zeroNode, Value.oneCell']

set_option maxRecDepth 100000 in
set_option maxHeartbeats 4000000 in
theorem apply_any (w : World) (n : NodeD) (vm vn vl : Value) (e : EntD) (hs : Steps w) (h : NodeAt w n vm vn vl) (hlog : n.log.length ≤ 1000000000) :
    Calls Tryz.prog 8 #[.agg (nodeC n vm vn vl), .agg (encEntry e).toArray] w (ApplyPost w n e) := by
  obtain ⟨m, hm⟩ : ∃ m, m = w.heap.size := ⟨_, rfl⟩
  obtain ⟨w0, hw0⟩ : ∃ w0, w0 = ((w.alloc (.cells (nodeC n vm vn vl) 34)).alloc (.cells (encEntry e).toArray 49)).alloc (.cells zeroNode 34) := ⟨_, rfl⟩
  have hM0 : Mod None_ w w0 := by rw [hw0]; exact (((Mod.refl _ w).alloc _).alloc _).alloc _
  have bn : Blk w0 m 34 (nodeC n vm vn vl) := by rw [hw0, hm]; exact ((Blk.new w 34 _).alloc _).alloc _
  have be : Blk w0 (m + 1) 49 (encEntry e).toArray := by
    have := (Blk.new (w.alloc (.cells (nodeC n vm vn vl) 34)) 49 (encEntry e).toArray).alloc (.cells zeroNode 34)
    rw [← hw0, alloc_size, ← hm] at this
    exact this
  have bo : Blk w0 (m + 2) 34 zeroNode := by
    have := Blk.new ((w.alloc (.cells (nodeC n vm vn vl) 34)).alloc (.cells (encEntry e).toArray 49)) 34 zeroNode
    rw [← hw0, alloc_size, alloc_size, ← hm] at this
    exact this
  have hS := hs.kept hM0
  have hN := h.kept hM0
  have hvl : vl.oneCell' = true := by obtain ⟨A, c, rfl, _⟩ := h.log; rfl
  have HLOG := hide h.log
  have hem : w.heap.size ≤ m := by omega
  have HIE := hide (infoEnt e)
  have HIN := hide (infoNode n vm vn vl)
  have HW0 := hide hw0
  have HMM := hide hm
  have hls := lenD_sense n
  have hnl := h.nlen
  clear hw0 hm h hs
  go_enter Tryz.func8, Tryz.ntmps8
  go_upto_region 1 with ((with_reducible refine at_slot 4 ?_); refine wpList_alloc rfl 34 rfl (.agg zeroNode) zeroNodeV ?_; go_frame)
  simp only [alloc_size]
  rw [← HMM.out, show (Value.agg zeroNode).cells = zeroNode from rfl, show m + 1 + 1 = m + 2 from rfl, ← HW0.out]
  clear HMM HW0
  have HP := hide (stepOf_any w0 e hS)
  go_wp2_with ((with_reducible refine at_slot 11 ?_); refine wpList_val rfl (ex_load rfl (run_loadRow be Tryz.underlying49 rfl HIE.out)) ?_; go_frame)
  refine HP.out.mono ?_
  rintro x w1 ⟨rfl, hm1⟩
  replace bn := bn.mod hm1 id
  replace bo := bo.mod hm1 id
  replace hN := hN.kept hm1
  have hM1 := hM0.trans hm1
  clear HP HIE be hM0 hm1 hS
  cases hg : goodEnt (one e) with
  | false =>
    rw [show (if (false = true) then (0 : Int) else 34) = 34 from rfl]
    have hmr : Mod (· = m + 2) w1 (w1.setRow (m + 2) zeroNode) := (Mod.refl (· = m + 2) w1).setRow (.inr rfl) _
    have HF := hide (ApplyPost.bad (n := n) (e := e) (k := 34) (by unfold applyErr; rw [if_pos hg]) (by decide) (hM1.trans' hmr (fun g hg e => by omega)))
    have HB := hide (bo.row zeroNode)
    clear hmr hg hM1 bn hN
    go_wp2_with (first
      | ((with_reducible refine at_slot 17 ?_); refine wpList_val rfl (ex_build (ps := []) rfl (run_build31 _)) ?_; go_frame)
      | ((with_reducible refine at_none 34 4 17 ?_); refine wpList_store_row rfl 34 (.tmp 4) (.tmp 17) rfl (m + 2) zeroNode rfl rfl 34 zeroNode bo infoZero rfl oneZero ?_; go_frame))
    have hl := run_loadVar_row (P := Tryz.prog) _ (m + 2) 34 34 _ (0, 0) _ HB.out Tryz.underlying34 rfl infoZero
    exact ⟨rfl, .tuple #[.agg zeroNode, .int .i64 34], by simp [results, Tryz.results8, asAddr, hl], HF.out⟩
  | true =>
    rw [show (if (true = true) then (0 : Int) else 34) = 0 from rfl, show (if (true = true) then actV e else Value.nilIface) = actV e from rfl]
    have hge := goodE_of hg
    have HP := hide (sense_any w1 n vm vn vl hN)
    go_wp2_with ((with_reducible refine at_slot 19 ?_); refine wpList_val rfl (ex_load rfl (run_loadRow bn Tryz.underlying34 rfl HIN.out)) ?_; go_frame)
    refine HP.out.mono ?_
    rintro x w2 hpost
    obtain ⟨hm2, hr⟩ := sense_at hpost
    have hw1m := bo.lt
    have hM2 := hM1.trans hm2
    replace bn := bn.mod hm2 id
    replace bo := bo.mod hm2 id
    have hw12 := hm2.size
    have hw01 := hM1.size
    clear HP hN hpost hM1 hm2
    by_cases hgn : nodeGood n = true
    · rw [if_pos hgn] at hr
      obtain ⟨s, rfl, hS⟩ := hr
      by_cases hok : onOk e (senseD n) = true
      · have hon : Calls Tryz.prog (onFn e) #[onArg e, .pointer (some ⟨s, 0, none⟩)] w2 fun x w' => x = .returned (.int .i64 0) ∧ Mod (w1.heap.size ≤ ·) w2 w' ∧ SenseAt w' w1.heap.size s (onD e (senseD n)) := by
          refine (on_any w2 w1.heap.size s e (senseD n) hge hS (by omega)).mono ?_
          rintro x w' ⟨h1, h2⟩
          rw [if_pos hok] at h2
          exact ⟨h2.1, h1, h2.2⟩
        have herr : applyErr n e = 0 := by unfold applyErr; simp [hg, hgn, hok]
        have happ : applyN n e = { intoN (onD e (senseD n)) n with entries := wrap64 (n.entries + 1) } := by unfold applyN; rw [if_pos herr]
        have hlen : lenD (onD e (senseD n)) ≤ 5000000000000 := by have := lenD_on e (senseD n); omega
        have HON := hide hon
        have HAPP := hide happ
        have HERR := hide herr
        clear hon happ herr hS hok hgn hg
        go_upto_region 8 with ((with_reducible refine at_slot 26 ?_); refine wpList_on rfl (.tmp 24) (.tmp 25) #[65] rfl e (.pointer (some ⟨s, 0, none⟩)) rfl rfl _ HON.out (fun x w' h => ⟨_, h.1⟩) ?_; rintro v w3 ⟨hv, hm3, hS3⟩; obtain rfl : v = Value.int .i64 0 := (by injection hv); clear hv; go_frame)
        replace bn := bn.mod hm3 (by omega)
        replace bo := bo.mod hm3 (by omega)
        have hM3 : Mod None_ w w3 := hM2.trans' hm3 (fun g hg e => by omega)
        have hw23 := hm3.size
        clear hM2 hm3 HON
        have HP := hide (into_any w3 w1.heap.size s (onD e (senseD n)) n vm vn vl hS3 hlen hvl)
        clear hS3
        go_upto_region 10 with fail
        go_wp2_with ((with_reducible refine at_slot 32 ?_); refine wpList_val rfl (ex_load rfl (run_loadRow bn Tryz.underlying34 rfl HIN.out)) ?_; go_frame)
        refine HP.out.mono ?_
        rintro x w4 ⟨vm1, vn1, rfl, hom, hon, hm4⟩
        replace bn := bn.mod hm4 id
        replace bo := bo.mod hm4 id
        have hM4 := hM3.trans hm4
        have hw34 := hm4.size
        have hvm1 : vm1.oneCell' = true := by obtain ⟨A, c, rfl⟩ := own_slice hom; rfl
        have hvn1 : vn1.oneCell' = true := by obtain ⟨A, c, rfl⟩ := own_slice hon; rfl
        have hone1 := nodeC_one (intoN (onD e (senseD n)) n) vm1 vn1 vl hvm1 hvn1 hvl
        have homb : ∀ g, vm1.ownBlock = some g → m + 2 < g := fun g hg => by have := (own_blk hom hg).1; omega
        have honb : ∀ g, vn1.ownBlock = some g → m + 2 < g := fun g hg => by have := (own_blk hon hg).1; omega
        replace hom := own_base hom (show w.heap.size ≤ w3.heap.size by omega)
        replace hon := own_base hon (show w.heap.size ≤ w3.heap.size by omega)
        clear HP hM3 hm4 HIN
        have hent : (intoN (onD e (senseD n)) n).entries = n.entries := rfl
        have hilog : (intoN (onD e (senseD n)) n).log = n.log := rfl
        have himap : (intoN (onD e (senseD n)) n).map = dMap (onD e (senseD n)) := rfl
        have hinam : (intoN (onD e (senseD n)) n).names = dNames (onD e (senseD n)) := rfl
        rw [← himap] at hom
        rw [← hinam] at hon
        obtain ⟨N1, hN1⟩ : ∃ N1, N1 = intoN (onD e (senseD n)) n := ⟨_, rfl⟩
        rw [← hN1] at hent hilog hom hon hone1 HAPP ⊢
        rw [← hent] at HAPP
        clear hent himap hinam hN1
        obtain ⟨w5, hw5⟩ : ∃ w5, w5 = w4.setRow m (nodeC N1 vm1 vn1 vl) := ⟨_, rfl⟩
        have hm5 : Mod (· = m) w4 w5 := by rw [hw5]; exact (Mod.refl (· = m) w4).setRow (.inr rfl) _
        have bn5 : Blk w5 m 34 (nodeC N1 vm1 vn1 vl) := by rw [hw5]; exact bn.row _
        have HI1 := hide (infoNode N1 vm1 vn1 vl)
        have HW5 := hide hw5
        have HL := hide hilog
        clear hw5 hilog
        replace bo := bo.mod hm5 (by omega)
        have hM5 := hM4.trans' hm5 (fun g hg e => by omega)
        replace hom := own_mod hom hm5 (fun g hg e => by have := homb g hg; omega)
        replace hon := own_mod hon hm5 (fun g hg e => by have := honb g hg; omega)
        have HONE1 := hide hone1
        have hw45 := hm5.size
        clear hM4 hm5 hone1
        go_upto_region 11 with ((with_reducible refine at_none 34 2 33 ?_); refine wpList_store_row rfl 34 (.tmp 2) (.tmp 33) rfl m (nodeC N1 vm1 vn1 vl) rfl rfl 34 (nodeC n vm vn vl) bn HI1.out rfl HONE1.out ?_; go_frame)
        rw [← HW5.out]
        clear HW5 bn
        have c9 : w5.cell? ⟨m, 9, none⟩ = some (.int .i64 N1.entries) := bn5.cell 9
        have f9 : w5.frozen? ⟨m, 9, none⟩ = false := bn5.frozen _
        go_upto_region 12 with fail
        obtain ⟨w6, hw6⟩ : ∃ w6, w6 = w5.setCell ⟨m, 9, none⟩ (.int .i64 (wrap64 (N1.entries + 1))) := ⟨_, rfl⟩
        rw [← hw6]
        have hm6 : Mod (· = m) w5 w6 := by rw [hw6]; exact (Mod.refl (· = m) w5).setCell (p := ⟨m, 9, none⟩) (.inr rfl) _
        obtain ⟨N2, hN2⟩ : ∃ N2, N2 = ({ N1 with entries := wrap64 (N1.entries + 1) } : NodeD) := ⟨_, rfl⟩
        have bn6 : Blk w6 m 34 (nodeC N2 vm1 vn1 vl) := by rw [hw6, hN2]; exact bn5.set_ 9 _
        have hmap2 : N2.map = N1.map := by rw [hN2]
        have hnam2 : N2.names = N1.names := by rw [hN2]
        have hlog2 : N2.log = n.log := by rw [hN2]; exact HL.out
        rw [← hN2] at HAPP
        rw [← hmap2] at hom
        rw [← hnam2] at hon
        replace bo := bo.mod hm6 (by omega)
        have hM6 := hM5.trans' hm6 (fun g hg e => by omega)
        replace hom := own_mod hom hm6 (fun g hg e => by have := homb g hg; omega)
        replace hon := own_mod hon hm6 (fun g hg e => by have := honb g hg; omega)
        have hw56 := hm6.size
        have c8 : w6.cell? ⟨m, 8, none⟩ = some vl := bn6.cell 8
        clear hw6 hm6 c9 f9 bn5 hM5 hN2 hmap2 hnam2 HL HI1 HONE1
        have HC := hide (clone_any w6 vl n.log (HLOG.out.kept hM6) hlog)
        have HL2 := hide hlog2
        clear hlog2
        go_wp2_with fail
        refine HC.out.mono ?_
        rintro x w7 ⟨vl1, rfl, hol, hm7⟩
        obtain ⟨Al, cl, rfl⟩ := own_slice hol
        replace bn6 := bn6.mod hm7 id
        replace bo := bo.mod hm7 id
        have hM7 := hM6.trans hm7
        replace hom := own_mod hom hm7 (fun _ _ f => f)
        replace hon := own_mod hon hm7 (fun _ _ f => f)
        have holb : ∀ g, (Value.slice Al n.log.length cl).ownBlock = some g → m + 2 < g := fun g hg => by have := (own_blk hol hg).1; omega
        replace hol := own_base hol (show w.heap.size ≤ w6.heap.size by omega)
        have c8 : w7.cell? ⟨m, 8, none⟩ = some vl := bn6.cell 8
        have f8 : w7.frozen? ⟨m, 8, none⟩ = false := bn6.frozen _
        clear hM6 hm7 HC
        go_upto_region 13 with fail
        obtain ⟨w8, hw8⟩ : ∃ w8, w8 = w7.setCell ⟨m, 8, none⟩ (.slice Al n.log.length cl) := ⟨_, rfl⟩
        rw [← hw8]
        have hm8 : Mod (· = m) w7 w8 := by rw [hw8]; exact (Mod.refl (· = m) w7).setCell (p := ⟨m, 8, none⟩) (.inr rfl) _
        have bn8 : Blk w8 m 34 (nodeC N2 vm1 vn1 (.slice Al n.log.length cl)) := by rw [hw8]; exact bn6.set_ 8 _
        replace bo := bo.mod hm8 (by omega)
        have hM8 := hM7.trans' hm8 (fun g hg e => by omega)
        replace hom := own_mod hom hm8 (fun g hg e => by have := homb g hg; omega)
        replace hon := own_mod hon hm8 (fun g hg e => by have := honb g hg; omega)
        replace hol := own_mod hol hm8 (fun g hg e => by have := holb g hg; omega)
        clear hw8 hm8 c8 f8 bn6 hM7
        have hm9 : Mod (· = m + 2) w8 (w8.setRow (m + 2) (nodeC N2 vm1 vn1 (.slice Al n.log.length cl))) := (Mod.refl (· = m + 2) w8).setRow (.inr rfl) _
        replace hom := own_mod hom hm9 (fun g hg e => by have := homb g hg; omega)
        replace hon := own_mod hon hm9 (fun g hg e => by have := honb g hg; omega)
        replace hol := own_mod hol hm9 (fun g hg e => by have := holb g hg; omega)
        have hfin : ApplyPost w n e (.returned (.tuple #[.agg (nodeC N2 vm1 vn1 (.slice Al n.log.length cl)), .int .i64 0])) (w8.setRow (m + 2) (nodeC N2 vm1 vn1 (.slice Al n.log.length cl))) := by
          unfold ApplyPost
          rw [HAPP.out, HERR.out]
          refine ⟨vm1, vn1, _, rfl, ⟨hom, hon, ?_⟩, hM8.trans' hm9 (fun g hg e => by omega)⟩
          rw [HL2.out]
          exact hol
        have HF := hide hfin
        have HB := hide (bo.row (nodeC N2 vm1 vn1 (.slice Al n.log.length cl)))
        have HI2 := hide (infoNode N2 vm1 vn1 (.slice Al n.log.length cl))
        have HO2 := hide (nodeC_one N2 vm1 vn1 (.slice Al n.log.length cl) hvm1 hvn1 rfl)
        clear hfin hm9 hM8 hom hon hol homb honb holb HL2 HAPP HERR HLOG
        go_wp2_with (first
          | ((with_reducible refine at_slot 42 ?_); refine wpList_val rfl (ex_load rfl (run_loadRow bn8 Tryz.underlying34 rfl HI2.out)) ?_; go_frame)
          | ((with_reducible refine at_none 34 4 42 ?_); refine wpList_store_row rfl 34 (.tmp 4) (.tmp 42) rfl (m + 2) (nodeC N2 vm1 vn1 (.slice Al n.log.length cl)) rfl rfl 34 zeroNode bo HI2.out rfl HO2.out ?_; go_frame))
        have hl := run_loadVar_row (P := Tryz.prog) _ (m + 2) 34 34 _ (0, 0) _ HB.out Tryz.underlying34 rfl HI2.out
        exact ⟨rfl, .tuple #[.agg (nodeC N2 vm1 vn1 (.slice Al n.log.length cl)), .int .i64 0], by simp [results, Tryz.results8, asAddr, hl], HF.out⟩
      · have hon : Calls Tryz.prog (onFn e) #[onArg e, .pointer (some ⟨s, 0, none⟩)] w2 fun x w' => x = .returned (.int .i64 90) ∧ Mod (w1.heap.size ≤ ·) w2 w' := by
          refine (on_any w2 w1.heap.size s e (senseD n) hge hS (by omega)).mono ?_
          rintro x w' ⟨h1, h2⟩
          rw [if_neg hok] at h2
          exact ⟨h2, h1⟩
        have herr : applyErr n e = 90 := by unfold applyErr; simp [hg, hgn, hok]
        have HON := hide hon
        have HERR := hide herr
        clear hon herr hS hok hgn hg
        go_upto_region 8 with ((with_reducible refine at_slot 26 ?_); refine wpList_on rfl (.tmp 24) (.tmp 25) #[65] rfl e (.pointer (some ⟨s, 0, none⟩)) rfl rfl _ HON.out (fun x w' h => ⟨_, h.1⟩) ?_; rintro v w3 ⟨hv, hm3⟩; obtain rfl : v = Value.int .i64 90 := (by injection hv); clear hv; go_frame)
        replace bo := bo.mod hm3 (by omega)
        have hM3 : Mod None_ w w3 := hM2.trans' hm3 (fun g hg e => by omega)
        have hmr : Mod (· = m + 2) w3 (w3.setRow (m + 2) zeroNode) := (Mod.refl (· = m + 2) w3).setRow (.inr rfl) _
        have HF := hide (ApplyPost.bad (n := n) (e := e) (k := 90) HERR.out (by decide) (hM3.trans' hmr (fun g hg e => by omega)))
        have HB := hide (bo.row zeroNode)
        clear hmr hM3 hM2 hm3 HON HERR bn
        go_wp2_with (first
          | ((with_reducible refine at_slot 29 ?_); refine wpList_val rfl (ex_build (ps := []) rfl (run_build31 _)) ?_; go_frame)
          | ((with_reducible refine at_none 34 4 29 ?_); refine wpList_store_row rfl 34 (.tmp 4) (.tmp 29) rfl (m + 2) zeroNode rfl rfl 34 zeroNode bo infoZero rfl oneZero ?_; go_frame))
        have hl := run_loadVar_row (P := Tryz.prog) _ (m + 2) 34 34 _ (0, 0) _ HB.out Tryz.underlying34 rfl infoZero
        exact ⟨rfl, .tuple #[.agg zeroNode, .int .i64 90], by simp [results, Tryz.results8, asAddr, hl], HF.out⟩
    · rw [if_neg hgn] at hr
      subst hr
      have hmr : Mod (· = m + 2) w2 (w2.setRow (m + 2) zeroNode) := (Mod.refl (· = m + 2) w2).setRow (.inr rfl) _
      have HF := hide (ApplyPost.bad (n := n) (e := e) (k := 90) (by unfold applyErr; simp [hg, hgn]) (by decide) (hM2.trans' hmr (fun g hg e => by omega)))
      have HB := hide (bo.row zeroNode)
      clear hmr hg hM2 bn hgn
      go_wp2_with (first
        | ((with_reducible refine at_slot 23 ?_); refine wpList_val rfl (ex_build (ps := []) rfl (run_build31 _)) ?_; go_frame)
        | ((with_reducible refine at_none 34 4 23 ?_); refine wpList_store_row rfl 34 (.tmp 4) (.tmp 23) rfl (m + 2) zeroNode rfl rfl 34 zeroNode bo infoZero rfl oneZero ?_; go_frame))
      have hl := run_loadVar_row (P := Tryz.prog) _ (m + 2) 34 34 _ (0, 0) _ HB.out Tryz.underlying34 rfl infoZero
      exact ⟨rfl, .tuple #[.agg zeroNode, .int .i64 90], by simp [results, Tryz.results8, asAddr, hl], HF.out⟩
end Go.Proofs.YtabebkffcmajkaaGreatDoor

/-! Walk: Replay. -/
namespace Go.Proofs.YtabebkffcmajkaaGreatDoor
open Go.RowKit Go.Maps Go.Shelf
attribute [local go_sem] quietV loudUpon Oper.semAt_some

def stepErr (D : SenseD) (e : EntD) : Int := if goodEnt (one e) = false then 34 else if onOk e D = false then 90 else 0
def playD : SenseD → List EntD → Int × SenseD
  | D, [] => (0, D)
  | D, e :: l => if stepErr D e = 0 then playD (onD e D) l else (stepErr D e, D)
theorem playD_snoc : ∀ (l : List EntD) (D D' : SenseD) (x : EntD), playD D l = (0, D') → playD D (l ++ [x]) = if stepErr D' x = 0 then (0, onD x D') else (stepErr D' x, D')
  | [], D, D', x, h => by
    obtain rfl : D = D' := by injection h
    show (if stepErr D x = 0 then playD (onD x D) [] else (stepErr D x, D)) = _
    rfl
  | e :: l, D, D', x, h => by
    show (if stepErr D e = 0 then playD (onD e D) (l ++ [x]) else (stepErr D e, D)) = _
    have h2 : (if stepErr D e = 0 then playD (onD e D) l else (stepErr D e, D)) = (0, D') := h
    by_cases h0 : stepErr D e = 0
    · rw [if_pos h0] at h2 ⊢
      exact playD_snoc l _ D' x h2
    · rw [if_neg h0] at h2
      injection h2 with h3
      exact absurd h3 h0
theorem playD_stop : ∀ (l l2 : List EntD) (D : SenseD), (playD D l).1 ≠ 0 → (playD D (l ++ l2)).1 = (playD D l).1
  | [], l2, D, h => absurd rfl h
  | e :: l, l2, D, h => by
    show (if stepErr D e = 0 then playD (onD e D) (l ++ l2) else (stepErr D e, D)).1 = (if stepErr D e = 0 then playD (onD e D) l else (stepErr D e, D)).1
    have h2 : (if stepErr D e = 0 then playD (onD e D) l else (stepErr D e, D)).1 ≠ 0 := h
    by_cases h0 : stepErr D e = 0
    · rw [if_pos h0] at h2 ⊢
      rw [if_pos h0]
      exact playD_stop l l2 _ h2
    · rw [if_neg h0, if_neg h0]
def replayErr (k : Int) (l : List EntD) : Int := if k = 1 ∨ k = 2 then (playD (zeroD k) l).1 else 90
def replayN (k : Int) (l : List EntD) : NodeD := if replayErr k l = 0 then { intoN (playD (zeroD k) l).2 zeroN with entries := l.length } else zeroN
def ReplayPost (w : World) (k : Int) (l : List EntD) : Ending → World → Prop := fun x w' => ∃ vm vn vl, x = .returned (.tuple #[.agg (nodeC (replayN k l) vm vn vl), .int .i64 (replayErr k l)]) ∧
  NodeOwn w.heap.size w' (replayN k l) vm vn vl ∧ Mod None_ w w'
theorem ReplayPost.bad {w w' : World} {k : Int} {l : List EntD} {c : Int} (h : replayErr k l = c) (hc : c ≠ 0) (hm : Mod None_ w w') : ReplayPost w k l (.returned (.tuple #[.agg zeroNode, .int .i64 c])) w' := by
  have h2 : replayN k l = zeroN := by unfold replayN; rw [if_neg (by rw [h]; exact hc)]
  unfold ReplayPost
  rw [h2, h]
  exact ⟨_, _, _, rfl, zeroN_own _ _, hm⟩
/-- what holds in Replay's loop -/
def PlayI (w : World) (m s : Nat) (k : Int) (l : List EntD) (j : Nat) (wr : World) : Prop :=
  ∃ D, playD (zeroD k) (l.take j) = (0, D) ∧ SenseAt wr (w.heap.size + 1) s D ∧ lenD D ≤ j ∧ Blk wr m 34 zeroNode ∧ Mod None_ w wr

set_option maxRecDepth 100000 in
set_option maxHeartbeats 4000000 in
theorem replay_any (w : World) (k : Int) (v : Value) (l : List EntD) (hs : Steps w) (h : ListAt encEntry 8 w v l) (hl : l.length ≤ 1000000) :
    Calls Tryz.prog 14 #[.int .i64 k, v] w (ReplayPost w k l) := by
  obtain ⟨A, c, rfl, hc1, hc2, hA⟩ := h
  have HA := hide hA
  clear hA
  have hln : ∀ w, (Builtin.len_ #[37] 3 #[.slice A l.length c]).run Tryz.prog w = .ok (.int .i64 l.length) w := fun w => by simp [Builtin.len_, run_underlying Tryz.underlying37]; rfl
  obtain ⟨m, hm⟩ : ∃ m, m = w.heap.size := ⟨_, rfl⟩
  obtain ⟨w0, hw0⟩ : ∃ w0, w0 = w.alloc (.cells zeroNode 34) := ⟨_, rfl⟩
  have hM0 : Mod None_ w w0 := by rw [hw0]; exact (Mod.refl _ w).alloc _
  have bo : Blk w0 m 34 zeroNode := by rw [hw0, hm]; exact Blk.new w 34 _
  have hsz0 : w0.heap.size = w.heap.size + 1 := by rw [hw0]; simp
  have hem : w.heap.size ≤ m := by omega
  have hem2 : m ≤ w.heap.size := by omega
  have HS := hide hs
  have HW0 := hide hw0
  have HMM := hide hm
  have HE := hide (empty_any w0 k)
  clear hw0 hm hs
  go_enter Tryz.func14, Tryz.ntmps14
  go_upto_region 1 with ((with_reducible refine at_slot 4 ?_); refine wpList_alloc rfl 34 rfl (.agg zeroNode) zeroNodeV ?_; go_frame)
  rw [← HMM.out, show (Value.agg zeroNode).cells = zeroNode from rfl, ← HW0.out]
  clear HMM HW0
  go_wp2_with fail
  refine HE.out.mono ?_
  rintro x w1 ⟨hm1, hr⟩
  replace bo := bo.mod hm1 id
  have hM1 := hM0.trans hm1
  have hw01 := hm1.size
  have HSZ0 := hide hsz0
  clear HE hM0 hm1 hsz0
  by_cases hk : k = 1 ∨ k = 2
  · rw [if_pos hk] at hr
    obtain ⟨s, rfl, hS⟩ := hr
    rw [HSZ0.out] at hS
    have h0 : PlayI w m s k l 0 w1 := ⟨zeroD k, rfl, hS, by
      unfold zeroD; split <;> exact Nat.le_refl _, bo, hM1⟩
    have HK := hide hk
    clear hS bo hM1 HSZ0 hk
    go_wp2_with fail
    go_loopw [19] (fun i wr => ∃ j : Nat, j ≤ l.length ∧ i = .int .i64 j ∧ PlayI w m s k l j wr) (fun i _ => l.length - (intOf i).toNat)
    case atStart => exact ⟨0, Nat.zero_le _, rfl, h0⟩
    case round =>
      obtain ⟨j, hj, rfl, hR⟩ := hrel
      clear h0
      by_cases hlt : j < l.length
      · have hji : (j : Int) < l.length := by omega
        obtain ⟨D, hpl, hS, hlen, bo, hM⟩ := hR
        obtain ⟨g, o, rfl, hg, hcell⟩ := HA.out (by omega)
        have hc := hcell j hlt
        have htk : l.take (j + 1) = l.take j ++ [l[j]] := List.take_succ_eq_append_getElem hlt
        have hdr : l = l.take (j + 1) ++ l.drop (j + 1) := (List.take_append_drop (j + 1) l).symm
        obtain ⟨x, hx⟩ : ∃ x, x = l[j] := ⟨_, rfl⟩
        rw [← hx] at hc htk
        have HCC := hide (fun i u h => (World.cell?_of_block (hM.block g hg id)).trans (hc i u h))
        have hx0 := run_loadAt_mid wr g (o + j * 8) 49 (encEntry x) _ HCC.out Tryz.underlying49 rfl (by kernel_rfl)
        have HX0 := hide hx0
        obtain ⟨mb, hmb⟩ : ∃ mb, mb = wr.heap.size := ⟨_, rfl⟩
        obtain ⟨wa, hwa⟩ : ∃ wa, wa = wr.alloc (.cells (encEntry x).toArray 49) := ⟨_, rfl⟩
        have be : Blk wa mb 49 (encEntry x).toArray := by rw [hwa, hmb]; exact Blk.new wr _ _
        have hma : Mod None_ wr wa := by rw [hwa]; exact (Mod.refl _ wr).alloc _
        have hMa := hM.trans hma
        replace bo := bo.mod hma id
        replace hS := hS.kept hma
        have HMB := hide hmb
        have HWA := hide hwa
        clear hx0 hM hma hmb hwa
        have hsn := playD_snoc (l.take j) (zeroD k) D x hpl
        rw [← htk] at hsn
        have HSN := hide hsn
        have HDR := hide hdr
        clear hpl hc htk hdr hsn hx hcell HCC
        go_upto_region 7 with (first
          | ((with_reducible refine at_slot 22 ?_); refine wpList_val rfl (ex_load rfl HX0.out) ?_; go_frame)
          | ((with_reducible refine at_slot 8 ?_); refine wpList_declare rfl rfl 49 8 (.tmp 22) rfl rfl rfl zeroEnt (encEntry x).toArray zeroEntV (infoEnt _) rfl (oneEnt _) (by simp) rfl ?_; go_frame; rw [← HWA.out, ← HMB.out]))
        clear HWA HMB HX0
        have HIE := hide (infoEnt x)
        have HP := hide (stepOf_any wa x (HS.out.kept hMa))
        go_wp2_with ((with_reducible refine at_slot 24 ?_); refine wpList_val rfl (ex_load rfl (run_loadRow be Tryz.underlying49 rfl HIE.out)) ?_; go_frame)
        refine HP.out.mono ?_
        rintro y wb ⟨rfl, hmb⟩
        have hMb := hMa.trans hmb
        replace bo := bo.mod hmb id
        replace hS := hS.kept hmb
        clear HP HIE be hMa hmb
        have hbad : ∀ c : Int, stepErr D x = c → c ≠ 0 → replayErr k l = c := fun c h1 h2 => by
          unfold replayErr
          rw [if_pos HK.out, HDR.out]
          have h3 : (playD (zeroD k) (l.take (j + 1))).1 = c := by rw [HSN.out, if_neg (by rw [h1]; exact h2)]; exact h1
          rw [playD_stop _ _ _ (by rw [h3]; exact h2)]
          exact h3
        cases hg : goodEnt (one x) with
        | false =>
          rw [show (if (false = true) then (0 : Int) else 34) = 34 from rfl]
          have hmr : Mod (· = m) wb (wb.setRow m zeroNode) := (Mod.refl (· = m) wb).setRow (.inr rfl) _
          have HF := hide (ReplayPost.bad (k := k) (l := l) (hbad 34 (by unfold stepErr; rw [if_pos hg]) (by decide)) (by decide) (hMb.trans' hmr (fun g hg e => by omega)))
          have HB := hide (bo.row zeroNode)
          clear hmr hMb hg hbad hS HDR HSN HA
          go_wp2_with (first
            | ((with_reducible refine at_slot 35 ?_); refine wpList_val rfl (ex_build (ps := []) rfl (run_build31 _)) ?_; go_frame)
            | ((with_reducible refine at_none 34 4 35 ?_); refine wpList_store_row rfl 34 (.tmp 4) (.tmp 35) rfl m zeroNode rfl rfl 34 zeroNode bo infoZero rfl oneZero ?_; go_frame))
          have hl := run_loadVar_row (P := Tryz.prog) _ m 34 34 _ (0, 0) _ HB.out Tryz.underlying34 rfl infoZero
          exact ⟨rfl, .tuple #[.agg zeroNode, .int .i64 34], by simp [results, Tryz.results14, asAddr, hl], HF.out⟩
        | true =>
          rw [show (if (true = true) then (0 : Int) else 34) = 0 from rfl, show (if (true = true) then actV x else Value.nilIface) = actV x from rfl]
          have hge := goodE_of hg
          by_cases hok : onOk x D = true
          · have hon : Calls Tryz.prog (onFn x) #[onArg x, .pointer (some ⟨s, 0, none⟩)] wb fun y w' => y = .returned (.int .i64 0) ∧ Mod (w.heap.size + 1 ≤ ·) wb w' ∧ SenseAt w' (w.heap.size + 1) s (onD x D) := by
              refine (on_any wb (w.heap.size + 1) s x D hge hS (by omega)).mono ?_
              rintro y w' ⟨h1, h2⟩
              rw [if_pos hok] at h2
              exact ⟨h2.1, h1, h2.2⟩
            have hse : stepErr D x = 0 := by unfold stepErr; simp [hg, hok]
            have hld := lenD_on x D
            have HON := hide hon
            have HSE := hide hse
            clear hon hse hS hok hg hbad HA
            go_upto_region 10 with ((with_reducible refine at_slot 32 ?_); refine wpList_on rfl (.tmp 30) (.tmp 31) #[65] rfl x (.pointer (some ⟨s, 0, none⟩)) rfl rfl _ HON.out (fun x w' h => ⟨_, h.1⟩) ?_; rintro v w3 ⟨hv, hm3, hS3⟩; obtain rfl : v = Value.int .i64 0 := (by injection hv); clear hv; go_frame)
            replace bo := bo.mod hm3 (by omega)
            have hM3 : Mod None_ w w3 := hMb.trans' hm3 (fun g hg e => by omega)
            have hnx : PlayI w m s k l (j + 1) w3 := ⟨onD x D, by rw [HSN.out, if_pos HSE.out], hS3, by omega, bo, hM3⟩
            have HNX := hide hnx
            clear hnx hM3 hMb hm3 hS3 HON bo HDR HSN
            go_wp2
            go_roundw
            case rel => exact ⟨j + 1, by omega, by simp, HNX.out⟩
            case measure => simp [intOf]; omega
          · have hon : Calls Tryz.prog (onFn x) #[onArg x, .pointer (some ⟨s, 0, none⟩)] wb fun y w' => y = .returned (.int .i64 90) ∧ Mod (w.heap.size + 1 ≤ ·) wb w' := by
              refine (on_any wb (w.heap.size + 1) s x D hge hS (by omega)).mono ?_
              rintro y w' ⟨h1, h2⟩
              rw [if_neg hok] at h2
              exact ⟨h2, h1⟩
            have HERR := hide (hbad 90 (by unfold stepErr; simp [hg, hok]) (by decide))
            have HON := hide hon
            clear hon hS hok hg hbad HA HDR HSN
            go_upto_region 10 with ((with_reducible refine at_slot 32 ?_); refine wpList_on rfl (.tmp 30) (.tmp 31) #[65] rfl x (.pointer (some ⟨s, 0, none⟩)) rfl rfl _ HON.out (fun x w' h => ⟨_, h.1⟩) ?_; rintro v w3 ⟨hv, hm3⟩; obtain rfl : v = Value.int .i64 90 := (by injection hv); clear hv; go_frame)
            replace bo := bo.mod hm3 (by omega)
            have hM3 : Mod None_ w w3 := hMb.trans' hm3 (fun g hg e => by omega)
            have hmr : Mod (· = m) w3 (w3.setRow m zeroNode) := (Mod.refl (· = m) w3).setRow (.inr rfl) _
            have HF := hide (ReplayPost.bad (k := k) (l := l) HERR.out (by decide) (hM3.trans' hmr (fun g hg e => by omega)))
            have HB := hide (bo.row zeroNode)
            clear hmr hM3 hMb hm3 HON HERR
            go_wp2_with (first
              | ((with_reducible refine at_slot 35 ?_); refine wpList_val rfl (ex_build (ps := []) rfl (run_build31 _)) ?_; go_frame)
              | ((with_reducible refine at_none 34 4 35 ?_); refine wpList_store_row rfl 34 (.tmp 4) (.tmp 35) rfl m zeroNode rfl rfl 34 zeroNode bo infoZero rfl oneZero ?_; go_frame))
            have hl := run_loadVar_row (P := Tryz.prog) _ m 34 34 _ (0, 0) _ HB.out Tryz.underlying34 rfl infoZero
            exact ⟨rfl, .tuple #[.agg zeroNode, .int .i64 90], by simp [results, Tryz.results14, asAddr, hl], HF.out⟩
      · obtain rfl : j = l.length := by omega
        obtain ⟨D, hpl, hS, hlen, bo, hM⟩ := hR
        rw [List.take_length] at hpl
        have herr : replayErr k l = 0 := by unfold replayErr; rw [if_pos HK.out, hpl]
        have hN : replayN k l = { intoN D zeroN with entries := l.length } := by unfold replayN; rw [if_pos herr, hpl]
        have HERR := hide herr
        have HN := hide hN
        have HP : Hid (Calls Tryz.prog 26 #[.pointer (some ⟨s, 0, none⟩), .agg zeroNode] wr (IntoPost wr D zeroN (.slice none 0 0))) := hide (into_any wr _ s D zeroN (.slice none 0 0) (.slice none 0 0) (.slice none 0 0) hS (by omega) rfl)
        have hml := bo.lt
        clear hpl herr hN hS HA
        go_wp2_with ((with_reducible refine at_slot 39 ?_); refine wpList_val rfl (ex_build (ps := []) rfl (run_build31 _)) ?_; go_frame)
        refine HP.out.mono ?_
        rintro x w4 ⟨vm1, vn1, rfl, hom, hon, hm4⟩
        replace bo := bo.mod hm4 id
        have hM4 := hM.trans hm4
        have hw34 := hm4.size
        have hwM := hM.size
        have hvm1 : vm1.oneCell' = true := by obtain ⟨A, c, rfl⟩ := own_slice hom; rfl
        have hvn1 : vn1.oneCell' = true := by obtain ⟨A, c, rfl⟩ := own_slice hon; rfl
        have hone1 := nodeC_one (intoN D zeroN) vm1 vn1 (.slice none 0 0) hvm1 hvn1 rfl
        have homb : ∀ g, vm1.ownBlock = some g → m < g ∧ g < w4.heap.size := fun g hg => ⟨by have := (own_blk hom hg).1; omega, own_lt hom hg⟩
        have honb : ∀ g, vn1.ownBlock = some g → m < g ∧ g < w4.heap.size := fun g hg => ⟨by have := (own_blk hon hg).1; omega, own_lt hon hg⟩
        replace hom := own_base hom hwM
        replace hon := own_base hon hwM
        clear HP hM hm4
        have hilog : (intoN D zeroN).log = [] := rfl
        have himap : (intoN D zeroN).map = dMap D := rfl
        have hinam : (intoN D zeroN).names = dNames D := rfl
        rw [← himap] at hom
        rw [← hinam] at hon
        obtain ⟨N1, hN1⟩ : ∃ N1, N1 = intoN D zeroN := ⟨_, rfl⟩
        rw [← hN1] at hilog hom hon hone1 HN ⊢
        clear himap hinam hN1
        obtain ⟨q, hq⟩ : ∃ q, q = w4.heap.size := ⟨_, rfl⟩
        obtain ⟨w5, hw5⟩ : ∃ w5, w5 = w4.alloc (.cells (nodeC N1 vm1 vn1 (.slice none 0 0)) 34) := ⟨_, rfl⟩
        have hm5 : Mod None_ w4 w5 := by rw [hw5]; exact (Mod.refl _ w4).alloc _
        have bn5 : Blk w5 q 34 (nodeC N1 vm1 vn1 (.slice none 0 0)) := by rw [hw5, hq]; exact Blk.new w4 _ _
        have hmq : m < q := by rw [hq]; exact bo.lt
        have hqg : w4.heap.size ≤ q := by omega
        have HI1 := hide (infoNode N1 vm1 vn1 (.slice none 0 0))
        have HW5 := hide hw5
        have HQ := hide hq
        have HL := hide hilog
        clear hw5 hq hilog
        replace bo := bo.mod hm5 id
        have hM5 := hM4.trans hm5
        replace hom := own_mod hom hm5 (fun _ _ f => f)
        replace hon := own_mod hon hm5 (fun _ _ f => f)
        have HONE1 := hide hone1
        clear hM4 hm5 hone1
        go_upto_region 14 with ((with_reducible refine at_slot 11 ?_); refine wpList_declare rfl rfl 34 11 (.tmp 40) rfl rfl rfl zeroNode (nodeC N1 vm1 vn1 (.slice none 0 0)) zeroNodeV HI1.out (nodeC_size _ _ _ _) HONE1.out (by simp) rfl ?_; go_frame; rw [← HW5.out, ← HQ.out])
        clear HW5 HQ
        have c9 : w5.cell? ⟨q, 9, none⟩ = some (.int .i64 N1.entries) := bn5.cell 9
        have f9 : w5.frozen? ⟨q, 9, none⟩ = false := bn5.frozen _
        go_upto_region 15 with fail
        obtain ⟨w6, hw6⟩ : ∃ w6, w6 = w5.setCell ⟨q, 9, none⟩ (.int .i64 l.length) := ⟨_, rfl⟩
        rw [← hw6]
        have hm6 : Mod (· = q) w5 w6 := by rw [hw6]; exact (Mod.refl (· = q) w5).setCell (p := ⟨q, 9, none⟩) (.inr rfl) _
        obtain ⟨N2, hN2⟩ : ∃ N2, N2 = ({ N1 with entries := (l.length : Int) } : NodeD) := ⟨_, rfl⟩
        have bn6 : Blk w6 q 34 (nodeC N2 vm1 vn1 (.slice none 0 0)) := by rw [hw6, hN2]; exact bn5.set_ 9 _
        have hmap2 : N2.map = N1.map := by rw [hN2]
        have hnam2 : N2.names = N1.names := by rw [hN2]
        have hlog2 : N2.log = [] := by rw [hN2]; exact HL.out
        rw [← hN2] at HN
        rw [← hmap2] at hom
        rw [← hnam2] at hon
        replace bo := bo.mod hm6 (by omega)
        have hM6 := hM5.trans' hm6 (fun g hg e => by omega)
        replace hom := own_mod hom hm6 (fun g hg e => by have := homb g hg; omega)
        replace hon := own_mod hon hm6 (fun g hg e => by have := honb g hg; omega)
        have HL2 := hide hlog2
        clear hw6 hm6 c9 f9 bn5 hM5 hN2 hmap2 hnam2 HL HI1 HONE1 hlog2
        have hm9 : Mod (· = m) w6 (w6.setRow m (nodeC N2 vm1 vn1 (.slice none 0 0))) := (Mod.refl (· = m) w6).setRow (.inr rfl) _
        replace hom := own_mod hom hm9 (fun g hg e => by have := homb g hg; omega)
        replace hon := own_mod hon hm9 (fun g hg e => by have := honb g hg; omega)
        have hfin : ReplayPost w k l (.returned (.tuple #[.agg (nodeC N2 vm1 vn1 (.slice none 0 0)), .int .i64 0])) (w6.setRow m (nodeC N2 vm1 vn1 (.slice none 0 0))) := by
          unfold ReplayPost
          rw [HN.out, HERR.out]
          refine ⟨vm1, vn1, _, rfl, ⟨hom, hon, ?_⟩, hM6.trans' hm9 (fun g hg e => by omega)⟩
          rw [HL2.out]
          exact ⟨rfl, .inl ⟨rfl, rfl⟩⟩
        have HF := hide hfin
        have HB := hide (bo.row (nodeC N2 vm1 vn1 (.slice none 0 0)))
        have HI2 := hide (infoNode N2 vm1 vn1 (.slice none 0 0))
        have HO2 := hide (nodeC_one N2 vm1 vn1 (.slice none 0 0) hvm1 hvn1 rfl)
        clear hfin hm9 hM6 hom hon homb honb HL2 HN HERR
        go_wp2_with (first
          | ((with_reducible refine at_slot 44 ?_); refine wpList_val rfl (ex_load rfl (run_loadRow bn6 Tryz.underlying34 rfl HI2.out)) ?_; go_frame)
          | ((with_reducible refine at_none 34 4 44 ?_); refine wpList_store_row rfl 34 (.tmp 4) (.tmp 44) rfl m (nodeC N2 vm1 vn1 (.slice none 0 0)) rfl rfl 34 zeroNode bo HI2.out rfl HO2.out ?_; go_frame))
        have hl := run_loadVar_row (P := Tryz.prog) _ m 34 34 _ (0, 0) _ HB.out Tryz.underlying34 rfl HI2.out
        exact ⟨rfl, .tuple #[.agg (nodeC N2 vm1 vn1 (.slice none 0 0)), .int .i64 0], by simp [results, Tryz.results14, asAddr, hl], HF.out⟩
  · rw [if_neg hk] at hr
    subst hr
    have hmr : Mod (· = m) w1 (w1.setRow m zeroNode) := (Mod.refl (· = m) w1).setRow (.inr rfl) _
    have HF := hide (ReplayPost.bad (k := k) (l := l) (c := 90) (by unfold replayErr; rw [if_neg hk]) (by decide) (hM1.trans' hmr (fun g hg e => by omega)))
    have HB := hide (bo.row zeroNode)
    clear hmr hM1 hk HSZ0
    go_wp2_with (first
      | ((with_reducible refine at_slot 16 ?_); refine wpList_val rfl (ex_build (ps := []) rfl (run_build31 _)) ?_; go_frame)
      | ((with_reducible refine at_none 34 4 16 ?_); refine wpList_store_row rfl 34 (.tmp 4) (.tmp 16) rfl m zeroNode rfl rfl 34 zeroNode bo infoZero rfl oneZero ?_; go_frame))
    have hl := run_loadVar_row (P := Tryz.prog) _ m 34 34 _ (0, 0) _ HB.out Tryz.underlying34 rfl infoZero
    exact ⟨rfl, .tuple #[.agg zeroNode, .int .i64 90], by simp [results, Tryz.results14, asAddr, hl], HF.out⟩
end Go.Proofs.YtabebkffcmajkaaGreatDoor
