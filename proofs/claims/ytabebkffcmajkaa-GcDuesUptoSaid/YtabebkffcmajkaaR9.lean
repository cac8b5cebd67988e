import Derived.Test.YtabebkffcmajkaaRC
import Derived.Deep.CutRange
import Derived.IntWalk
/-! Walk: radix.Runs. -/
namespace Go.Proofs.Ytabebkffcmajkaa
open Go.RowKit Go.Maps Go.Shelf
attribute [local go_sem] quietV loudUpon Oper.semAt_some

theorem w64 (a : Int) : IntKind.i64.wrap a = wrap64 a := IntWalk.i64_left a
theorem itemsOf_length (f : Nat → Int) (base : Int) (N : Nat) (off : Int) : (itemsOf f base N off).length ≤ N := by
  unfold itemsOf
  rw [List.length_map]
  exact Nat.le_trans (List.length_filter_le _ _) (by simp)
/-- what holds while Runs goes on: the list lies in the variable bl -/
def RunsI (w0 : World) (bl : Nat) (pre : List (Int × Int)) (W : World) : Prop :=
  ∃ v, Blk W bl 22 #[v] ∧ W.ownsRow w0.heap.size 51 3 v (runsOf pre).length (runCells (runsOf pre)) ∧ Mod (· = bl) w0 W
theorem RunsI.grown {w0 : World} {bl : Nat} {pre : List (Int × Int)} {A B : World} {row : Option Nat} (h : RunsI w0 bl pre A) (hbl : bl < w0.heap.size)
    (hg : A.grownBy B row) (hr : ∀ r, row = some r → w0.heap.size ≤ r ∧ ∃ o : Obj, A.heap[r]? = some o ∧ o.isCells = false) : RunsI w0 bl pre B := by
  obtain ⟨v, hv, hown, hM⟩ := h
  refine ⟨v, blk_of_grown_own hv hg hr (by omega), own_mod hown (Mod.of_grown hg) (fun g hg' e => ?_), mod_of_grown_own hM hg hr (Nat.le_refl _)⟩
  obtain ⟨_, o, ho, hoc⟩ := hr g e.symm
  obtain ⟨_, cur, hh⟩ := own_blk hown hg'
  rw [hh] at ho; cases ho; simp [Obj.isCells] at hoc
theorem keep_own {w : World} {bl : Nat} (hbl : bl < w.heap.size) (hno : ownerAt w bl = none) : ∀ W W1 B g t cs, Below w.heap.size w W → Mod None_ W W1 → KpO w.heap.size bl W1 B → W.heap.size ≤ g → Blk W1 g t cs → Blk B g t cs := by
  intro W W1 B g t cs hb hm hk hg hB
  have e : ownerAt W1 bl = none := by
    rw [ownerAt_block (hm.block bl (by have := hb.size; omega) id), ownerAt_block (hb.block bl hbl)]; exact hno
  exact hk.same g _ _ _ (by have := hb.size; omega) hB (by rw [e]; simp)

theorem Mod.keeps {w w' : World} (h : Mod None_ w w') {B : Nat} : KeepsFrom B w w' := KeepsFrom.of_mod h (fun _ _ _ f => f)
theorem Mod.kpO {w w' : World} (h : Mod None_ w w') {B bl : Nat} (_ : bl < w'.heap.size) (hbl : bl < w.heap.size) : KpO B bl w w' := KpO.of_mod h hbl id (fun _ _ _ f => f)
/-- the last run's count is stored -/
theorem own_last {w : World} {lo g c n : Nat} {l : List RunD} {r : RunD} (h : w.ownsRow lo 51 3 (.slice (some ⟨g, 0, none⟩) (n + 1) c) (n + 1) (runCells (l ++ [r]))) (hn : n = l.length) (v : Int) :
    (w.setCell ⟨g, n * 3 + 2, none⟩ (.int .i64 v)).ownsRow lo 51 3 (.slice (some ⟨g, 0, none⟩) (n + 1) c) (n + 1) (runCells (l ++ [⟨r.off, r.page, v⟩])) ∧ Mod (· = g) w (w.setCell ⟨g, n * 3 + 2, none⟩ (.int .i64 v)) := by
  subst hn
  refine ⟨?_, (Mod.refl (· = g) w).setCell (p := ⟨g, l.length * 3 + 2, none⟩) (.inr rfl) _⟩
  rcases h.2 with ⟨h0, _⟩ | ⟨g', cap, cur, hv, hb, hg, hn, hc, hs, ht⟩
  · cases h0
  · simp only [Value.slice.injEq, Option.some.injEq, Addr.mk.injEq, true_and, and_true] at hv
    obtain ⟨rfl, rfl⟩ := hv
    have hB : Blk w g 51 cur := hg
    have hB2 := hB.set_ (l.length * 3 + 2) (.int .i64 v)
    refine ⟨by rw [runCells_length]; simp, .inr ⟨g, c, _, rfl, hb, hB2, hn, hc, by simpa using hs, ?_⟩⟩
    rw [← runCells_last, Array.toList_setIfInBounds, List.take_set, ht]
/-- a store into the own row keeps what is no cells -/
theorem Mod.keepsIn {w w' : World} {lo g c n m : Nat} {t : TypeId} {xs : List Value} (h : Mod (· = g) w w') (_ : Blk w m t #[.slice (some ⟨g, 0, Option.none⟩) n c]) (hown : w.ownsRow lo 51 3 (.slice (some ⟨g, 0, Option.none⟩) n c) n xs) {B : Nat} : KeepsFrom B w w' :=
  ⟨h.size, fun k o _ hk hoc => by
    have hlt := (Array.getElem?_eq_some_iff.1 hk).1
    refine (h.block k hlt (fun e => ?_)).trans hk
    subst e
    obtain ⟨_, cur, hh⟩ := own_blk hown (g := k) rfl
    rw [hh] at hk; cases hk; simp [Obj.isCells] at hoc⟩
theorem kpO_own {w w' : World} {g c n m : Nat} {t : TypeId} (h : Mod (· = g) w w') (hv : Blk w m t #[.slice (some ⟨g, 0, none⟩) n c]) (hne : g ≠ m) {B : Nat} : KpO B m w w' :=
  ⟨h.size, fun k cs t fr _ hk hno => by
      have hlt := (Array.getElem?_eq_some_iff.1 hk).1
      refine (h.block k hlt (fun e => hno ?_)).trans hk
      unfold ownerAt
      rw [hv.cell 0, e]
      rfl,
    fun k hk => .inl (by rw [ownerAt_block (h.block m hv.lt (by omega))] at hk; exact hk)⟩

set_option maxRecDepth 100000 in
set_option maxHeartbeats 4000000 in
theorem runs_any (w : World) (t r : Nat) (mid leaf : Nat → Option Nat) (f : Nat → Int) (many : Int) (h : RadixAt w t r mid leaf f many) :
    Calls Try.prog 43 #[.pointer (some ⟨t, 0, none⟩)] w fun e w' => ∃ v, e = .returned v ∧ w'.ownsRow w.heap.size 51 3 v (runsOf (itemsOf f 0 512 0)).length (runCells (runsOf (itemsOf f 0 512 0))) ∧ Mod None_ w w' := by
  have HR := hide h
  clear h
  refine calls_of_wp_marks 3 Try.func43 rfl ?_
  simp only [Try.ntmps43, List.size_toArray, List.length_cons, List.length_nil, Nat.reduceAdd, Nat.reduceSub, Array.replicate_succ, Array.replicate_zero, List.push_toArray, List.append_toArray, List.nil_append, List.cons_append]
  go_wp2_with fail
  refine (from_call _ t 0).mono ?_
  rintro e w3 ⟨rfl, hw3⟩
  obtain ⟨m, hm⟩ : ∃ m, m = w.heap.size := ⟨_, rfl⟩
  simp only [alloc_size]
  rw [← hm]
  have hM3 : Mod None_ w w3 := by rw [hw3]; exact (((Mod.refl _ w).alloc _).alloc _).alloc _
  have b0 : Blk w3 m 22 #[.slice none 0 0] := by rw [hw3, hm]; exact ((Blk.new w 22 _).alloc _).alloc _
  have b1 : Blk w3 (m + 1) 52 #[.pointer (some ⟨t, 0, none⟩)] := by
    have := (Blk.new (w.alloc (.cells #[.slice none 0 0] 22)) 52 #[.pointer (some ⟨t, 0, none⟩)]).alloc (.cells #[.int .i64 0] 3)
    rw [← hw3, alloc_size, ← hm] at this
    exact this
  have b2 : Blk w3 (m + 2) 3 #[.int .i64 0] := by
    have := Blk.new ((w.alloc (.cells #[.slice none 0 0] 22)).alloc (.cells #[.pointer (some ⟨t, 0, none⟩)] 52)) 3 #[.int .i64 0]
    rw [← hw3, alloc_size, alloc_size, ← hm] at this
    exact this
  have hR3 := HR.out.kept hM3
  have hml : m < w3.heap.size := b0.lt
  have hgem : w.heap.size ≤ m := by omega
  have hem : m ≤ w.heap.size := by omega
  clear hw3 hm
  go_wp2_with fail
  rw [show m + 1 + 1 = m + 2 from rfl]
  have hno : ownerAt w3 m = none := by unfold ownerAt; rw [b0.cell 0]; rfl
  have hst := from_stops 2 w3 (KpO w3.heap.size m) (fun W _ => KpO.refl _ _ W) (fun h k => h.trans k) (keep_own hml hno) t r mid leaf f many 0 (m + 2) (m + 1) hR3 (b2.cell 0) (b1.cell 0)
  have hNl := itemsOf_length f 0 512 0
  obtain ⟨P, hP⟩ : ∃ P, P = itemsOf f 0 512 0 := ⟨_, rfl⟩
  have HP := hide hP
  rw [← hP] at hst hNl
  clear hP HR
  refine wp_range_mid 3 (by omega) (gf := 38) (lb := #[.pointer (some ⟨m + 2, 0, none⟩), .pointer (some ⟨m + 1, 0, none⟩)]) rfl (enters_of Try.func38 (by kernel_rfl) rfl) hst (fun h k => h.trans k) (fun U l o o' hl h ho _ => KpO.putObj U l o o' (by omega) h ho) (Below.refl _ _) (fun _ => rfl)
    (RunsI w3 m) (fun _ _ _ => False) 0 (RunsI w3 m P)
    (fun pre A B row h hg hr => h.grown hml hg hr) (fun c pre A B row h _ _ => h)
    ⟨_, b0, ⟨rfl, .inl ⟨rfl, rfl⟩⟩, Mod.refl _ _⟩ ?done ?stop ?body ?rest
  case done =>
    rintro xs U hxs h
    obtain rfl : P = xs := hxs.symm
    exact h
  case stop =>
    rintro c pre U hp h
    exact h.elim
  case body =>
    apply Exists.intro
    refine ⟨?_, ?_⟩
    · intro l x U K hK
      gi_wp2
      exact hK
    · rintro l pre x U ⟨v, hv, hown, hM⟩ hlt
      obtain ⟨A, c, rfl⟩ := own_slice hown
      have hRl := runsOf_length pre
      have cl : U.cell? ⟨m, 0, none⟩ = some (.slice A (runsOf pre).length c) := hv.cell 0
      have hsn := runsOf_snoc pre x
      obtain ⟨R, hR⟩ : ∃ R, R = runsOf pre := ⟨_, rfl⟩
      rw [← hR] at hv hown hRl cl hsn
      have HSN := hide hsn
      clear hR hsn hst
      rcases List.eq_nil_or_concat R with rfl | ⟨R', r0, rfl⟩
      · have hln : ∀ w, (Builtin.len_ #[22] 3 #[.slice A (([] : List RunD).length) c]).run Try.prog w = .ok (.int .i64 0) w := fun w => by simp [Builtin.len_, run_underlying Try.underlying22]; rfl
        rw [addRun_nil] at HSN
        gi_wp2_with fail
        refine region_stw_in (by kernel_rfl) (by kernel_rfl) (by kernel_rfl) ?_
        rintro U2 hU2
        have hd2 : Mod None_ U U2 := by rw [hU2]; exact (Mod.refl _ U).drew
        have hmU : m < U.heap.size := hv.lt
        replace hv := hv.mod hd2 id
        replace hown := own_mod hown hd2 (fun _ _ f => f)
        replace cl : U2.cell? ⟨m, 0, none⟩ = some _ := hv.cell 0
        have hbU : w3.heap.size ≤ U2.heap.size := Nat.le_trans hM.size hd2.size
        clear hU2
        repeat (refine stw_step (fun K hK => ?_); go_simp; refine hK _ ?_; clear hK K)
        refine stw_nil ?_
        gi_wp2_with ((with_reducible refine at_slotIn 59 ?_); refine wpListIn_append_run rfl (.tmp 54) (.tmp 58) rfl U2 w3.heap.size (.slice A ([] : List RunD).length c) [] ⟨x.1, x.2, 1⟩ rfl rfl U2.heap.size rfl rfl hown hbU (by simp) ?_; intro v8 w8 hown8 hm8 hat8; obtain ⟨N8, hN8⟩ : ∃ N, N = ([] ++ [(⟨x.1, x.2, 1⟩ : RunD)]).length := ⟨_, rfl⟩; rw [← hN8] at hown8; have HN8 := hide hN8; clear hN8; obtain ⟨A2, c2, rfl⟩ := own_slice hown8; go_frame
                     obtain ⟨k1, k2, k3, k4, k5⟩ := grown_keeps 22 51 3 (by omega) hbU hv hown hown8 hm8 hat8
                     have hv8 := hv.mod hm8 (fun e => by have := (own_blk hown e.symm).1; omega)
                     have cl8 : w8.cell? ⟨m, 0, none⟩ = some (.slice A ([] : List RunD).length c) := hv8.cell 0
                     have cf8 : w8.frozen? ⟨m, 0, none⟩ = false := hv8.frozen 0
                     have L1 := hide k1
                     have L2 := hide k2
                     have L3 := hide k3
                     have L4 := hide k4
                     have L5 := hide k5
                     clear k1 k2 k3 k4 k5 hown8 hm8 hat8 hv8)
        refine ⟨hd2.keeps.trans L1.out, (Mod.kpO hd2 (by have := hv.lt; omega) hmU).trans L2.out, _, L3.out, ?_, (hM.trans hd2.none).trans' L5.out (fun k hk e => by omega)⟩
        rw [HSN.out]
        have hL4 := L4.out
        rw [HN8.out] at hL4 ⊢
        exact hL4
      · rw [List.concat_eq_append] at hv hown hRl cl HSN
        have eln : (R' ++ [r0]).length = R'.length + 1 := by simp
        rw [eln] at hv hown hRl cl
        obtain ⟨n', hn'⟩ : ∃ n', n' = R'.length := ⟨_, rfl⟩
        have hln : ∀ w, (Builtin.len_ #[22] 3 #[.slice A (n' + 1) c]).run Try.prog w = .ok (.int .i64 ((n' : Int) + 1)) w := fun w => by simp [Builtin.len_, run_underlying Try.underlying22]; rfl
        have hnl : (n' : Int) ≤ 512 := by omega
        have hn1 : (n' : Int) < (n' : Int) + 1 := by omega
        obtain ⟨g, cap, rfl, hgb, hgl⟩ : ∃ g cap, A = some ⟨g, 0, none⟩ ∧ w3.heap.size ≤ g ∧ g < U.heap.size := by
          rcases hown.2 with ⟨_, h0⟩ | ⟨g, cap, cur, h1, h2, h3, _⟩
          · omega
          · simp only [Value.slice.injEq, true_and] at h1
            exact ⟨g, cap, h1.1, h2, (Array.getElem?_eq_some_iff.1 h3).1⟩
        obtain ⟨a1, a2, a3⟩ := runCells_at (R' ++ [r0]) R'.length (by simp)
        have er : (R' ++ [r0])[R'.length]'(by simp) = r0 := by simp
        rw [er] at a1 a2 a3
        have hcell := hown.cells (g := g) rfl
        have x0 := hcell _ _ a1
        have x1 := hcell _ _ a2
        have x2 := hcell _ _ a3
        simp only [Addr.add_lit, Nat.zero_add] at x0 x1 x2
        have hfz : U.frozen? ⟨g, R'.length * 3 + 2, none⟩ = false := by
          obtain ⟨_, cur, hh⟩ := own_blk hown (g := g) rfl
          exact (show Blk U g 51 cur from hh).frozen _
        rw [← hn'] at hv hown hRl cl x0 x1 x2 hfz eln
        have HN' := hide hn'
        clear hn' a1 a2 a3 er hcell
        gi_wp2_with fail
        by_cases h1 : wrap64 (r0.off + r0.count) = x.1
        · have ep1 : IntKind.i64.wrap (r0.off + r0.count) = x.1 := by rw [w64]; exact h1
          by_cases h2 : wrap64 (r0.page + r0.count) = x.2
          · have ep2 : IntKind.i64.wrap (r0.page + r0.count) = x.2 := by rw [w64]; exact h2
            rw [addRun_yes h1 h2] at HSN
            clear h1 h2
            refine region_stw_in (by kernel_rfl) (by kernel_rfl) (by kernel_rfl) ?_
            rintro U2 hU2
            have hd2 : Mod None_ U U2 := by rw [hU2]; exact (Mod.refl _ U).drew
            have hmU : m < U.heap.size := hv.lt
            replace hv := hv.mod hd2 id
            replace hown := own_mod hown hd2 (fun _ _ f => f)
            replace cl : U2.cell? ⟨m, 0, none⟩ = some _ := hv.cell 0
            have hbU : w3.heap.size ≤ U2.heap.size := Nat.le_trans hM.size hd2.size
            replace x0 := (World.cell?_of_block (hd2.block g hgl id)).trans x0
            replace x1 := (World.cell?_of_block (hd2.block g hgl id)).trans x1
            replace x2 := (World.cell?_of_block (hd2.block g hgl id)).trans x2
            replace hfz := (World.frozen?_of_block (hd2.block g hgl id)).trans hfz
            clear hU2
            repeat (refine stw_step (fun K hK => ?_); go_simp; refine hK _ ?_; clear hK K)
            refine stw_nil ?_
            have hset := own_last hown (by rw [HN'.out]) (wrap64 (r0.count + 1))
            obtain ⟨hown2, hm3⟩ := hset
            have HO2 := hide hown2
            have HM3 := hide hm3
            clear hown2 hm3
            gi_wp2
            refine ⟨hd2.keeps.trans (Mod.keepsIn HM3.out hv hown), (Mod.kpO hd2 (by have := hv.lt; omega) hmU).trans (kpO_own HM3.out hv (by omega)), _, hv.mod HM3.out (by omega), ?_, (hM.trans hd2.none).trans' HM3.out (fun k hk e => by omega)⟩
            rw [HSN.out]
            have e : (R' ++ [(⟨r0.off, r0.page, wrap64 (r0.count + 1)⟩ : RunD)]).length = n' + 1 := by rw [HN'.out]; simp
            rw [e]
            exact HO2.out
          · have ep2 : ¬ IntKind.i64.wrap (r0.page + r0.count) = x.2 := by rw [w64]; exact h2
            rw [addRun_no (fun h => h2 h.2)] at HSN
            clear h1 h2
            refine region_stw_in (by kernel_rfl) (by kernel_rfl) (by kernel_rfl) ?_
            rintro U2 hU2
            have hd2 : Mod None_ U U2 := by rw [hU2]; exact (Mod.refl _ U).drew
            have hmU : m < U.heap.size := hv.lt
            replace hv := hv.mod hd2 id
            replace hown := own_mod hown hd2 (fun _ _ f => f)
            replace cl : U2.cell? ⟨m, 0, none⟩ = some _ := hv.cell 0
            have hbU : w3.heap.size ≤ U2.heap.size := Nat.le_trans hM.size hd2.size
            replace x0 := (World.cell?_of_block (hd2.block g hgl id)).trans x0
            replace x1 := (World.cell?_of_block (hd2.block g hgl id)).trans x1
            replace x2 := (World.cell?_of_block (hd2.block g hgl id)).trans x2
            replace hfz := (World.frozen?_of_block (hd2.block g hgl id)).trans hfz
            clear hU2
            repeat (refine stw_step (fun K hK => ?_); go_simp; refine hK _ ?_; clear hK K)
            refine stw_nil ?_
            gi_wp2_with ((with_reducible refine at_slotIn 59 ?_); refine wpListIn_append_run rfl (.tmp 54) (.tmp 58) rfl U2 w3.heap.size (.slice (some ⟨g, 0, none⟩) (n' + 1) c) (R' ++ [r0]) ⟨x.1, x.2, 1⟩ rfl rfl U2.heap.size rfl rfl (by rw [eln]; exact hown) hbU (by rw [eln]; omega) ?_; intro v8 w8 hown8 hm8 hat8; obtain ⟨N8, hN8⟩ : ∃ N, N = ((R' ++ [r0]) ++ [(⟨x.1, x.2, 1⟩ : RunD)]).length := ⟨_, rfl⟩; rw [← hN8] at hown8; have HN8 := hide hN8; clear hN8; obtain ⟨A2, c2, rfl⟩ := own_slice hown8; go_frame
                         obtain ⟨k1, k2, k3, k4, k5⟩ := grown_keeps 22 51 3 (by omega) hbU hv hown hown8 hm8 hat8
                         have hv8 := hv.mod hm8 (fun e => by have := (own_blk hown e.symm).1; omega)
                         have cl8 : w8.cell? ⟨m, 0, none⟩ = some (.slice (some ⟨g, 0, none⟩) (n' + 1) c) := hv8.cell 0
                         have cf8 : w8.frozen? ⟨m, 0, none⟩ = false := hv8.frozen 0
                         have L1 := hide k1
                         have L2 := hide k2
                         have L3 := hide k3
                         have L4 := hide k4
                         have L5 := hide k5
                         clear k1 k2 k3 k4 k5 hown8 hm8 hat8 hv8)
            refine ⟨hd2.keeps.trans L1.out, (Mod.kpO hd2 (by have := hv.lt; omega) hmU).trans L2.out, _, L3.out, ?_, (hM.trans hd2.none).trans' L5.out (fun k hk e => by omega)⟩
            rw [HSN.out]
            have hL4 := L4.out
            rw [HN8.out] at hL4 ⊢
            exact hL4
        · have ep1 : ¬ IntKind.i64.wrap (r0.off + r0.count) = x.1 := by rw [w64]; exact h1
          rw [addRun_no (fun h => h1 h.1)] at HSN
          clear h1
          refine region_stw_in (by kernel_rfl) (by kernel_rfl) (by kernel_rfl) ?_
          rintro U2 hU2
          have hd2 : Mod None_ U U2 := by rw [hU2]; exact (Mod.refl _ U).drew
          have hmU : m < U.heap.size := hv.lt
          replace hv := hv.mod hd2 id
          replace hown := own_mod hown hd2 (fun _ _ f => f)
          replace cl : U2.cell? ⟨m, 0, none⟩ = some _ := hv.cell 0
          have hbU : w3.heap.size ≤ U2.heap.size := Nat.le_trans hM.size hd2.size
          replace x0 := (World.cell?_of_block (hd2.block g hgl id)).trans x0
          replace x1 := (World.cell?_of_block (hd2.block g hgl id)).trans x1
          replace x2 := (World.cell?_of_block (hd2.block g hgl id)).trans x2
          replace hfz := (World.frozen?_of_block (hd2.block g hgl id)).trans hfz
          clear hU2
          repeat (refine stw_step (fun K hK => ?_); go_simp; refine hK _ ?_; clear hK K)
          refine stw_nil ?_
          gi_wp2_with ((with_reducible refine at_slotIn 59 ?_); refine wpListIn_append_run rfl (.tmp 54) (.tmp 58) rfl U2 w3.heap.size (.slice (some ⟨g, 0, none⟩) (n' + 1) c) (R' ++ [r0]) ⟨x.1, x.2, 1⟩ rfl rfl U2.heap.size rfl rfl (by rw [eln]; exact hown) hbU (by rw [eln]; omega) ?_; intro v8 w8 hown8 hm8 hat8; obtain ⟨N8, hN8⟩ : ∃ N, N = ((R' ++ [r0]) ++ [(⟨x.1, x.2, 1⟩ : RunD)]).length := ⟨_, rfl⟩; rw [← hN8] at hown8; have HN8 := hide hN8; clear hN8; obtain ⟨A2, c2, rfl⟩ := own_slice hown8; go_frame
                       obtain ⟨k1, k2, k3, k4, k5⟩ := grown_keeps 22 51 3 (by omega) hbU hv hown hown8 hm8 hat8
                       have hv8 := hv.mod hm8 (fun e => by have := (own_blk hown e.symm).1; omega)
                       have cl8 : w8.cell? ⟨m, 0, none⟩ = some (.slice (some ⟨g, 0, none⟩) (n' + 1) c) := hv8.cell 0
                       have cf8 : w8.frozen? ⟨m, 0, none⟩ = false := hv8.frozen 0
                       have L1 := hide k1
                       have L2 := hide k2
                       have L3 := hide k3
                       have L4 := hide k4
                       have L5 := hide k5
                       clear k1 k2 k3 k4 k5 hown8 hm8 hat8 hv8)
          refine ⟨hd2.keeps.trans L1.out, (Mod.kpO hd2 (by have := hv.lt; omega) hmU).trans L2.out, _, L3.out, ?_, (hM.trans hd2.none).trans' L5.out (fun k hk e => by omega)⟩
          rw [HSN.out]
          have hL4 := L4.out
          rw [HN8.out] at hL4 ⊢
          exact hL4
  case rest =>
    rintro D U hD ⟨v, hv, hown, hM⟩ hdf
    obtain ⟨A, c, rfl⟩ := own_slice hown
    have cl : U.cell? ⟨m, 0, none⟩ = some (.slice A (runsOf P).length c) := hv.cell 0
    have hm3 : Mod (· = D) U (U.putObj D (.deferred none)) := (Mod.of_grown (grownBy_putObj' _ D _)).mono fun k _ e => by cases e; rfl
    have hfin : Mod None_ w (U.putObj D (.deferred none)) := ((hM3.trans' hM (fun k hk e => by omega))).trans' hm3 (fun k hk e => by have := hM3.size; omega)
    have hown2 := own_mod hown hm3 (fun g hg e => by
      subst e
      obtain ⟨_, cur, hh⟩ := own_blk hown hg
      rw [hdf] at hh; cases hh)
    have hown3 : (U.putObj D (.deferred none)).ownsRow w.heap.size 51 3 (.slice A (runsOf P).length c) (runsOf P).length (runCells (runsOf P)) := by
      refine ⟨hown2.1, ?_⟩
      rcases hown2.2 with h | ⟨g, cap, cur, h1, h2, h3⟩
      · exact .inl h
      · exact .inr ⟨g, cap, cur, h1, Nat.le_trans hM3.size h2, h3⟩
    rw [HP.out] at hown3 cl
    have HF := hide hfin
    have HO := hide hown3
    have HD := hide hdf
    clear hfin hown hown2 hown3 hm3 hM hv hst hdf b0 b1 b2
    dsimp only
    go_wp2
    refine ⟨by simp, .inl ⟨_, _, rfl, run_takeDeferred HD.out, ?_⟩⟩
    refine ⟨.slice A (runsOf (itemsOf f 0 512 0)).length c, ?_, _, rfl, HO.out, HF.out⟩
    simp [results, Try.results43, go_sem]
end Go.Proofs.Ytabebkffcmajkaa

