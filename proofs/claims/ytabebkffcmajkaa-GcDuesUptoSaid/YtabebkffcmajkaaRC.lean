import Derived.Test.YtabebkffcmajkaaR6
import Derived.Test.YtabebkffcmajkaaMx3
import Derived.Test.YtabebkffcmajkaaRF0
/-! Walks: From. -/
namespace Go.Proofs.Ytabebkffcmajkaa
open Go.RowKit Go.Maps Go.Shelf
attribute [local go_sem] quietV loudUpon Oper.semAt_some

set_option maxRecDepth 100000 in
theorem from_call (w : World) (t : Nat) (off : Int) : Calls Try.prog 24 #[.pointer (some ⟨t, 0, none⟩), .int .i64 off] w fun e w' =>
    e = .returned (.func (.func 38) #[] #[.pointer (some ⟨w.heap.size + 1, 0, none⟩), .pointer (some ⟨w.heap.size, 0, none⟩)]) ∧
      w' = (w.alloc (.cells #[.pointer (some ⟨t, 0, none⟩)] 52)).alloc (.cells #[.int .i64 off] 3) := by
  go_enter Try.func24, Try.ntmps24
  go_wp2
  go_ret
  exact ⟨rfl, rfl⟩

set_option maxRecDepth 100000 in
set_option maxHeartbeats 2000000 in
theorem from_stops (n : Nat) (w : World) (Kp : World → World → Prop) (hrf : ∀ W, w.heap.size ≤ W.heap.size → Kp W W) (htr : ∀ {A B C : World}, Kp A B → Kp B C → Kp A C)
    (hkeep : ∀ W W1 B g t cs, Below w.heap.size w W → Mod None_ W W1 → Kp W1 B → W.heap.size ≤ g → Blk W1 g t cs → Blk B g t cs)
    (t r : Nat) (mid leaf : Nat → Option Nat) (f : Nat → Int) (many off : Int) (bo bt : Nat) (h : RadixAt w t r mid leaf f many)
    (co : w.cell? ⟨bo, 0, none⟩ = some (.int .i64 off)) (ct : w.cell? ⟨bt, 0, none⟩ = some (.pointer (some ⟨t, 0, none⟩))) :
    SeqStopsK Fence.wide n Try.prog 38 #[.pointer (some ⟨bo, 0, none⟩), .pointer (some ⟨bt, 0, none⟩)] (fun p : Int × Int => #[.int .i64 p.1, .int .i64 p.2]) Kp
      (fun xs => xs = itemsOf f 0 512 off) (fun pre => pre <+: itemsOf f 0 512 off) (itemsOf f 0 512 off).length w := by
  intro l J Jx W hW hJ hJx hY h0
  have hm := Mod.of_below hW
  have hr := h.kept hm
  have co' : W.cell? ⟨bo, 0, none⟩ = some (.int .i64 off) := (World.cell?_of_block (hm.block bo (block_lt_of_cell co) id)).trans co
  have ct' : W.cell? ⟨bt, 0, none⟩ = some (.pointer (some ⟨t, 0, none⟩)) := (World.cell?_of_block (hm.block bt (block_lt_of_cell ct) id)).trans ct
  have HJ := hide hJ
  have HY := hide hY
  have HR := hide hr
  have HW := hide hW
  have hws := hW.size
  clear h co ct hJ hJx hY hr hm hW
  refine callsIn_wide.2 ?_
  by_cases ho : off < 512
  · have hB : ∃ N, N = (itemsOf f 0 512 off).length := ⟨_, rfl⟩
    obtain ⟨N, hN⟩ := hB
    have HN := hide hN
    rw [← hN] at HY
    clear hN
    simp only [List.append_toArray, List.cons_append, List.nil_append]
    go_enter Try.func38, Try.ntmps38
    go_wp2_with fail
    refine region_txw 7 [(true, 0), (true, 1), (true, 2), (true, 3), (true, 5), (true, 6), (false, 4), (false, 7)] (fun w' => w'.cell? ⟨bo, 0, none⟩ = some (.int .i64 off) ∧ w'.cell? ⟨bt, 0, none⟩ = some (.pointer (some ⟨t, 0, none⟩)) ∧ w'.cell? ⟨t, 0, none⟩ = some (.pointer (some ⟨r, 0, none⟩))) (by kernel_rfl) (by kernel_rfl) ?_
    rintro w9 hw9
    have hd : Mod None_ W w9 := by rw [hw9]; exact (Mod.refl _ W).drew
    have hr9 := HR.out.kept hd
    have i1 : w9.cell? ⟨bo, 0, none⟩ = some (.int .i64 off) := (World.cell?_of_block (hd.block bo (block_lt_of_cell co') id)).trans co'
    have i2 : w9.cell? ⟨bt, 0, none⟩ = some (.pointer (some ⟨t, 0, none⟩)) := (World.cell?_of_block (hd.block bt (block_lt_of_cell ct') id)).trans ct'
    have i3 := hr9.cRoot
    have HC := hide (copied_any 2 w9 0 r f hr9.node)
    have HD := hide hd
    have hs9 : w9.heap.size = W.heap.size := by rw [hw9]; rfl
    have HS9 := hide hs9
    clear hw9 hd hr9 hs9 co' ct' HR
    refine ⟨⟨i1, i2, i3⟩, ?_⟩
    iterate 6 (refine txw_quiet rfl (fun w' ⟨i1, i2, i3⟩ K hK => by go_simp; exact hK) ?_; go_frame)
    refine txw_loud rfl (fun K hK => ?_)
    go_simp
    refine Calls.mono HC.out ?_
    rintro e w10 ⟨q, rfl, hn, hm⟩
    have j1 : w10.cell? ⟨bo, 0, none⟩ = some (.int .i64 off) := (World.cell?_of_block (hm.block bo (block_lt_of_cell i1) id)).trans i1
    have j2 : w10.cell? ⟨bt, 0, none⟩ = some (.pointer (some ⟨t, 0, none⟩)) := (World.cell?_of_block (hm.block bt (block_lt_of_cell i2) id)).trans i2
    have j3 : w10.cell? ⟨t, 0, none⟩ = some (.pointer (some ⟨r, 0, none⟩)) := (World.cell?_of_block (hm.block t (block_lt_of_cell i3) id)).trans i3
    have hm10 := HD.out.trans hm
    have hJ4 : J [] w10 := HJ.out [] W w10 none h0 hm10.grownBy (fun r e => by cases e)
    have hw2 := walk2 (l := l) (N := N) (lo := W.heap.size) (J := J) (Jx := Jx) (Kp := Kp) (W1 := w10)
      ⟨htr, (fun hk hl hb => hkeep W w10 _ _ _ _ HW.out hm10 hk hl hb), (fun pre x W0 hj hl m => yieldAt_wide (HY.out pre x W0 hj hl))⟩ w10 q f 0 off [] (by rw [← HS9.out]; exact hn) (hrf _ (by have := hm10.size; omega)) (Int.le_refl _) (by omega) hJ4 (by rw [List.nil_append, HN.out]; exact Nat.le_refl _)
    have HW2 := hide hw2
    clear hw2 hJ4 hm10 hm hn HC i1 i2 i3
    refine ⟨_, rfl, ⟨j1, j2, j3⟩, hK _ _ ?_⟩
    clear hK K
    try go_frame
    refine txw_loud rfl (fun K hK => ?_)
    go_simp
    refine Calls.mono HW2.out ?_
    rintro e w11 (⟨rfl, hj, _⟩ | ⟨z, hz, rfl, hj⟩)
    · refine ⟨_, rfl, hK _ _ ?_⟩
      clear hK K
      refine txw_nil ?_
      have HJ2 := hide hj
      clear hj
      go_wp2
      go_end0
      exact ⟨⟨_, rfl⟩, .inl ⟨_, List.nil_append _, HJ2.out⟩⟩
    · refine ⟨_, rfl, hK _ _ ?_⟩
      clear hK K
      refine txw_nil ?_
      have HJ2 := hide hj
      have HZ := hide hz
      clear hj hz
      go_wp2
      go_end0
      exact ⟨⟨_, rfl⟩, .inr ⟨z, by simpa using HZ.out, HJ2.out⟩⟩
  · have he : itemsOf f 0 512 off = [] := itemsOf_none fun x hx => .inr (by omega)
    have HE := hide he
    have hof : decide (off < 512) = false := decide_eq_false ho
    clear he
    simp only [List.append_toArray, List.cons_append, List.nil_append]
    go_enter Try.func38, Try.ntmps38
    go_wp2
    go_end0
    exact ⟨⟨_, rfl⟩, .inl (by rw [HE.out]; exact h0)⟩
end Go.Proofs.Ytabebkffcmajkaa

/-! Lists of runs. -/
namespace Go.Proofs.Ytabebkffcmajkaa
open Go.RowKit Go.Maps Go.Shelf

structure RunD where
  off : Int
  page : Int
  count : Int
deriving DecidableEq
def runCells (l : List RunD) : List Value := l.flatMap fun r => [.int .i64 r.off, .int .i64 r.page, .int .i64 r.count]
theorem runCells_length (l : List RunD) : (runCells l).length = l.length * 3 := by
  induction l with
  | nil => rfl
  | cons r l ih => simp only [runCells, List.flatMap_cons, List.length_append, List.length_cons, List.length_nil] at ih ⊢; omega
theorem runCells_append (l m : List RunD) : runCells (l ++ m) = runCells l ++ runCells m := by simp [runCells]
theorem runCells_at : ∀ (l : List RunD) (i : Nat) (h : i < l.length), (runCells l)[i * 3]? = some (.int .i64 l[i].off) ∧ (runCells l)[i * 3 + 1]? = some (.int .i64 l[i].page) ∧ (runCells l)[i * 3 + 2]? = some (.int .i64 l[i].count)
  | [], i, h => by simp at h
  | r :: l, 0, h => ⟨rfl, rfl, rfl⟩
  | r :: l, i + 1, h => by
    have e : (i + 1) * 3 = i * 3 + 1 + 1 + 1 := by omega
    have := runCells_at l i (by simpa using h)
    unfold runCells at this ⊢
    simp only [e, List.flatMap_cons, List.cons_append, List.nil_append, List.getElem?_cons_succ, List.getElem_cons_succ]
    exact this
theorem runCells_last (l : List RunD) (r : RunD) (c : Int) : ((runCells (l ++ [r])).set (l.length * 3 + 2) (.int .i64 c)) = runCells (l ++ [⟨r.off, r.page, c⟩]) := by
  rw [runCells_append, runCells_append, List.set_append_right _ _ (by rw [runCells_length]; omega), runCells_length]
  congr 1
  rw [show l.length * 3 + 2 - l.length * 3 = 2 by omega]
  rfl

/-- one more page on a list of runs -/
def addRun (l : List RunD) (p : Int × Int) : List RunD :=
  match l.getLast? with
  | some r => if wrap64 (r.off + r.count) = p.1 ∧ wrap64 (r.page + r.count) = p.2 then l.dropLast ++ [⟨r.off, r.page, wrap64 (r.count + 1)⟩] else l ++ [⟨p.1, p.2, 1⟩]
  | none => l ++ [⟨p.1, p.2, 1⟩]
def runsOf (items : List (Int × Int)) : List RunD := items.foldl addRun []
theorem runsOf_snoc (l : List (Int × Int)) (p : Int × Int) : runsOf (l ++ [p]) = addRun (runsOf l) p := by unfold runsOf; rw [List.foldl_append]; rfl
theorem addRun_nil (p : Int × Int) : addRun [] p = [⟨p.1, p.2, 1⟩] := rfl
theorem addRun_yes {l : List RunD} {r : RunD} {p : Int × Int} (h1 : wrap64 (r.off + r.count) = p.1) (h2 : wrap64 (r.page + r.count) = p.2) : addRun (l ++ [r]) p = l ++ [⟨r.off, r.page, wrap64 (r.count + 1)⟩] := by
  unfold addRun
  rw [List.getLast?_concat]
  simp [h1, h2]
theorem addRun_no {l : List RunD} {r : RunD} {p : Int × Int} (h : ¬ (wrap64 (r.off + r.count) = p.1 ∧ wrap64 (r.page + r.count) = p.2)) : addRun (l ++ [r]) p = l ++ [r] ++ [⟨p.1, p.2, 1⟩] := by
  unfold addRun
  rw [List.getLast?_concat]
  simp [h]
theorem addRun_length (l : List RunD) (p : Int × Int) : (addRun l p).length ≤ l.length + 1 := by
  rcases List.eq_nil_or_concat l with rfl | ⟨l', r, rfl⟩
  · simp [addRun_nil]
  · by_cases h : wrap64 (r.off + r.count) = p.1 ∧ wrap64 (r.page + r.count) = p.2
    · rw [List.concat_eq_append, addRun_yes h.1 h.2]; simp
    · rw [List.concat_eq_append, addRun_no h]; simp
theorem runsOf_length (l : List (Int × Int)) : (runsOf l).length ≤ l.length := by
  have key : ∀ (l : List (Int × Int)) (R : List RunD), (l.foldl addRun R).length ≤ R.length + l.length := by
    intro l
    induction l with
    | nil => intro R; simp
    | cons p l ih =>
      intro R
      have h1 := ih (addRun R p)
      have h2 := addRun_length R p
      simp only [List.foldl_cons, List.length_cons]
      omega
  have := key l []
  simp only [List.length_nil, Nat.zero_add] at this
  exact this

theorem infoRun : (Try.prog.info? 51).map (fun i => (i.zero, i.size, i.bytes)) = some (some (.agg #[.int .i64 0, .int .i64 0, .int .i64 0]), 3, 24) := by kernel_rfl
theorem wpListIn_append_run {F : Fence} {n : Nat} {ops : Array Oper} {rest : List Oper} {o : Oper} {a : Act} {w : World} {Q : Exit → Act → World → Prop} (hg : o.guard = none) (s x : Operand)
    (ho : o.op = .call { callee := .builtin .append, args := #[s, x], argTypes := #[22, 22] }) (W : World) (base : Nat) (v : Value) (acc : List RunD) (p : RunD)
    (hw : w = W.alloc (.cells #[.int .i64 p.off, .int .i64 p.page, .int .i64 p.count] 51)) (hs : a.eval s = v) (gx : Nat) (hgx : gx = W.heap.size) (hx : a.eval x = .slice (some ⟨gx, 0, none⟩) 1 1)
    (hown : W.ownsRow base 51 3 v acc.length (runCells acc)) (hb : base ≤ W.heap.size) (hl : acc.length ≤ 5000000000000)
    (h : ∀ v' w', w'.ownsRow base 51 3 v' (acc ++ [p]).length (runCells (acc ++ [p])) → Mod (fun k => some k = v.ownBlock) W w' → (v'.ownBlock = v.ownBlock ∨ v'.ownBlock = some (W.heap.size + 1)) → wpListIn F n Try.prog ops Q rest (a.put o.dst v') w') :
    wpListIn F n Try.prog ops Q (o :: rest) a w := by
  subst hgx
  obtain ⟨i0, hi, hz, hsz, hby⟩ := info_parts infoRun
  have hM : Mod None_ W w := by rw [hw]; exact (Mod.refl _ W).alloc _
  have hown1 := own_mod hown hM (fun _ _ f => f)
  have hB : Blk w W.heap.size 51 #[.int .i64 p.off, .int .i64 p.page, .int .i64 p.count] := by rw [hw]; exact Blk.new _ _ _
  obtain ⟨v', w', hrun, hown', hgr, _, hat⟩ := run_append_own_at (P := Try.prog) w base 22 o.type 51 i0 _ 3 24 Try.underlying22 hi hz hsz hby rfl (by decide) v acc.length _ hown1 ⟨W.heap.size, 0, none⟩ 1 1 [.int .i64 p.off, .int .i64 p.page, .int .i64 p.count] rfl
    (by
      intro j u hj
      rw [Addr.add_lit, Nat.zero_add, hB.cell]
      match j, hj with
      | 0, hj => simpa using hj
      | 1, hj => simpa using hj
      | 2, hj => simpa using hj)
    (by
      intro u hu
      rcases List.mem_cons.1 hu with rfl | hu
      · rfl
      · rcases List.mem_cons.1 hu with rfl | hu
        · rfl
        · rcases List.mem_cons.1 hu with rfl | hu
          · rfl
          · cases hu)
    (by unfold maxLen; omega) (by omega) (by rw [hw, alloc_size]; omega)
  have hsw : w.heap.size = W.heap.size + 1 := by rw [hw, alloc_size]
  have epc : runCells acc ++ [Value.int .i64 p.off, Value.int .i64 p.page, Value.int .i64 p.count] = runCells (acc ++ [p]) := by simp [runCells]
  have ell : (acc ++ [p]).length = acc.length + 1 := by simp
  rw [epc, ← ell] at hown'
  have hk := h v' w' hown' (hM.none.trans' (Mod.of_grown hgr) (fun k _ e => e)) (by rw [hsw] at hat; exact hat)
  refine wpListIn_plain hg fun K hK' => ?_
  unfold Oper.wpIn
  refine ⟨?_, ?_⟩
  · simp [Oper.about, ho, resolve, Target.leads, Sem.run_pure]
  · rw [Oper.semAt_plain F _ _ (by rw [ho]; intro c hc'; cases hc')]
    simp [execOp, ho, resolve, invoke, builtin, hs, hx, hrun, Result.andThen]
    exact hK' _ _ hk
end Go.Proofs.Ytabebkffcmajkaa
