import Derived.Test.YtabebkffcmajkaaS
import Derived.Test.YtabebkffcmajkaaRF0
/-! Walks: List. -/
namespace Go.Proofs.Ytabebkffcmajkaa
open Go.RowKit Go.Maps

def namesIn (rows : List Row) (d : Int) : List ByteArray := (rows.filter (fun r => decide (r.dir = d))).map (·.name)
def listNames (rows : List Row) (d : Int) : List ByteArray := sortNames (namesIn rows d)
theorem namesIn_length (rows : List Row) (d : Int) : (namesIn rows d).length = cntDir rows d := by simp [namesIn, cntDir]
theorem namesIn_perm {rows rows' : List Row} (h : rows.Perm rows') (d : Int) : (namesIn rows d).Perm (namesIn rows' d) := (h.filter _).map _

theorem own_lt {w : World} {base e size n : Nat} {v : Value} {xs : List Value} (h : w.ownsRow base e size v n xs) {g : Nat} (hg : v.ownBlock = some g) : g < w.heap.size := by
  obtain ⟨_, cur, hh⟩ := own_blk h hg
  exact (Array.getElem?_eq_some_iff.1 hh).1

theorem map_perm_cons {lrows : List Row} {p : Value × Value} {left' : List (Value × Value)} (h : (lrows.map Row.kv).Perm (p :: left')) :
    ∃ r lrows', lrows.Perm (r :: lrows') ∧ p = r.kv ∧ left'.Perm (lrows'.map Row.kv) := by
  have hm : p ∈ lrows.map Row.kv := h.mem_iff.2 (by simp)
  obtain ⟨r, hr, rfl⟩ := List.mem_map.1 hm
  obtain ⟨lrows', hl⟩ := mem_perm hr
  refine ⟨r, lrows', hl, rfl, ?_⟩
  have := h.symm.trans (hl.map Row.kv)
  rw [List.map_cons] at this
  exact this.cons_inv

theorem info36 : (Try.prog.info? 49).map (fun i => (i.zero, i.size, i.bytes)) = some (some (.agg #[.string ByteArray.empty, .int .i64 0]), 2, 24) := by kernel_rfl

theorem eq_of_perm_pairwise {α : Type} {le : α → α → Prop} (anti : ∀ a b, le a b → le b a → a = b) : ∀ {l l' : List α}, l.Perm l' → l.Pairwise le → l'.Pairwise le → l = l'
  | [], l', hp, _, _ => (hp.symm.eq_nil).symm
  | a :: l, [], hp, _, _ => hp.eq_nil
  | a :: l, b :: l', hp, h1, h2 => by
    obtain ⟨h1a, h1b⟩ := List.pairwise_cons.1 h1
    obtain ⟨h2a, h2b⟩ := List.pairwise_cons.1 h2
    have hab : a = b := by
      rcases List.mem_cons.1 (hp.mem_iff.1 (List.mem_cons_self (a := a) (l := l))) with e | ha
      · exact e
      · rcases List.mem_cons.1 (hp.mem_iff.2 (List.mem_cons_self (a := b) (l := l'))) with e | hb
        · exact e.symm
        · exact anti a b (h1a b hb) (h2a a ha)
    subst hab
    rw [eq_of_perm_pairwise anti hp.cons_inv h1b h2b]
theorem sortNames_sorted (l : List ByteArray) : (sortNames l).Pairwise (fun x y => (!strLt y x) = true) := by
  refine List.pairwise_mergeSort ?_ ?_ l
  · intro x y z h1 h2
    simp only [Bool.not_eq_true'] at *
    cases h : strLt z x
    · rfl
    · cases h3 : strLt x y
      · have := strLt_tri h3 h1
        subst this
        rw [h] at h2; cases h2
      · have := strLt_trans h h3
        rw [this] at h2; cases h2
  · intro x y
    cases h : strLt y x
    · rfl
    · rw [strLt_asymm h]; rfl
theorem sortNames_perm {l l' : List ByteArray} (h : l.Perm l') : sortNames l = sortNames l' :=
  eq_of_perm_pairwise (le := fun x y => (!strLt y x) = true) (fun a b h1 h2 => by
      simp only [Bool.not_eq_true'] at h1 h2
      exact strLt_tri h2 h1) ((List.mergeSort_perm _ _).trans (h.trans (List.mergeSort_perm _ _).symm)) (sortNames_sorted l) (sortNames_sorted l')

theorem kv_inj {r r' : Row} (h : r.kv = r'.kv) : r = r' := by
  simp only [Row.kv, Prod.mk.injEq, keyV, Value.agg.injEq, Value.int.injEq, true_and] at h
  obtain ⟨h1, h2⟩ := keyA_inj h.1
  cases r; cases r'; simp_all
theorem mem_of_kv {rows : List Row} {r : Row} (h : r.kv ∈ rows.map Row.kv) : r ∈ rows := by
  obtain ⟨r', hr, e⟩ := List.mem_map.1 h
  rw [← kv_inj e]; exact hr
theorem own_ne_iter {P : Program} {k : Nat} {w : World} {r b base e size n : Nat} {v : Value} {xs : List Value} {l left : List (Value × Value)} (h : w.ownsRow base e size v n xs) (hr : Ranging P k w r b l left) : ∀ g, v.ownBlock = some g → g ≠ r := by
  rintro g hg rfl
  obtain ⟨_, cur, hh⟩ := own_blk h hg
  obtain ⟨_, _, _, _, h2, _⟩ := hr.ex
  rw [hh] at h2; cases h2
theorem namesIn_cons_eq (r : Row) (l : List Row) : namesIn (r :: l) r.dir = r.name :: namesIn l r.dir := by
  unfold namesIn; rw [List.filter_cons_of_pos (by simp)]; rfl
theorem namesIn_cons_ne {r : Row} {l : List Row} {d : Int} (h : r.dir ≠ d) : namesIn (r :: l) d = namesIn l d := by
  unfold namesIn; rw [List.filter_cons_of_neg (by simpa using h)]
theorem dentCells_snoc (f : ByteArray → Int) (l : List ByteArray) (x : ByteArray) : dentCells f (l ++ [x]) = dentCells f l ++ [.string x, .int .i64 (f x)] := by
  unfold dentCells; rw [List.flatMap_append]; rfl

/-- the loop of List: rows that are still to come, names that were collected -/
def ListRel (w : World) (b r : Nat) (rows : List Row) (d : Int) (n : Nat) (v : Value) (wr : World) : Prop :=
  ∃ lrows acc, lrows.length ≤ n ∧ Ranging Try.prog 100 wr r b (rows.map Row.kv) (lrows.map Row.kv) ∧ (acc ++ namesIn lrows d).Perm (namesIn rows d) ∧
    wr.ownsRow w.heap.size 49 2 v acc.length (dentCells (findIno rows d) acc) ∧ Mod None_ w wr ∧ w.heap.size ≤ r

def ListPost (w : World) (rows : List Row) (d : Int) : Ending → World → Prop :=
  fun e w' => ∃ v, e = .returned v ∧ w'.ownsRow w.heap.size 49 2 v (listNames rows d).length (dentCells (findIno rows d) (listNames rows d)) ∧ Mod None_ w w'

set_option maxRecDepth 100000 in
set_option maxHeartbeats 400000 in
theorem list_none (w : World) (b : Nat) (rows : List Row) (d : Int) (hd : (Lit.int .i64 d).wf = true) (h : IndexAt w b rows) (h0 : cntDir rows d = 0) :
    Calls Try.prog 48 #[.pointer (some ⟨b + 3, 0, none⟩), .int .i64 d] w (ListPost w rows d) := by
  obtain ⟨c0, c1, c2⟩ := h.cells
  have hl := h.names.look d hd
  have hnil : listNames rows d = [] := by
    have : namesIn rows d = [] := List.eq_nil_of_length_eq_zero (by rw [namesIn_length]; exact h0)
    unfold listNames sortNames
    rw [this]; exact List.mergeSort_nil
  have HN := hide hnil
  rw [h0] at hl
  clear hnil h0
  go_enter Try.func48, Try.ntmps48
  go_wp2
  go_ret
  exact ⟨_, rfl, by rw [HN.out]; exact ⟨rfl, .inl ⟨rfl, rfl⟩⟩, Mod.refl _ _⟩

set_option maxRecDepth 100000 in
set_option maxHeartbeats 2000000 in
theorem list_some (w : World) (b : Nat) (rows : List Row) (d : Int) (hlen : rows.length ≤ 5000000000000) (hd : (Lit.int .i64 d).wf = true) (h : IndexAt w b rows) (h0 : cntDir rows d ≠ 0) :
    Calls Try.prog 48 #[.pointer (some ⟨b + 3, 0, none⟩), .int .i64 d] w (ListPost w rows d) := by
  obtain ⟨i0, hi, hz, hsz, hby⟩ := info_parts info36
  obtain ⟨c0, c1, c2⟩ := h.cells
  have hl := h.names.look d hd
  have hcb : cntDir rows d ≤ 5000000000000 := Nat.le_trans (cntDir_le rows d) hlen
  have HI := hide h
  obtain ⟨c, hc⟩ : ∃ c, c = cntDir rows d := ⟨_, rfl⟩
  rw [← hc] at hl h0 hcb
  clear h hc
  have h0' : ((c : Int) == 0) = false := by rw [beq_eq_false_iff_ne]; omega
  go_enter Try.func48, Try.ntmps48
  go_wp2_with (first
    | ((with_reducible refine at_slot 21 ?_); refine wpList_make_own _ rfl _ _ 23 rfl w.heap.size 49 i0 _ 2 Try.underlying23 hi hz hsz .i64 .i64 (c : Int) c rfl rfl rfl (by rw [hby]; omega) (by simp only [maxLen]; omega) (Nat.le_refl _) ?_; intro w1 hown1 hg1; go_frame
       have hm1 : Mod None_ w w1 := (Mod.of_grown hg1).mono (fun _ _ e => by cases e)
       have hI1 := HI.out.kept hm1
       obtain ⟨o, hrn, hrg⟩ := hI1.inos.range Try.underlying103
       have hm2 : Mod None_ w (w1.alloc o) := hm1.alloc o
       have hown2 := own_mod hown1 ((Mod.refl None_ w1).alloc o) (fun _ _ f => f)
       have hge : w.heap.size ≤ w1.heap.size := hm1.size
       obtain ⟨d0, d1, d2⟩ := hI1.cells
       clear c0 c1 c2 hl hown1 hg1 hm1 hI1
       generalize w1.alloc o = w2 at hrn hrg hm2 hown2)
    | ((with_reducible refine at_slot 26 ?_); refine wpList_val rfl (ex_range rfl hrn) ?_; go_frame))
  generalize w1.heap.size = r at *
  clear d0 d1 d2
  have hrel0 : ListRel w b r rows d rows.length (.slice (some ⟨w.heap.size, 0, none⟩) 0 c) w2 :=
    ⟨rows, [], Nat.le_refl _, hrg, List.Perm.refl _, hown2, hm2, hge⟩
  have HR := hide hrel0
  clear hrel0 hrg hown2 hm2 hge hrn
  go_loopg [5] rows.length (fun n v wr => ListRel w b r rows d n v wr)
  case atStart => exact HR.out
  case round =>
    clear HR
    obtain ⟨lrows, acc, hn, hrg, hacc, hown, hm, hge⟩ := hrel
    cases lrows with
    | nil =>
      have hx := hrg.next_end
      have hperm : acc.Perm (namesIn rows d) := by simpa [namesIn] using hacc
      have hal : acc.length ≤ 5000000000000 := by
        rw [hperm.length_eq, namesIn_length]
        exact Nat.le_trans (cntDir_le rows d) hlen
      have HS := hide (sort_any wr w.heap.size (findIno rows d) u5 acc hown (by omega))
      have HP := hide hperm
      clear hperm hrg hacc hown hn
      go_wp2_with ((with_reducible refine at_slot 27 ?_); refine wpList_val rfl (ex_next rfl (hx _)) ?_; go_frame)
      refine Calls.mono HS.out ?_
      rintro e w3 ⟨rfl, hown3, hm3⟩
      have hfin : ListPost w rows d (.returned u5) w3 := by
        refine ⟨u5, rfl, ?_, hm.trans' hm3 (fun k hk e => ?_)⟩
        · unfold listNames
          rw [← sortNames_perm HP.out, sortNames_length]
          exact hown3
        · omega
      have HF := hide hfin
      clear hfin hown3 hm3
      go_wp2
      go_ret
      exact HF.out
    | cons r0 lr0 =>
      obtain ⟨p, left', w3, hnx, hpm, hrg1, hcur, hmr, hsz1⟩ := hrg.next_some (by simp)
      obtain ⟨r1, lr', hlp, rfl, hlp'⟩ := map_perm_cons hpm
      have hr1 : r1 ∈ rows := mem_of_kv (hrg.sub _ (hpm.mem_iff.2 (by simp)))
      replace hnx : ∀ ty, (Instr.next (.pointer (some ⟨r, 0, none⟩)) false ty).run Try.prog wr = .ok (.tuple #[.bool true, keyV r1.dir r1.name, .int .i64 r1.ino]) w3 := hnx
      have hok := HI.out.ok r1 hr1
      have hfi : findIno rows r1.dir r1.name = r1.ino := findIno_mem HI.out.nodup hr1
      have hen : (Instr.entry (.pointer (some ⟨r, 0, none⟩))).run Try.prog w3 = .ok (.tuple #[keyV r1.dir r1.name, .int .i64 r1.ino]) w3 := Cur.entry (P := Try.prog) hcur
      have hne := own_ne_iter hown hrg
      have hown1 := own_mod hown hmr (fun g hg e => hne g hg e)
      have hm1 : Mod None_ w w3 := hm.trans' hmr (fun k hk e => by omega)
      have hrg2 : Ranging Try.prog 100 w3 r b (rows.map Row.kv) (lr'.map Row.kv) := hrg1.perm_left hlp'
      have hsub : (acc ++ namesIn (r1 :: lr') d).Perm (namesIn rows d) := ((namesIn_perm hlp d).symm.append_left acc).trans hacc
      have hn' : lr'.length + 1 ≤ gk := by
        have := hlp.length_eq
        simp only [List.length_cons] at this hn
        omega
      have hlt := hrg.map.lt
      have hk := keyA_size r1.dir r1.name hok.size
      have HK := hide hk
      have HO := hide hok
      have HF := hide hfi
      have HS := hide hsub
      have HR := hide hr1
      have hal : acc.length + 1 ≤ 5000000000000 + 1 := by
        have h1 := hsub.length_eq
        rw [List.length_append, namesIn_length] at h1
        have h2 := Nat.le_trans (cntDir_le rows d) hlen
        rw [← namesIn_length] at h2
        omega
      clear hpm hlp hlp' hrg hacc hrg1 hcur hown hm hn hok hfi hk hsub hr1 hsz1 hmr hne r0 lr0 left'
      have hM4 : Mod None_ w3 (w3.alloc (.cells (keyA r1.dir r1.name) 100)) := (Mod.refl _ w3).alloc _
      have hB4 : Blk (w3.alloc (.cells (keyA r1.dir r1.name) 100)) w3.heap.size 100 (keyA r1.dir r1.name) := Blk.new _ _ _
      have hw4 : ∃ w4, w4 = w3.alloc (.cells (keyA r1.dir r1.name) 100) := ⟨_, rfl⟩
      obtain ⟨w4, hw4⟩ := hw4
      rw [← hw4] at hM4 hB4
      have hge3 : w.heap.size ≤ w3.heap.size := hm1.size
      have hk0 : (keyA r1.dir r1.name)[0]? = some (.int .i64 r1.dir) := by simp [keyA, keyCells]
      have ck : w4.cell? ⟨w3.heap.size, 0, none⟩ = some (.int .i64 r1.dir) := (hB4.cell 0).trans hk0
      have HW := hide hw4
      obtain ⟨g4, hg4⟩ : ∃ g4, g4 = w3.heap.size := ⟨_, rfl⟩
      have HG := hide hg4
      rw [← hg4] at hB4 ck hge3
      clear hw4 hk0 hg4
      by_cases hd1 : r1.dir = d
      · have ht : ((r1.dir : Int) == d) = true := by rw [hd1]; exact beq_self_eq_true d
        have HD := hide hd1
        clear hd1
        go_wp2_with (first
          | ((with_reducible refine at_slot 27 ?_); refine wpList_val rfl (ex_next rfl (hnx _)) ?_; go_frame)
          | ((with_reducible refine at_slot 29 ?_); refine wpList_val rfl (ex_entry rfl hen) ?_; go_frame)
          | ((with_reducible refine at_slot 6 ?_); refine wpList_declare rfl rfl 100 6 (.tmp 30) rfl rfl rfl zeroK (keyA r1.dir r1.name) zero55 (size55' HK.out) (zeroK_size.trans HK.out.symm) (keyA_one _ _) (by simp) rfl ?_; go_frame; rw [← HW.out, ← HG.out])
          | ((with_reducible refine at_slot 37 ?_); refine wpList_val rfl (ex_load rfl (run_loadRow hB4 Try.underlying100 rfl (size55' HK.out))) ?_; go_frame))
        refine (name_any w4 r1.dir r1.name HO.out.size).mono ?_
        rintro e w5 ⟨rfl, hm5⟩
        have hm35 : Mod None_ w3 w5 := hM4.trans hm5
        have hown5 := own_mod hown1 (hm35.alloc (.cells #[.string r1.name, .int .i64 r1.ino] 49)) (fun _ _ f => f)
        have hb5 : w.heap.size ≤ (w5.alloc (.cells #[.string r1.name, .int .i64 r1.ino] 49)).heap.size := by
          have := hm1.size; have := hm35.size; rw [alloc_size]; omega
        have hnb : Blk (w5.alloc (.cells #[.string r1.name, .int .i64 r1.ino] 49)) w5.heap.size 49 #[.string r1.name, .int .i64 r1.ino] := Blk.new _ _ _
        have hnews : ∀ (j : Nat) (u : Value), ([.string r1.name, .int .i64 r1.ino] : List Value)[j]? = some u → (w5.alloc (.cells #[.string r1.name, .int .i64 r1.ino] 49)).cell? ((⟨w5.heap.size, 0, none⟩ : Addr).add j) = some u := by
          intro j u hj
          have hadd : (⟨w5.heap.size, 0, none⟩ : Addr).add j = ⟨w5.heap.size, j, none⟩ := by unfold Addr.add; split <;> simp_all
          rw [hadd, hnb.cell]
          simpa using hj
        have h1c : ∀ u ∈ ([.string r1.name, .int .i64 r1.ino] : List Value), u.oneCell' = true := by
          intro u hu
          simp only [List.mem_cons, List.not_mem_nil, or_false] at hu
          rcases hu with rfl | rfl <;> rfl
        have HN := hide hnews
        have H1 := hide h1c
        clear hnews h1c hnb
        go_wp2_with ((with_reducible refine at_slot 42 ?_); refine wpList_append_own _ rfl (.tmp 36) (.tmp 41) 23 rfl w.heap.size 49 i0 _ 2 24 Try.underlying23 hi hz hsz hby rfl (by decide) u5 acc.length _ rfl hown5 ⟨w5.heap.size, 0, none⟩ 1 1 _ rfl rfl HN.out H1.out (by simp only [maxLen]; omega) (by omega) hb5 ?_; intro v' w6 hown6 hg6 _; go_frame)
        go_roundg (gk - 1)
        case measure => omega
        case rel =>
          have hne2 := own_ne_iter hown1 hrg2
          have hm36 : Mod (fun k => some k = u5.ownBlock) w3 w6 := (hm35.alloc _).none.trans' (Mod.of_grown hg6) (fun _ _ e => e)
          have hbl := HI.out.lt
          refine ⟨lr', acc ++ [r1.name], by omega, hrg2.mod hm36 (fun e => ?_) (fun e => hne2 r e.symm rfl), ?_, ?_, hm1.trans' hm36 (fun k hk e => ?_), hge⟩
          · have := (own_blk hown1 e.symm).1; omega
          · have := HS.out
            rw [← HD.out, namesIn_cons_eq] at this
            rw [← HD.out, List.append_assoc]
            exact this
          · rw [dentCells_snoc, List.length_append]
            have e : findIno rows d r1.name = r1.ino := by rw [← HD.out]; exact HF.out
            rw [e]
            exact hown6
          · have := (own_blk hown1 e.symm).1; omega
      · have ht : ((r1.dir : Int) == d) = false := by rw [beq_eq_false_iff_ne]; exact hd1
        have HD := hide hd1
        clear hd1
        go_wp2_with (first
          | ((with_reducible refine at_slot 27 ?_); refine wpList_val rfl (ex_next rfl (hnx _)) ?_; go_frame)
          | ((with_reducible refine at_slot 29 ?_); refine wpList_val rfl (ex_entry rfl hen) ?_; go_frame)
          | ((with_reducible refine at_slot 6 ?_); refine wpList_declare rfl rfl 100 6 (.tmp 30) rfl rfl rfl zeroK (keyA r1.dir r1.name) zero55 (size55' HK.out) (zeroK_size.trans HK.out.symm) (keyA_one _ _) (by simp) rfl ?_; go_frame; rw [← HW.out, ← HG.out]))
        go_roundg (gk - 1)
        case measure => omega
        case rel =>
          refine ⟨lr', acc, by omega, hrg2.mod hM4 id id, ?_, own_mod hown1 hM4 (fun _ _ f => f), hm1.trans hM4, hge⟩
          have := HS.out
          rw [namesIn_cons_ne HD.out] at this
          exact this

theorem list_any (w : World) (b : Nat) (rows : List Row) (d : Int) (hlen : rows.length ≤ 5000000000000) (hd : (Lit.int .i64 d).wf = true) (h : IndexAt w b rows) :
    Calls Try.prog 48 #[.pointer (some ⟨b + 3, 0, none⟩), .int .i64 d] w (ListPost w rows d) := by
  by_cases h0 : cntDir rows d = 0
  · exact list_none w b rows d hd h h0
  · exact list_some w b rows d hlen hd h h0
end Go.Proofs.Ytabebkffcmajkaa
