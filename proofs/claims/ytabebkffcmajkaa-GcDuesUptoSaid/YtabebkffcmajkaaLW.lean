import Derived.Test.YtabebkffcmajkaaAP
import Derived.Test.YtabebkffcmajkaaIN4
import Derived.Test.YtabebkffcmajkaaRGB
import Derived.Test.YtabebkffcmajkaaRG4
import Derived.Test.YtabebkffcmajkaaEQ
/-! Walks of the law's own: small, copyNode, sameNode. -/
namespace Go.Proofs.Ytabebkffcmajkaa
open Go.RowKit Go.Maps Go.Shelf
attribute [local go_sem] quietV loudUpon Oper.semAt_some

def smallB (n : NodeD) : Bool := decide (n.map.length ≤ 2000) && (decide (n.names.length ≤ 2000) && decide (n.log.length ≤ 2000))
/-- a node's lists, as they are handed in -/
structure NodeIn (w : World) (n : NodeD) (vm vn vl : Value) : Prop where
  map : ListAt encRun 3 w vm n.map
  names : ListAt encDent 2 w vn n.names
  log : ListAt encInt 1 w vl n.log
  runs : ∀ r ∈ n.map, r.Ok
  kind : I64 n.kind
  size : I64 n.size
theorem NodeIn.kept {w w' : World} {n : NodeD} {vm vn vl : Value} (h : NodeIn w n vm vn vl) (hm : Mod None_ w w') : NodeIn w' n vm vn vl := ⟨h.map.kept hm, h.names.kept hm, h.log.kept hm, h.runs, h.kind, h.size⟩
theorem NodeIn.at_ {w : World} {n : NodeD} {vm vn vl : Value} (h : NodeIn w n vm vn vl) (hs : smallB n = true) : NodeAt w n vm vn vl := by
  simp only [smallB, Bool.and_eq_true, decide_eq_true_eq] at hs
  exact ⟨runsAt_of_list h.map (by omega) h.runs, h.names, h.log, h.kind, h.size, by omega⟩
theorem NodeAt.in_ {w : World} {n : NodeD} {vm vn vl : Value} (h : NodeAt w n vm vn vl) : NodeIn w n vm vn vl := ⟨h.map.list, h.names, h.log, by obtain ⟨_, _, _, _, _, _, ho, _⟩ := h.map; exact ho, h.kind, h.size⟩

set_option maxRecDepth 100000 in
theorem lawSmall (w : World) (n : NodeD) (vm vn vl : Value) (h : NodeIn w n vm vn vl) : Calls Try.prog 5 #[.agg (nodeC n vm vn vl)] w (BoolPost w (smallB n)) := by
  obtain ⟨Am, cm, rfl, hcm1, hcm2, _⟩ := h.map
  obtain ⟨An, cn, rfl, hcn1, hcn2, _⟩ := h.names
  obtain ⟨Al, cl, rfl, hcl1, hcl2, _⟩ := h.log
  unfold maxLen at *
  have hln : ∀ w, (Builtin.len_ #[23] 3 #[.slice An n.names.length cn]).run Try.prog w = .ok (.int .i64 n.names.length) w := fun w => by simp [Builtin.len_, run_underlying Try.underlying23]; rfl
  have hlm : ∀ w, (Builtin.len_ #[22] 3 #[.slice Am n.map.length cm]).run Try.prog w = .ok (.int .i64 n.map.length) w := fun w => by simp [Builtin.len_, run_underlying Try.underlying22]; rfl
  have hll : ∀ w, (Builtin.len_ #[24] 3 #[.slice Al n.log.length cl]).run Try.prog w = .ok (.int .i64 n.log.length) w := fun w => by simp [Builtin.len_, run_underlying Try.underlying24]; rfl
  have HM : Hid (Mod None_ w (w.alloc (.cells (nodeC n (.slice Am n.map.length cm) (.slice An n.names.length cn) (.slice Al n.log.length cl)) 26))) := hide ((Mod.refl None_ w).alloc _)
  unfold nodeC at *
  by_cases h1 : n.map.length ≤ 2000
  · have d1 : decide ((n.map.length : Int) ≤ 2000) = true := decide_eq_true (by omega)
    by_cases h2 : n.names.length ≤ 2000
    · have d2 : decide ((n.names.length : Int) ≤ 2000) = true := decide_eq_true (by omega)
      by_cases h3 : n.log.length ≤ 2000
      · have d3 : decide ((n.log.length : Int) ≤ 2000) = true := decide_eq_true (by omega)
        have e : smallB n = true := by unfold smallB; rw [decide_eq_true h1, decide_eq_true h2, decide_eq_true h3]; rfl
        rw [e]
        clear e
        go_enter Try.func5, Try.ntmps5
        go_wp2
        go_ret
        exact ⟨rfl, HM.out⟩
      · have d3 : decide ((n.log.length : Int) ≤ 2000) = false := decide_eq_false (by omega)
        have e : smallB n = false := by unfold smallB; rw [decide_eq_false h3]; simp
        rw [e]
        clear e
        go_enter Try.func5, Try.ntmps5
        go_wp2
        go_ret
        exact ⟨rfl, HM.out⟩
    · have d2 : decide ((n.names.length : Int) ≤ 2000) = false := decide_eq_false (by omega)
      have e : smallB n = false := by unfold smallB; rw [decide_eq_false h2]; simp
      rw [e]
      clear e
      go_enter Try.func5, Try.ntmps5
      go_wp2
      go_ret
      exact ⟨rfl, HM.out⟩
  · have d1 : decide ((n.map.length : Int) ≤ 2000) = false := decide_eq_false (by omega)
    have e : smallB n = false := by unfold smallB; rw [decide_eq_false h1]; simp
    rw [e]
    clear e
    go_enter Try.func5, Try.ntmps5
    go_wp2
    go_ret
    exact ⟨rfl, HM.out⟩
end Go.Proofs.Ytabebkffcmajkaa

/-! Walk of the law's own: copyNode. -/
namespace Go.Proofs.Ytabebkffcmajkaa
open Go.RowKit Go.Maps Go.Shelf
attribute [local go_sem] quietV loudUpon Oper.semAt_some

/-- a node whose lists are its own, from block `base` on -/
structure NodeOwn (base : Nat) (w : World) (n : NodeD) (vm vn vl : Value) : Prop where
  map : w.ownsRow base 51 3 vm n.map.length (rowOf encRun n.map)
  names : w.ownsRow base 49 2 vn n.names.length (rowOf encDent n.names)
  log : w.ownsRow base 3 1 vl n.log.length (rowOf encInt n.log)
theorem own_base {w : World} {b b' sz n : Nat} {e : TypeId} {v : Value} {xs : List Value} (h : w.ownsRow b e sz v n xs) (hb : b' ≤ b) : w.ownsRow b' e sz v n xs := by
  refine ⟨h.1, ?_⟩
  rcases h.2 with h2 | ⟨g, cap, cur, h1, h2, h3⟩
  · exact .inl h2
  · exact .inr ⟨g, cap, cur, h1, by omega, h3⟩
theorem NodeOwn.kept {b : Nat} {w w' : World} {n : NodeD} {vm vn vl : Value} (h : NodeOwn b w n vm vn vl) (hm : Mod None_ w w') : NodeOwn b w' n vm vn vl :=
  ⟨own_mod h.map hm (fun _ _ f => f), own_mod h.names hm (fun _ _ f => f), own_mod h.log hm (fun _ _ f => f)⟩
theorem NodeOwn.in_ {b : Nat} {w w0 : World} {n : NodeD} {vm vn vl vm0 vn0 vl0 : Value} (h : NodeOwn b w n vm vn vl) (h0 : NodeIn w0 n vm0 vn0 vl0) : NodeIn w n vm vn vl :=
  ⟨list_of_ownRow (enc := encRun) (fun _ => rfl) h.map, list_of_ownRow (enc := encDent) (fun _ => rfl) h.names, list_of_ownRow (enc := encInt) (fun _ => rfl) h.log, h0.runs, h0.kind, h0.size⟩
theorem oneDent : ∀ (s : ByteArray × Int), ∀ u ∈ encDent s, u.oneCell' = true := by
  intro s u hu
  simp only [encDent, List.mem_cons, List.not_mem_nil, or_false] at hu
  rcases hu with rfl | rfl <;> rfl
def zeroNode : Array Value := #[.int .i64 0, .int .i64 0, .int .i64 0, .int .i64 0, .slice none 0 0, .slice none 0 0, .int .i64 0, .int .i64 0, .slice none 0 0, .int .i64 0]
theorem infoNode (n : NodeD) (vm vn vl : Value) : (Try.prog.info? 26).map (·.size) = some (nodeC n vm vn vl).size := by show _ = some 10; kernel_rfl
theorem zeroNodeV (w : World) : (zeroValue 26).run Try.prog w = .ok (.agg zeroNode) w := by kernel_rfl
theorem nodeC_size (n : NodeD) (vm vn vl : Value) : zeroNode.size = (nodeC n vm vn vl).size := rfl
def CopyPost (w : World) (n : NodeD) : Ending → World → Prop := fun e w' => ∃ vm vn vl, e = .returned (.agg (nodeC n vm vn vl)) ∧ NodeOwn w.heap.size w' n vm vn vl ∧ Mod None_ w w'

set_option maxRecDepth 100000 in
set_option maxHeartbeats 1000000 in
theorem lawCopy (w : World) (n : NodeD) (vm vn vl : Value) (h : NodeIn w n vm vn vl) (hs : smallB n = true) : Calls Try.prog 6 #[.agg (nodeC n vm vn vl)] w (CopyPost w n) := by
  simp only [smallB, Bool.and_eq_true, decide_eq_true_eq] at hs
  obtain ⟨hs1, hs2, hs3⟩ := hs
  obtain ⟨Am, cm, rfl, hcm1, hcm2, _⟩ := h.map
  obtain ⟨An, cn, rfl, hcn1, hcn2, _⟩ := h.names
  obtain ⟨Al, cl, rfl, hcl1, hcl2, _⟩ := h.log
  obtain ⟨im, him, hzm, hsm, hbm⟩ := info_parts infoRun
  obtain ⟨id_, hid, hzd, hsd, hbd⟩ := info_parts info36
  obtain ⟨ii, hii, hzi, hsi, hbi⟩ := info_parts infoInt
  have HN := hide h
  clear h
  unfold nodeC
  go_enter Try.func6, Try.ntmps6
  obtain ⟨m, hm⟩ : ∃ m, m = w.heap.size := ⟨_, rfl⟩
  obtain ⟨z, hz⟩ : ∃ z : Array Value, z = zeroNode := ⟨_, rfl⟩
  obtain ⟨w1, hw1⟩ : ∃ w1, w1 = (w.alloc (.cells (nodeC n (.slice Am n.map.length cm) (.slice An n.names.length cn) (.slice Al n.log.length cl)) 26)).alloc (.cells z 26) := ⟨_, rfl⟩
  have hM : Mod None_ w w1 := by rw [hw1]; exact ((Mod.refl _ w).alloc _).alloc _
  have b1 : Blk w1 m 26 (nodeC n (.slice Am n.map.length cm) (.slice An n.names.length cn) (.slice Al n.log.length cl)) := by rw [hw1, hm]; exact (Blk.new w 26 _).alloc _
  have b2 : Blk w1 (m + 1) 26 zeroNode := by
    have := Blk.new (w.alloc (.cells (nodeC n (.slice Am n.map.length cm) (.slice An n.names.length cn) (.slice Al n.log.length cl)) 26)) 26 z
    rw [← hw1, alloc_size, ← hm, hz] at this
    exact this
  have hb2 := b2.lt
  have hgem : w.heap.size ≤ m := by omega
  have hgem2 : m ≤ w.heap.size := by omega
  rw [hz] at hw1
  unfold nodeC zeroNode at hw1
  have HW1 := hide hw1
  have HMM := hide hm
  clear hw1 hm
  go_upto_region 4 with fail
  rw [← HMM.out, ← HW1.out]
  clear HMM HW1
  have hle0 : w1.heap.size ≤ w1.heap.size := Nat.le_refl _
  have c4 : w1.cell? ⟨m, 4, none⟩ = some (.slice Am n.map.length cm) := b1.cell 4
  have HR0 := hide (ListAt.reads (enc := encRun) (fun _ => rfl) (by decide) (HN.out.kept hM).map)
  go_upto_region 5 with ((with_reducible refine at_slot 9 ?_); refine wpList_append_any _ rfl (.tmp 6) (.tmp 8) 22 rfl w1.heap.size 51 im _ 3 24 Try.underlying22 him hzm hsm hbm rfl (by decide) (.slice none 0 0) 0 [] rfl ⟨rfl, .inl ⟨rfl, rfl⟩⟩ w1.heap.size Am n.map.length cm (rowOf encRun n.map) rfl HR0.out (rowOf_one oneRun n.map) (by unfold maxLen; omega) (by omega) hle0 ?_; intro v9 w9 hown9 hg9 hat9
                         rw [Nat.zero_add, List.nil_append] at hown9
                         have hmx : Mod None_ w1 w9 := (Mod.of_grown hg9).mono (fun _ _ e => by cases e)
                         have b9 := b1.mod hmx id
                         have c9 : w9.cell? ⟨m, 4, none⟩ = some (.slice Am n.map.length cm) := b9.cell 4
                         have f9 : w9.frozen? ⟨m, 4, none⟩ = false := b9.frozen _
                         obtain ⟨A90, k90, rfl⟩ := own_slice hown9
                         have HG0 := hide hg9
                         have HA0 := hide hat9
                         clear hg9 hat9
                         go_frame)
  obtain ⟨w20, hw20⟩ : ∃ x, x = w9.setCell ⟨m, 4, none⟩ (.slice A90 n.map.length k90) := ⟨_, rfl⟩
  rw [← hw20]
  have hms0 : Mod (· = m) w9 w20 := by rw [hw20]; exact (Mod.refl (· = m) w9).setCell (p := ⟨m, 4, none⟩) (.inr rfl) _
  have b20 : Blk w20 m 26 (nodeC n (.slice A90 n.map.length k90) (.slice An n.names.length cn) (.slice Al n.log.length cl)) := by
    have := b9.set_ 4 (.slice A90 n.map.length k90)
    rw [← hw20] at this
    exact this
  have hM1 : Mod None_ w w20 := (hM.trans hmx).trans' hms0 (fun g hg e => by omega)
  have hown20 := own_mod hown9 hms0 (fun g hg e => by have := (own_blk hown9 hg).1; omega)
  have hsz1 : w1.heap.size ≤ w20.heap.size := Nat.le_trans hle0 (Nat.le_trans hmx.size hms0.size)
  have hz0 := (b2.mod hmx id).mod hms0 (by omega)
  have b2 := hz0
  clear hw20 hms0 b9 c9 f9 hown9 hmx c4 HR0 HG0 HA0 hle0 b1
  have hle1 : w1.heap.size ≤ w20.heap.size := hsz1
  have c5 : w20.cell? ⟨m, 5, none⟩ = some (.slice An n.names.length cn) := b20.cell 5
  have HR1 := hide (ListAt.reads (enc := encDent) (fun _ => rfl) (by decide) (HN.out.kept hM1).names)
  go_upto_region 6 with ((with_reducible refine at_slot 14 ?_); refine wpList_append_any _ rfl (.tmp 11) (.tmp 13) 23 rfl w1.heap.size 49 id_ _ 2 24 Try.underlying23 hid hzd hsd hbd rfl (by decide) (.slice none 0 0) 0 [] rfl ⟨rfl, .inl ⟨rfl, rfl⟩⟩ w20.heap.size An n.names.length cn (rowOf encDent n.names) rfl HR1.out (rowOf_one oneDent n.names) (by unfold maxLen; omega) (by omega) hle1 ?_; intro v9 w9 hown9 hg9 hat9
                         rw [Nat.zero_add, List.nil_append] at hown9
                         have hmx : Mod None_ w20 w9 := (Mod.of_grown hg9).mono (fun _ _ e => by cases e)
                         have b9 := b20.mod hmx id
                         have c9 : w9.cell? ⟨m, 5, none⟩ = some (.slice An n.names.length cn) := b9.cell 5
                         have f9 : w9.frozen? ⟨m, 5, none⟩ = false := b9.frozen _
                         obtain ⟨A91, k91, rfl⟩ := own_slice hown9
                         have HG1 := hide hg9
                         have HA1 := hide hat9
                         clear hg9 hat9
                         go_frame)
  obtain ⟨w21, hw21⟩ : ∃ x, x = w9.setCell ⟨m, 5, none⟩ (.slice A91 n.names.length k91) := ⟨_, rfl⟩
  rw [← hw21]
  have hms1 : Mod (· = m) w9 w21 := by rw [hw21]; exact (Mod.refl (· = m) w9).setCell (p := ⟨m, 5, none⟩) (.inr rfl) _
  have b21 : Blk w21 m 26 (nodeC n (.slice A90 n.map.length k90) (.slice A91 n.names.length k91) (.slice Al n.log.length cl)) := by
    have := b9.set_ 5 (.slice A91 n.names.length k91)
    rw [← hw21] at this
    exact this
  have hM2 : Mod None_ w w21 := (hM1.trans hmx).trans' hms1 (fun g hg e => by omega)
  have hown21 := own_mod hown9 hms1 (fun g hg e => by have := (own_blk hown9 hg).1; omega)
  have hsz2 : w1.heap.size ≤ w21.heap.size := Nat.le_trans hle1 (Nat.le_trans hmx.size hms1.size)
  have hown20 := own_mod (own_mod hown20 hmx (fun _ _ f => f)) hms1 (fun g hg e => by have := (own_blk hown20 hg).1; omega)
  have hz1 := (b2.mod hmx id).mod hms1 (by omega)
  have b2 := hz1
  clear hw21 hms1 b9 c9 f9 hown9 hmx c5 HR1 HG1 HA1 hle1 b20
  have hle2 : w1.heap.size ≤ w21.heap.size := hsz2
  have c8 : w21.cell? ⟨m, 8, none⟩ = some (.slice Al n.log.length cl) := b21.cell 8
  have HR2 := hide (ListAt.reads (enc := encInt) (fun _ => rfl) (by decide) (HN.out.kept hM2).log)
  go_upto_region 7 with ((with_reducible refine at_slot 19 ?_); refine wpList_append_any _ rfl (.tmp 16) (.tmp 18) 24 rfl w1.heap.size 3 ii _ 1 8 Try.underlying24 hii hzi hsi hbi rfl (by decide) (.slice none 0 0) 0 [] rfl ⟨rfl, .inl ⟨rfl, rfl⟩⟩ w21.heap.size Al n.log.length cl (rowOf encInt n.log) rfl HR2.out (rowOf_one oneInt n.log) (by unfold maxLen; omega) (by omega) hle2 ?_; intro v9 w9 hown9 hg9 hat9
                         rw [Nat.zero_add, List.nil_append] at hown9
                         have hmx : Mod None_ w21 w9 := (Mod.of_grown hg9).mono (fun _ _ e => by cases e)
                         have b9 := b21.mod hmx id
                         have c9 : w9.cell? ⟨m, 8, none⟩ = some (.slice Al n.log.length cl) := b9.cell 8
                         have f9 : w9.frozen? ⟨m, 8, none⟩ = false := b9.frozen _
                         obtain ⟨A92, k92, rfl⟩ := own_slice hown9
                         have HG2 := hide hg9
                         have HA2 := hide hat9
                         clear hg9 hat9
                         go_frame)
  obtain ⟨w22, hw22⟩ : ∃ x, x = w9.setCell ⟨m, 8, none⟩ (.slice A92 n.log.length k92) := ⟨_, rfl⟩
  rw [← hw22]
  have hms2 : Mod (· = m) w9 w22 := by rw [hw22]; exact (Mod.refl (· = m) w9).setCell (p := ⟨m, 8, none⟩) (.inr rfl) _
  have b22 : Blk w22 m 26 (nodeC n (.slice A90 n.map.length k90) (.slice A91 n.names.length k91) (.slice A92 n.log.length k92)) := by
    have := b9.set_ 8 (.slice A92 n.log.length k92)
    rw [← hw22] at this
    exact this
  have hM3 : Mod None_ w w22 := (hM2.trans hmx).trans' hms2 (fun g hg e => by omega)
  have hown22 := own_mod hown9 hms2 (fun g hg e => by have := (own_blk hown9 hg).1; omega)
  have hsz3 : w1.heap.size ≤ w22.heap.size := Nat.le_trans hle2 (Nat.le_trans hmx.size hms2.size)
  have hown20 := own_mod (own_mod hown20 hmx (fun _ _ f => f)) hms2 (fun g hg e => by have := (own_blk hown20 hg).1; omega)
  have hown21 := own_mod (own_mod hown21 hmx (fun _ _ f => f)) hms2 (fun g hg e => by have := (own_blk hown21 hg).1; omega)
  have hz2 := (b2.mod hmx id).mod hms2 (by omega)
  have b2 := hz2
  clear hw22 hms2 b9 c9 f9 hown9 hmx c8 HR2 HG2 HA2 hle2 b21
  have hi10 : (Try.prog.info? 26).map (·.size) = some (nodeC n (.slice A90 n.map.length k90) (.slice A91 n.names.length k91) (.slice A92 n.log.length k92)).size := by show _ = some 10; kernel_rfl
  have hone : (nodeC n (.slice A90 n.map.length k90) (.slice A91 n.names.length k91) (.slice A92 n.log.length k92)).all (·.oneCell') = true := by simp [nodeC, Value.oneCell']
  go_wp2_with (first
    | ((with_reducible refine at_slot 21 ?_); refine wpList_val rfl (ex_load rfl (run_loadRow b22 Try.underlying26 rfl hi10)) ?_; go_frame)
    | ((with_reducible refine at_none 26 2 21 ?_); refine wpList_store_row rfl 26 (.tmp 2) (.tmp 21) rfl (m + 1) (nodeC n (.slice A90 n.map.length k90) (.slice A91 n.names.length k91) (.slice A92 n.log.length k92)) rfl rfl 26 zeroNode b2 hi10 rfl hone ?_; go_frame))
  have b3 := b2.row (nodeC n (.slice A90 n.map.length k90) (.slice A91 n.names.length k91) (.slice A92 n.log.length k92))
  have hl := run_loadVar_row (P := Try.prog) _ (m + 1) 26 26 _ (0, 0) _ b3 Try.underlying26 rfl hi10
  have hmr : Mod (· = m + 1) w22 (w22.setRow (m + 1) (nodeC n (.slice A90 n.map.length k90) (.slice A91 n.names.length k91) (.slice A92 n.log.length k92))) := (Mod.refl (· = m + 1) w22).setRow (.inr rfl) _
  refine ⟨rfl, .agg (nodeC n (.slice A90 n.map.length k90) (.slice A91 n.names.length k91) (.slice A92 n.log.length k92)), ?_, ?_⟩
  · simp [results, Try.results6, asAddr, hl]
  · refine ⟨_, _, _, rfl, ⟨?_, ?_, ?_⟩, hM3.trans' hmr (fun g hg e => by omega)⟩
    · exact own_base (own_mod hown20 hmr (fun g hg e => by have := (own_blk hown20 hg).1; omega)) (by omega)
    · exact own_base (own_mod hown21 hmr (fun g hg e => by have := (own_blk hown21 hg).1; omega)) (by omega)
    · exact own_base (own_mod hown22 hmr (fun g hg e => by have := (own_blk hown22 hg).1; omega)) (by omega)
end Go.Proofs.Ytabebkffcmajkaa

/-! Walk of the law's own: sameNode, of equal nodes. -/
namespace Go.Proofs.Ytabebkffcmajkaa
open Go.RowKit Go.Maps Go.Shelf
attribute [local go_sem] quietV loudUpon Oper.semAt_some

set_option maxRecDepth 100000 in
set_option maxHeartbeats 1000000 in
theorem lawSameNode (w : World) (n : NodeD) (vm vn vl vm' vn' vl' : Value) (h : NodeIn w n vm vn vl) (h' : NodeIn w n vm' vn' vl') : Calls Try.prog 13 #[.agg (nodeC n vm vn vl), .agg (nodeC n vm' vn' vl')] w (BoolPost w true) := by
  obtain ⟨m, hm⟩ : ∃ m, m = w.heap.size := ⟨_, rfl⟩
  obtain ⟨w1, hw1⟩ : ∃ w1, w1 = (w.alloc (.cells (nodeC n vm vn vl) 26)).alloc (.cells (nodeC n vm' vn' vl') 26) := ⟨_, rfl⟩
  have hM : Mod None_ w w1 := by rw [hw1]; exact ((Mod.refl _ w).alloc _).alloc _
  have b1 : Blk w1 m 26 (nodeC n vm vn vl) := by rw [hw1, hm]; exact (Blk.new w 26 _).alloc _
  have b2 : Blk w1 (m + 1) 26 (nodeC n vm' vn' vl') := by
    have := Blk.new (w.alloc (.cells (nodeC n vm vn vl) 26)) 26 (nodeC n vm' vn' vl')
    rw [← hw1, alloc_size, ← hm] at this
    exact this
  have H1 := hide (lawSameRuns w1 _ _ _ _ (h.map.kept hM) (h'.map.kept hM))
  have HN := hide h
  have HN' := hide h'
  unfold nodeC at hw1
  have HW1 := hide hw1
  have HMM := hide hm
  clear hw1 hm h h'
  have c4 : w1.cell? ⟨m, 4, none⟩ = some vm := b1.cell 4
  have c4' : w1.cell? ⟨m + 1, 4, none⟩ = some vm' := b2.cell 4
  unfold nodeC
  go_enter Try.func13, Try.ntmps13
  go_upto_region 3 with fail
  rw [← HMM.out, ← HW1.out]
  clear HMM HW1
  go_wp2_with fail
  refine Calls.mono H1.out ?_
  rintro e w2 ⟨rfl, hm2⟩
  have b12 := b1.mod hm2 id
  have b22 := b2.mod hm2 id
  have hM2 := hM.trans hm2
  have H2 := hide (lawSameDents w2 _ _ _ _ (HN.out.names.kept hM2) (HN'.out.names.kept hM2))
  have c5 : w2.cell? ⟨m, 5, none⟩ = some vn := b12.cell 5
  have c5' : w2.cell? ⟨m + 1, 5, none⟩ = some vn' := b22.cell 5
  simp only [decide_true]
  clear c4 c4' b1 b2 hM hm2 H1
  go_wp2_with fail
  refine Calls.mono H2.out ?_
  rintro e w3 ⟨rfl, hm3⟩
  have b13 := b12.mod hm3 id
  have b23 := b22.mod hm3 id
  have hM3 := hM2.trans hm3
  have H3 := hide (lawSameNumbers w3 _ _ _ _ (HN.out.log.kept hM3) (HN'.out.log.kept hM3))
  have c8 : w3.cell? ⟨m, 8, none⟩ = some vl := b13.cell 8
  have c8' : w3.cell? ⟨m + 1, 8, none⟩ = some vl' := b23.cell 8
  simp only [decide_true]
  clear c5 c5' b12 b22 hM2 hm3 H2
  go_wp2_with fail
  refine Calls.mono H3.out ?_
  rintro e w4 ⟨rfl, hm4⟩
  have hM4 := hM3.trans hm4
  simp only [decide_true]
  clear c8 c8' b13 b23 hM3 hm4 H3
  go_wp2
  go_ret
  exact ⟨rfl, hM4⟩
end Go.Proofs.Ytabebkffcmajkaa
