import Derived.Test.YtabebkffcmajkaaRB
import Derived.RangeFuncNested
import Derived.RangeFuncBound
import Derived.RangeFuncCalls
import Derived.RangeFuncLeaves
import Derived.OwnWalkIn
import Derived.TacticsInMore
import Derived.LoopNIn
import Derived.LoopIn
/-! Walk: walk, which hands on what stands below a part. (Printed by mk_R6.py.) -/
namespace Go.Proofs.Ytabebkffcmajkaa
open Go.RowKit Go.Maps

/-- what a part of N offsets hands on, from off on -/
def itemsOf (f : Nat → Int) (base : Int) (N : Nat) (off : Int) : List (Int × Int) := ((List.range N).filter (fun x : Nat => decide (f x ≠ 0 ∧ off ≤ base + (x : Int)))).map (fun x : Nat => (base + (x : Int), f x))
theorem itemsOf_zero (f : Nat → Int) (base off : Int) : itemsOf f base 0 off = [] := rfl
theorem itemsOf_add (f : Nat → Int) (base : Int) (a b : Nat) (off : Int) : itemsOf f base (a + b) off = itemsOf f base a off ++ itemsOf (fun i => f (a + i)) (base + a) b off := by
  unfold itemsOf
  rw [List.range_add, List.filter_append, List.map_append, List.filter_map, List.map_map]
  congr 1
  have e : ((fun x : Nat => decide (f x ≠ 0 ∧ off ≤ base + (x : Int))) ∘ fun x => a + x) = fun x : Nat => decide ((fun i => f (a + i)) x ≠ 0 ∧ off ≤ base + (a : Int) + (x : Int)) := by
    funext x
    have e2 : base + ((a + x : Nat) : Int) = base + (a : Int) + (x : Int) := by push_cast; omega
    show decide (f (a + x) ≠ 0 ∧ off ≤ base + ((a + x : Nat) : Int)) = _
    rw [e2]
  rw [e]
  apply List.map_congr_left
  intro x _
  show (base + ((a + x : Nat) : Int), f (a + x)) = _
  have e2 : base + ((a + x : Nat) : Int) = base + (a : Int) + (x : Int) := by push_cast; omega
  rw [e2]
theorem itemsOf_none {f : Nat → Int} {base off : Int} {N : Nat} (h : ∀ x : Nat, x < N → f x = 0 ∨ base + (x : Int) < off) : itemsOf f base N off = [] := by
  unfold itemsOf
  rw [List.map_eq_nil_iff, List.filter_eq_nil_iff]
  intro x hx
  have := h x (List.mem_range.1 hx)
  simp only [decide_eq_true_eq]
  rintro ⟨h1, h2⟩
  rcases this with e | e
  · exact h1 e
  · omega
theorem itemsOf_one {f : Nat → Int} {base off : Int} (h : f 0 ≠ 0) (ho : off ≤ base) : itemsOf f base 1 off = [(base, f 0)] := by
  unfold itemsOf
  rw [show List.range 1 = [0] from rfl, List.filter_cons_of_pos (by simp [h]; exact ho)]
  simp

section
variable {l N lo : Nat} {J Jx : List (Int × Int) → World → Prop} {Kp : World → World → Prop} {W1 : World}
/-- the yields of a range: what the walk may lean on -/
structure Yields (l N lo : Nat) (J Jx : List (Int × Int) → World → Prop) (Kp : World → World → Prop) (W1 : World) : Prop where
  tr : ∀ {A B C : World}, Kp A B → Kp B C → Kp A C
  keep : ∀ {B : World} {g : Nat} {t : TypeId} {cs : Array Value}, Kp W1 B → lo ≤ g → Blk W1 g t cs → Blk B g t cs
  say : ∀ pre x W0, J pre W0 → pre.length < N → ∀ m, YieldAt Fence.wide m Try.prog l #[.int .i64 x.1, .int .i64 x.2] W0 fun e W' => (e = .returned (.bool true) ∧ J (pre ++ [x]) W' ∧ Kp W0 W') ∨ (e = .returned (.bool false) ∧ Jx (pre ++ [x]) W')
/-- what walk leaves -/
def WalkPost (J Jx : List (Int × Int) → World → Prop) (Kp : World → World → Prop) (w : World) (all : List (Int × Int)) : Ending → World → Prop := fun e W' =>
  (e = .returned (.bool true) ∧ J all W' ∧ Kp w W') ∨ (∃ q, q <+: all ∧ e = .returned (.bool false) ∧ Jx q W')
theorem yieldAt_wide {m m' : Nat} {args : Array Value} {W : World} {R : Ending → World → Prop} (h : YieldAt Fence.wide m Try.prog l args W R) : YieldAt Fence.wide m' Try.prog l args W R := by
  obtain ⟨fn, tmps, assign, body, hy, h1, h2⟩ := h
  exact ⟨fn, tmps, assign, body, hy, h1, fun c cs _ => h2 c cs (room_wide _)⟩


set_option maxRecDepth 100000 in
set_option maxHeartbeats 2000000 in
theorem walk0 (hY : Yields l N lo J Jx Kp W1) (w : World) (p : Nat) (f : Nat → Int) (base off : Int) (pre : List (Int × Int)) (hN : NodeR W1 lo 0 p f) (hKw : Kp W1 w) (hb0 : 0 ≤ base) (hb1 : base + 8 ≤ 512) (hJ : J pre w) (hl : (pre ++ itemsOf f base 8 off).length ≤ N) :
    Calls Try.prog 40 #[.pointer (some ⟨p, 0, none⟩), .int .i64 base, .int .i64 1, .int .i64 off, .func (.yield l) #[] #[]] w (WalkPost J Jx Kp W1 (pre ++ itemsOf f base 8 off)) := by
  obtain ⟨hlo, hB⟩ := hN
  have HY := hide hY
  have HJ := hide hJ
  have HL := hide hl
  have HKW := hide hKw
  clear hJ hl hY hKw
  refine callsIn_wide.1 (callsIn_of_wp (n := 5) Try.func40 rfl trivial ?_ rfl)
  simp only [Try.ntmps40, List.size_toArray, List.length_cons, List.length_nil, Nat.reduceAdd, Nat.reduceSub, Array.replicate_succ, Array.replicate_zero, List.push_toArray, List.append_toArray, List.nil_append, List.cons_append]
  gi_wp2
  gi_loopw [14] (fun i wr => ∃ k : Nat, k ≤ 8 ∧ i = .int .i64 k ∧ J (pre ++ itemsOf f base (k * 1) off) wr ∧ Kp W1 wr) (fun i _ => 8 - (intOf i).toNat)
  case atStart => exact ⟨0, by omega, rfl, by rw [Nat.zero_mul, itemsOf_zero, List.append_nil]; exact HJ.out, HKW.out⟩
  case round =>
    obtain ⟨k, hk8, rfl, hJ, hK⟩ := hrel
    have HJ := hide hJ
    have HK := hide hK
    clear hJ hK
    by_cases hk : k < 8
    · have hki : (k : Int) < 8 := by omega
      have hadd := itemsOf_add f base (k * 1) 1 off
      have hadd2 : itemsOf f base (k * 1 + 1) off = itemsOf f base ((k + 1) * 1) off := by rw [Nat.succ_mul]
      rw [hadd2] at hadd
      have HA := hide hadd
      clear hadd hadd2
      have skip : itemsOf (fun i => f (k * 1 + i)) (base + ((k * 1 : Nat) : Int)) 1 off = [] → J (pre ++ itemsOf f base ((k + 1) * 1) off) wr := fun he => by rw [HA.out, he, List.append_nil]; exact HJ.out
      have SK := hide skip
      clear skip
      by_cases hle : base + (k : Int) * 1 + 1 ≤ off
      · have hs := SK.out (itemsOf_none fun x hx => .inr (by push_cast; omega))
        have HS := hide hs
        clear hs
        gi_wp2
        go_roundw
        case rel => exact ⟨k + 1, by omega, by simp, HS.out, HK.out⟩
        case measure => simp [intOf]; omega
      · have hB2 := HY.out.keep HK.out hlo hB
        have cv : wr.cell? ⟨p, 8 + k, none⟩ = some (.int .i64 (f k)) := by rw [hB2.cell, nodeCells_val _ _ hk]
        have hix : f (k * 1 + 0) = f k := by simp
        have hbx : base + ((k * 1 : Nat) : Int) = base + k := by push_cast; omega
        have hgo : ¬ base + (k : Int) + 1 ≤ off := by omega
        by_cases hv : f k = 0
        · have hvb : (f k != 0) = false := by rw [hv]; rfl
          have he0 : ∀ x : Nat, x < 1 → (fun i => f (k * 1 + i)) x = 0 := fun x hx => by
            have e : x = 0 := by omega
            subst e
            simpa using hv
          have hs := SK.out (itemsOf_none fun x hx => .inl (he0 x hx))
          have HS := hide hs
          clear hs hv hix hbx hB2 he0
          generalize f k = fv at cv hvb
          gi_wp2
          refine ⟨(fun f hf => by cases hf), ?_⟩
          gi_wp2
          go_roundw
          case rel => exact ⟨k + 1, by omega, by simp, HS.out, HK.out⟩
          case measure => simp [intOf]; omega
        · have hvb : (f k != 0) = true := by rw [bne_iff_ne]; exact hv
          have h1 := itemsOf_one (f := fun i => f (k * 1 + i)) (base := base + ((k * 1 : Nat) : Int)) (off := off) (by rw [hix]; exact hv) (by rw [hbx]; omega)
          rw [hix] at h1
          have hA2 := HA.out
          rw [h1, hbx] at hA2
          have hA3 : itemsOf f base 8 off = itemsOf f base ((k + 1) * 1) off ++ itemsOf (fun i => f ((k + 1) * 1 + i)) (base + (((k + 1) * 1 : Nat) : Int)) (8 - (k + 1)) off := by
            rw [← itemsOf_add]
            congr 1
            omega
          have hlen : (pre ++ itemsOf f base (k * 1) off).length < N := by
            have := HL.out
            rw [hA3, hA2] at this
            simp only [List.length_append, List.length_cons, List.length_nil] at this ⊢
            omega
          have hpx : (pre ++ itemsOf f base (k * 1) off) ++ [(base + (k : Int), f k)] <+: pre ++ itemsOf f base 8 off := by
            rw [hA3, hA2]
            simp only [List.append_assoc]
            exact ⟨_, by simp only [List.append_assoc]; rfl⟩
          obtain ⟨fn, tmps, assign, body, hy, hR⟩ := HY.out.say _ (base + (k : Int), f k) wr HJ.out hlen (5 - 1)
          have HA2 := hide hA2
          have HPX := hide hpx
          have HR := hide hR
          clear h1 hA2 hA3 hlen hpx hR hv hix hbx hB2
          dsimp only at hy
          generalize f k = fv at cv hvb hy HA2 HPX HR
          gi_wp2
          refine HR.out.mono ?_
          rintro e W3 (⟨rfl, hJ3, hk3⟩ | ⟨rfl, hJx3⟩)
          · have HJ3 := hide hJ3
            have HK3 := hide (HY.out.tr HK.out hk3)
            clear hJ3 hk3 hy
            gi_wp2
            go_roundw
            case rel => exact ⟨k + 1, by omega, by simp, by rw [HA2.out, ← List.append_assoc]; exact HJ3.out, HK3.out⟩
            case measure => simp [intOf]; omega
          · have HJ3 := hide hJx3
            clear hJx3 hy
            gi_wp2
            refine bodyPost_ret (by simp [results, Try.results40, go_sem]; rfl) rfl ?_
            exact .inr ⟨_, HPX.out, rfl, HJ3.out⟩
    · obtain rfl : k = 8 := by omega
      gi_wp2
      refine bodyPost_ret (by simp [results, Try.results40, go_sem]; rfl) rfl ?_
      exact .inl ⟨rfl, HJ.out, HK.out⟩


set_option maxRecDepth 100000 in
set_option maxHeartbeats 2000000 in
theorem walk1 (hY : Yields l N lo J Jx Kp W1) (w : World) (p : Nat) (f : Nat → Int) (base off : Int) (pre : List (Int × Int)) (hN : NodeR W1 lo 1 p f) (hKw : Kp W1 w) (hb0 : 0 ≤ base) (hb1 : base + 64 ≤ 512) (hJ : J pre w) (hl : (pre ++ itemsOf f base 64 off).length ≤ N) :
    Calls Try.prog 40 #[.pointer (some ⟨p, 0, none⟩), .int .i64 base, .int .i64 8, .int .i64 off, .func (.yield l) #[] #[]] w (WalkPost J Jx Kp W1 (pre ++ itemsOf f base 64 off)) := by
  obtain ⟨hlo, ch, hB, hc⟩ := hN
  have HC := hide hc
  clear hc
  have HY := hide hY
  have HJ := hide hJ
  have HL := hide hl
  have HKW := hide hKw
  clear hJ hl hY hKw
  refine callsIn_wide.1 (callsIn_of_wp (n := 5) Try.func40 rfl trivial ?_ rfl)
  simp only [Try.ntmps40, List.size_toArray, List.length_cons, List.length_nil, Nat.reduceAdd, Nat.reduceSub, Array.replicate_succ, Array.replicate_zero, List.push_toArray, List.append_toArray, List.nil_append, List.cons_append]
  gi_wp2
  gi_loopw [14] (fun i wr => ∃ k : Nat, k ≤ 8 ∧ i = .int .i64 k ∧ J (pre ++ itemsOf f base (k * 8) off) wr ∧ Kp W1 wr) (fun i _ => 8 - (intOf i).toNat)
  case atStart => exact ⟨0, by omega, rfl, by rw [Nat.zero_mul, itemsOf_zero, List.append_nil]; exact HJ.out, HKW.out⟩
  case round =>
    obtain ⟨k, hk8, rfl, hJ, hK⟩ := hrel
    have HJ := hide hJ
    have HK := hide hK
    clear hJ hK
    by_cases hk : k < 8
    · have hki : (k : Int) < 8 := by omega
      have hadd := itemsOf_add f base (k * 8) 8 off
      have hadd2 : itemsOf f base (k * 8 + 8) off = itemsOf f base ((k + 1) * 8) off := by rw [Nat.succ_mul]
      rw [hadd2] at hadd
      have HA := hide hadd
      clear hadd hadd2
      have skip : itemsOf (fun i => f (k * 8 + i)) (base + ((k * 8 : Nat) : Int)) 8 off = [] → J (pre ++ itemsOf f base ((k + 1) * 8) off) wr := fun he => by rw [HA.out, he, List.append_nil]; exact HJ.out
      have SK := hide skip
      clear skip
      by_cases hle : base + (k : Int) * 8 + 8 ≤ off
      · have hs := SK.out (itemsOf_none fun x hx => .inr (by push_cast; omega))
        have HS := hide hs
        clear hs
        gi_wp2
        go_roundw
        case rel => exact ⟨k + 1, by omega, by simp, HS.out, HK.out⟩
        case measure => simp [intOf]; omega
      · have hB2 := HY.out.keep HK.out hlo hB
        have cv : wr.cell? ⟨p, k, none⟩ = some (ptrV (ch k)) := by rw [hB2.cell, nodeCells_ptr _ _ hk]
        have hgo : ¬ base + (k : Int) * 8 + 8 ≤ off := hle
        cases hck : ch k with
        | none =>
          rw [hck] at cv
          have cv' : wr.cell? ⟨p, k, none⟩ = some (.pointer none) := cv
          have hs := SK.out (itemsOf_none fun x hx => .inl ((HC.out k hk).1 hck x hx))
          have HS := hide hs
          clear hs hck hB2 cv
          gi_wp2
          go_roundw
          case rel => exact ⟨k + 1, by omega, by simp, HS.out, HK.out⟩
          case measure => simp [intOf]; omega
        | some q =>
          rw [hck] at cv
          have cv' : wr.cell? ⟨p, k, none⟩ = some (.pointer (some ⟨q, 0, none⟩)) := cv
          have hn := (HC.out k hk).2 q hck
          have hA3 : itemsOf f base 64 off = itemsOf f base ((k + 1) * 8) off ++ itemsOf (fun i => f ((k + 1) * 8 + i)) (base + (((k + 1) * 8 : Nat) : Int)) (64 - (k + 1) * 8) off := by
            rw [← itemsOf_add]
            congr 1
            omega
          have hlen : ((pre ++ itemsOf f base (k * 8) off) ++ itemsOf (fun i => f (k * 8 + i)) (base + ((k * 8 : Nat) : Int)) 8 off).length ≤ N := by
            have := HL.out
            rw [hA3, HA.out] at this
            simp only [List.length_append] at this ⊢
            omega
          have hpx : (pre ++ itemsOf f base (k * 8) off) ++ itemsOf (fun i => f (k * 8 + i)) (base + ((k * 8 : Nat) : Int)) 8 off <+: pre ++ itemsOf f base 64 off := by
            rw [hA3, HA.out]
            simp only [List.append_assoc]
            exact ⟨_, by simp only [List.append_assoc]; rfl⟩
          have hw := walk0 HY.out wr q (fun i => f (k * 8 + i)) (base + ((k * 8 : Nat) : Int)) off (pre ++ itemsOf f base (k * 8) off) hn HK.out (by omega) (by omega) HJ.out hlen
          have eb : base + ((k * 8 : Nat) : Int) = base + (k : Int) * 8 := by push_cast; omega
          rw [show (Value.int .i64 (base + ((k * 8 : Nat) : Int))) = .int .i64 (base + (k : Int) * 8) from by rw [eb]] at hw
          have HW := hide hw
          have HPX := hide hpx
          clear hw hpx hlen hA3 hn hck hB2 cv eb
          gi_wp2_with fail
          refine ⟨trivial, ?_⟩
          refine (callsIn_wide.2 HW.out).mono ?_
          rintro e W3 (⟨rfl, hJ3, hk3⟩ | ⟨z, hz, rfl, hJx3⟩)
          · have HJ3 := hide hJ3
            have HK3 := hide hk3
            clear hJ3 hk3
            gi_wp2
            go_roundw
            case rel => exact ⟨k + 1, by omega, by simp, by rw [HA.out, ← List.append_assoc]; exact HJ3.out, HK3.out⟩
            case measure => simp [intOf]; omega
          · have HJ3 := hide hJx3
            have HZ := hide (hz.trans HPX.out)
            clear hJx3 hz
            gi_wp2
            refine bodyPost_ret (by simp [results, Try.results40, go_sem]; rfl) rfl ?_
            exact .inr ⟨_, HZ.out, rfl, HJ3.out⟩
    · obtain rfl : k = 8 := by omega
      gi_wp2
      refine bodyPost_ret (by simp [results, Try.results40, go_sem]; rfl) rfl ?_
      exact .inl ⟨rfl, HJ.out, HK.out⟩


set_option maxRecDepth 100000 in
set_option maxHeartbeats 2000000 in
theorem walk2 (hY : Yields l N lo J Jx Kp W1) (w : World) (p : Nat) (f : Nat → Int) (base off : Int) (pre : List (Int × Int)) (hN : NodeR W1 lo 2 p f) (hKw : Kp W1 w) (hb0 : 0 ≤ base) (hb1 : base + 512 ≤ 512) (hJ : J pre w) (hl : (pre ++ itemsOf f base 512 off).length ≤ N) :
    Calls Try.prog 40 #[.pointer (some ⟨p, 0, none⟩), .int .i64 base, .int .i64 64, .int .i64 off, .func (.yield l) #[] #[]] w (WalkPost J Jx Kp W1 (pre ++ itemsOf f base 512 off)) := by
  obtain ⟨hlo, ch, hB, hc⟩ := hN
  have HC := hide hc
  clear hc
  have HY := hide hY
  have HJ := hide hJ
  have HL := hide hl
  have HKW := hide hKw
  clear hJ hl hY hKw
  refine callsIn_wide.1 (callsIn_of_wp (n := 5) Try.func40 rfl trivial ?_ rfl)
  simp only [Try.ntmps40, List.size_toArray, List.length_cons, List.length_nil, Nat.reduceAdd, Nat.reduceSub, Array.replicate_succ, Array.replicate_zero, List.push_toArray, List.append_toArray, List.nil_append, List.cons_append]
  gi_wp2
  gi_loopw [14] (fun i wr => ∃ k : Nat, k ≤ 8 ∧ i = .int .i64 k ∧ J (pre ++ itemsOf f base (k * 64) off) wr ∧ Kp W1 wr) (fun i _ => 8 - (intOf i).toNat)
  case atStart => exact ⟨0, by omega, rfl, by rw [Nat.zero_mul, itemsOf_zero, List.append_nil]; exact HJ.out, HKW.out⟩
  case round =>
    obtain ⟨k, hk8, rfl, hJ, hK⟩ := hrel
    have HJ := hide hJ
    have HK := hide hK
    clear hJ hK
    by_cases hk : k < 8
    · have hki : (k : Int) < 8 := by omega
      have hadd := itemsOf_add f base (k * 64) 64 off
      have hadd2 : itemsOf f base (k * 64 + 64) off = itemsOf f base ((k + 1) * 64) off := by rw [Nat.succ_mul]
      rw [hadd2] at hadd
      have HA := hide hadd
      clear hadd hadd2
      have skip : itemsOf (fun i => f (k * 64 + i)) (base + ((k * 64 : Nat) : Int)) 64 off = [] → J (pre ++ itemsOf f base ((k + 1) * 64) off) wr := fun he => by rw [HA.out, he, List.append_nil]; exact HJ.out
      have SK := hide skip
      clear skip
      by_cases hle : base + (k : Int) * 64 + 64 ≤ off
      · have hs := SK.out (itemsOf_none fun x hx => .inr (by push_cast; omega))
        have HS := hide hs
        clear hs
        gi_wp2
        go_roundw
        case rel => exact ⟨k + 1, by omega, by simp, HS.out, HK.out⟩
        case measure => simp [intOf]; omega
      · have hB2 := HY.out.keep HK.out hlo hB
        have cv : wr.cell? ⟨p, k, none⟩ = some (ptrV (ch k)) := by rw [hB2.cell, nodeCells_ptr _ _ hk]
        have hgo : ¬ base + (k : Int) * 64 + 64 ≤ off := hle
        cases hck : ch k with
        | none =>
          rw [hck] at cv
          have cv' : wr.cell? ⟨p, k, none⟩ = some (.pointer none) := cv
          have hs := SK.out (itemsOf_none fun x hx => .inl ((HC.out k hk).1 hck x hx))
          have HS := hide hs
          clear hs hck hB2 cv
          gi_wp2
          go_roundw
          case rel => exact ⟨k + 1, by omega, by simp, HS.out, HK.out⟩
          case measure => simp [intOf]; omega
        | some q =>
          rw [hck] at cv
          have cv' : wr.cell? ⟨p, k, none⟩ = some (.pointer (some ⟨q, 0, none⟩)) := cv
          have hn := (HC.out k hk).2 q hck
          have hA3 : itemsOf f base 512 off = itemsOf f base ((k + 1) * 64) off ++ itemsOf (fun i => f ((k + 1) * 64 + i)) (base + (((k + 1) * 64 : Nat) : Int)) (512 - (k + 1) * 64) off := by
            rw [← itemsOf_add]
            congr 1
            omega
          have hlen : ((pre ++ itemsOf f base (k * 64) off) ++ itemsOf (fun i => f (k * 64 + i)) (base + ((k * 64 : Nat) : Int)) 64 off).length ≤ N := by
            have := HL.out
            rw [hA3, HA.out] at this
            simp only [List.length_append] at this ⊢
            omega
          have hpx : (pre ++ itemsOf f base (k * 64) off) ++ itemsOf (fun i => f (k * 64 + i)) (base + ((k * 64 : Nat) : Int)) 64 off <+: pre ++ itemsOf f base 512 off := by
            rw [hA3, HA.out]
            simp only [List.append_assoc]
            exact ⟨_, by simp only [List.append_assoc]; rfl⟩
          have hw := walk1 HY.out wr q (fun i => f (k * 64 + i)) (base + ((k * 64 : Nat) : Int)) off (pre ++ itemsOf f base (k * 64) off) hn HK.out (by omega) (by omega) HJ.out hlen
          have eb : base + ((k * 64 : Nat) : Int) = base + (k : Int) * 64 := by push_cast; omega
          rw [show (Value.int .i64 (base + ((k * 64 : Nat) : Int))) = .int .i64 (base + (k : Int) * 64) from by rw [eb]] at hw
          have HW := hide hw
          have HPX := hide hpx
          clear hw hpx hlen hA3 hn hck hB2 cv eb
          gi_wp2_with fail
          refine ⟨trivial, ?_⟩
          refine (callsIn_wide.2 HW.out).mono ?_
          rintro e W3 (⟨rfl, hJ3, hk3⟩ | ⟨z, hz, rfl, hJx3⟩)
          · have HJ3 := hide hJ3
            have HK3 := hide hk3
            clear hJ3 hk3
            gi_wp2
            go_roundw
            case rel => exact ⟨k + 1, by omega, by simp, by rw [HA.out, ← List.append_assoc]; exact HJ3.out, HK3.out⟩
            case measure => simp [intOf]; omega
          · have HJ3 := hide hJx3
            have HZ := hide (hz.trans HPX.out)
            clear hJx3 hz
            gi_wp2
            refine bodyPost_ret (by simp [results, Try.results40, go_sem]; rfl) rfl ?_
            exact .inr ⟨_, HZ.out, rfl, HJ3.out⟩
    · obtain rfl : k = 8 := by omega
      gi_wp2
      refine bodyPost_ret (by simp [results, Try.results40, go_sem]; rfl) rfl ?_
      exact .inl ⟨rfl, HJ.out, HK.out⟩

end
end Go.Proofs.Ytabebkffcmajkaa
