import Derived.Test.YtmamdacmpikdbaaUT0
import Derived.Test.YtmamdacmpikdbaaMx3
import Derived.Laws.BitsLemmas
/-! The walk of upTo: four indexes and four references side by side. -/
namespace Go.Proofs.Ytmamdacmpikdbaa
open Go.RowKit Go.Maps
attribute [local go_sem] quietV loudUpon

theorem arr4_get (f : Nat → Value) (m i : Nat) (hi : i < 4) : (arr4 f m)[i]? = some (if i < m then f i else .pointer none) := by
  have : i = 0 ∨ i = 1 ∨ i = 2 ∨ i = 3 := by omega
  rcases this with rfl | rfl | rfl | rfl <;> rfl
theorem arr4_set (f f' : Nat → Value) (m k : Nat) (v : Value) (hk : k < 4) (hv : v = f' k) (m' : Nat) (hm : ∀ i, i < 4 → i ≠ k → (if i < m then f i else .pointer none) = (if i < m' then f' i else .pointer none)) (hkm : k < m') : (arr4 f m).setIfInBounds k v = arr4 f' m' := by
  apply Array.ext_getElem?
  intro i
  by_cases hi : i < 4
  · rw [arr4_get f' m' i hi, Array.getElem?_setIfInBounds]
    by_cases e : k = i
    · subst e; rw [if_pos rfl, if_pos (by show k < 4; exact hk), if_pos hkm, hv]
    · rw [if_neg e, arr4_get f m i hi]; exact congrArg some (hm i hi (Ne.symm e))
  · have h1 : (arr4 f' m')[i]? = none := Array.getElem?_eq_none (by show 4 ≤ i; omega)
    have h2 : ((arr4 f m).setIfInBounds k v)[i]? = none := Array.getElem?_eq_none (by rw [Array.size_setIfInBounds]; show 4 ≤ i; omega)
    rw [h1, h2]

theorem noRows_blk {w : World} {g : Nat} {t : TypeId} {cs : Array Value} (h : Blk w g t cs) (ht : t ≠ 95) : NoRows w (· = g) := by
  rintro k rfl cs' hk
  unfold Blk at h
  rw [hk] at h
  simp only [Option.some.injEq, Obj.cells.injEq] at h
  exact ht h.2.1.symm
/-- a store into one of the arrays -/
theorem IndexAt.afterStore {w : World} {g b k : Nat} {t : TypeId} {cs : Array Value} {R : List Row} {v : Value} (hI : IndexAt w b R) (h : Blk w g t cs) (ht : t ≠ 61) : IndexAt (w.setCell ⟨g, k, none⟩ v) b R :=
  hI.mod ((Mod.refl (· = g) w).setCell (p := ⟨g, k, none⟩) (.inr rfl) v) fun j h1 h2 e => blk_not_ix h ht hI (by subst e; exact ⟨h1, h2⟩)
theorem RefAt.afterStore {w : World} {g y k : Nat} {t : TypeId} {cs : Array Value} {L : List Row} {v : Value} (hR : RefAt w y L) (h : Blk w g t cs) (ht : t ≠ 81) (ht2 : t ≠ 95) : RefAt (w.setCell ⟨g, k, none⟩ v) y L :=
  hR.mod ((Mod.refl (· = g) w).setCell (p := ⟨g, k, none⟩) (.inr rfl) v) (noRows_blk h ht2) fun e => blk_not_ref h ht hR e.symm
theorem Blk.afterStore {w : World} {g g2 k : Nat} {t2 : TypeId} {cs2 : Array Value} {v : Value} (h : Blk w g2 t2 cs2) (hne : g2 ≠ g) : Blk (w.setCell ⟨g, k, none⟩ v) g2 t2 cs2 :=
  h.mod ((Mod.refl (· = g) w).setCell (p := ⟨g, k, none⟩) (.inr rfl) v) hne
def putSlot (s : Nat → Slot) (k b y : Nat) (R L : List Row) : Nat → Slot := fun i => if i = k then ⟨b, y, R, L⟩ else s i
theorem Slots.put {lo n : Nat} {w w3 w4 : World} {gx gy b y m m' k : Nat} {s : Nat → Slot} {R' L' : List Row} (hS : Slots lo w gx gy s m n) (hk : k < 4) (hmk : (k < m ∧ m' = m) ∨ (k = m ∧ m' = m + 1)) (hg : gx ≠ gy)
    (hm3 : Mod None_ w w3) (hI3 : IndexAt w3 b R') (hb1 : lo ≤ b) (hb2 : w.heap.size ≤ b)
    (hm4 : Mod None_ (w3.setCell ⟨gx, k, none⟩ (ptrI b)) w4) (hR4 : RefAt w4 y L') (hy1 : lo ≤ y) (hy2 : w3.heap.size ≤ y) (hr : Rel R' L') (hl : R'.length ≤ n) :
    Slots lo (w4.setCell ⟨gy, k, none⟩ (ptrR y)) gx gy (putSlot s k b y R' L') m' n := by
  have hS3 := hS.kept hm3
  have hrest : ∀ i, i ≠ k → (i < m ↔ i < m') := fun i hi => by omega
  have hkm : k < m' := by omega
  have hx : Blk (w3.setCell ⟨gx, k, none⟩ (ptrI b)) gx 70 (arr4 (fun i => ptrI (putSlot s k b y R' L' i).b) m') := by
    have := hS3.bx.set_ k (ptrI b)
    rw [arr4_set _ (fun i => ptrI (putSlot s k b y R' L' i).b) m k (ptrI b) hk (by simp [putSlot]) m' (fun i hi hne => ?_) hkm] at this
    · exact this
    · by_cases h : i < m
      · rw [if_pos h, if_pos ((hrest i hne).1 h)]; simp [putSlot, hne]
      · rw [if_neg h, if_neg (fun e => h ((hrest i hne).2 e))]
  have hy0 : Blk (w3.setCell ⟨gx, k, none⟩ (ptrI b)) gy 72 (arr4 (fun i => ptrR (s i).y) m) := hS3.by_.afterStore (Ne.symm hg)
  have hx4 := hx.mod hm4 id
  have hy4 := hy0.mod hm4 id
  have hy5 : Blk (w4.setCell ⟨gy, k, none⟩ (ptrR y)) gy 72 (arr4 (fun i => ptrR (putSlot s k b y R' L' i).y) m') := by
    have := hy4.set_ k (ptrR y)
    rw [arr4_set _ (fun i => ptrR (putSlot s k b y R' L' i).y) m k (ptrR y) hk (by simp [putSlot]) m' (fun i hi hne => ?_) hkm] at this
    · exact this
    · by_cases h : i < m
      · rw [if_pos h, if_pos ((hrest i hne).1 h)]; simp [putSlot, hne]
      · rw [if_neg h, if_neg (fun e => h ((hrest i hne).2 e))]
  have hIm : ∀ {c : Nat} {R : List Row}, IndexAt w3 c R → IndexAt (w4.setCell ⟨gy, k, none⟩ (ptrR y)) c R := fun hI => ((hI.afterStore hS3.bx (by decide)).kept hm4).afterStore hy4 (by decide)
  have hRm : ∀ {c : Nat} {L : List Row}, RefAt w3 c L → RefAt (w4.setCell ⟨gy, k, none⟩ (ptrR y)) c L := fun hR => ((hR.afterStore hS3.bx (by decide) (by decide)).kept hm4).afterStore hy4 (by decide) (by decide)
  have hm3s := hm3.size
  have hin : ∀ i, i < m' → i ≠ k → i < m := fun i hi hne => (hrest i hne).2 hi
  refine ⟨hx4.afterStore hg, hy5, fun i hi => ?_, fun i hi => ?_, fun i hi => ?_, fun i j hi hj hij => ?_, fun i j hi hj hij => ?_, fun i hi => ?_, fun i hi => ?_⟩
  · by_cases e : i = k
    · subst e; simpa [putSlot] using hIm hI3
    · simpa [putSlot, e] using hIm (hS3.ix i (hin i hi e))
  · by_cases e : i = k
    · subst e; simpa [putSlot] using hR4.afterStore hy4 (by decide) (by decide)
    · simpa [putSlot, e] using hRm (hS3.rf i (hin i hi e))
  · by_cases e : i = k
    · subst e; simpa [putSlot] using hr
    · simpa [putSlot, e] using hS.rel i (hin i hi e)
  · by_cases e : i = k
    · by_cases e2 : j = k
      · omega
      · have := (hS.ix j (hin j hj e2)).lt
        simp only [putSlot, e, e2, if_true, if_false]; right; omega
    · by_cases e2 : j = k
      · have := (hS.ix i (hin i hi e)).lt
        simp only [putSlot, e, e2, if_true, if_false]; left; omega
      · simpa [putSlot, e, e2] using hS.apx i j (hin i hi e) (hin j hj e2) hij
  · by_cases e : i = k
    · by_cases e2 : j = k
      · omega
      · have := (hS3.rf j (hin j hj e2)).lt
        simp only [putSlot, e, e2, if_true, if_false]; omega
    · by_cases e2 : j = k
      · have := (hS3.rf i (hin i hi e)).lt
        simp only [putSlot, e, e2, if_true, if_false]; omega
      · simpa [putSlot, e, e2] using hS.apy i j (hin i hi e) (hin j hj e2) hij
  · by_cases e : i = k
    · simpa [putSlot, e] using hl
    · simpa [putSlot, e] using hS.len i (hin i hi e)
  · by_cases e : i = k
    · simp only [putSlot, e, if_true]; exact ⟨hb1, hy1⟩
    · simpa [putSlot, e] using hS.lo i (hin i hi e)
theorem store_other {w : World} {g k g2 i : Nat} {v c : Value} (h : w.cell? ⟨g2, i, none⟩ = some c) (hne : g2 ≠ g) : (w.setCell ⟨g, k, none⟩ v).cell? ⟨g2, i, none⟩ = some c :=
  (World.cell?_of_block (((Mod.refl (· = g) w).setCell (p := ⟨g, k, none⟩) (.inr rfl) v).block g2 (block_lt_of_cell h) hne)).trans h
theorem and3 (n : Int) : bits .and .i64 n 3 = n % 4 := by
  have h3 : (BitVec.ofInt 64 3).toNat = 2 ^ 2 - 1 := by decide
  have hb : (BitVec.ofInt 64 n &&& BitVec.ofInt 64 3).toNat = (n % ((2 ^ 64 : Nat) : Int)).toNat % 2 ^ 2 := by
    rw [BitVec.toNat_and, h3, Nat.and_two_pow_sub_one_eq_mod, BitVec.toNat_ofInt]
  show IntKind.i64.wrap ((BitVec.ofInt 64 n &&& BitVec.ofInt 64 3).toNat : Nat) = n % 4
  rw [hb, IntKind.wrap_i64]
  omega

set_option maxRecDepth 100000 in
set_option maxHeartbeats 4000000 in
theorem upTo_any (w : World) (v : Value) (ops : List OpD) (some_ : Bool) (lo hi : Int) (hO : OpsAt w v ops) :
    Calls Try.prog 32 #[v, .bool some_, .int .i64 lo, .int .i64 hi] w fun e w' => e = .returned (.bool true) ∧ Mod None_ w w' := by
  go_enter Try.func32, Try.ntmps32
  go_wp2_with fail
  refine (first_any w).mono ?_
  rintro e w1 ⟨rfl, hM1⟩
  obtain ⟨gx, hgx⟩ : ∃ g, g = w1.heap.size := ⟨_, rfl⟩
  obtain ⟨w2, hw2⟩ : ∃ w2, w2 = (w1.alloc (.cells #[.pointer none, .pointer none, .pointer none, .pointer none] 70)).alloc (.cells #[.pointer none, .pointer none, .pointer none, .pointer none] 72) := ⟨_, rfl⟩
  have hM2 : Mod None_ w w2 := by rw [hw2]; exact (hM1.alloc _).alloc _
  have hbx : Blk w2 gx 70 (arr4 (fun _ => .pointer none) 0) := by rw [hw2, hgx]; exact (Blk.new w1 70 _).alloc _
  have hby : Blk w2 (gx + 1) 72 (arr4 (fun _ => .pointer none) 0) := by
    have := Blk.new (w1.alloc (.cells #[.pointer none, .pointer none, .pointer none, .pointer none] 70)) 72 (arr4 (fun _ => .pointer none) 0)
    rw [alloc_size, ← hgx] at this
    rw [hw2]; exact this
  have hS : Slots w.heap.size w2 gx (gx + 1) (fun _ => ⟨0, 0, [], []⟩) 0 0 := ⟨hbx, hby, by omega, by omega, by omega, by omega, by omega, by omega, by omega⟩
  have hgxl : w.heap.size ≤ gx := by have := hM1.size; omega
  have HW := hide hw2
  have HG := hide hgx
  clear hbx hby hw2 hgx
  go_wp2_with fail
  rw [← HW.out, ← HG.out]
  clear HW HG
  go_loopg [11] 4 (fun n i wr => ∃ (m : Nat) (s : Nat → Slot), m + n = 4 ∧ i = .int .i64 m ∧ Slots w.heap.size wr gx (gx + 1) s m 0 ∧ Mod None_ w wr)
  case atStart => exact ⟨0, _, by omega, rfl, hS, hM2⟩
  case round =>
    clear hS hM1 hM2
    obtain ⟨m, s, hm, rfl, hS, hM⟩ := hrel
    by_cases hm4 : m < 4
    · have hmi : (m : Int) < 4 := by omega
      go_wp2_with fail
      refine (new_any wr).mono ?_
      rintro e w3 ⟨rfl, hI3, hm3, _⟩
      obtain ⟨b, hb⟩ : ∃ b, b = wr.heap.size := ⟨_, rfl⟩
      rw [← hb] at hI3 ⊢
      have hb1 : wr.heap.size ≤ b := by omega
      have hwm := hM.size
      clear hb
      have hS3 := hS.kept hm3
      have cx : w3.cell? ⟨gx, m, none⟩ = some (.pointer none) := (hS3.bx.cell m).trans (by rw [arr4_get _ _ _ hm4, if_neg (by omega)])
      have fx : w3.frozen? ⟨gx, m, none⟩ = false := hS3.bx.frozen m
      have hm3s := hm3.size
      have hgl := hS.bx.lt
      have HS := hide hS
      have HS3 := hide hS3
      have hMM : Mod None_ w (w3.setCell ⟨gx, m, none⟩ (ptrI b)) := Mod.setCell (S := None_) (hM.trans hm3) (.inl hgxl) _
      clear hS hS3
      go_wp2_with fail
      obtain ⟨w4, hw4⟩ : ∃ w4, w4 = w3.setCell ⟨gx, m, none⟩ (ptrI b) := ⟨_, rfl⟩
      have HW4 := hide hw4
      rw [← hw4] at hMM
      clear hw4
      refine (refNew_any (w3.setCell ⟨gx, m, none⟩ (ptrI b))).mono ?_
      rw [← HW4.out]
      rintro e w5 ⟨rfl, hR5, hm5⟩
      obtain ⟨y, hy⟩ : ∃ y, y = w4.heap.size := ⟨_, rfl⟩
      rw [← hy] at hR5 ⊢
      have hy1 : w3.heap.size ≤ y := by rw [hy, HW4.out]; simp [World.setCell]
      have hbx4 : Blk w4 gx 70 ((arr4 (fun i => ptrI (s i).b) m).setIfInBounds m (ptrI b)) := by rw [HW4.out]; exact HS3.out.bx.set_ m (ptrI b)
      have hby4 : Blk w4 (gx + 1) 72 (arr4 (fun i => ptrR (s i).y) m) := by rw [HW4.out]; exact HS3.out.by_.afterStore (by omega)
      have hby5 := hby4.mod hm5 id
      have cy : w5.cell? ⟨gx + 1, m, none⟩ = some (.pointer none) := (hby5.cell m).trans (by rw [arr4_get _ _ _ hm4, if_neg (by omega)])
      have fy : w5.frozen? ⟨gx + 1, m, none⟩ = false := hby5.frozen m
      have hbx6 : Blk (w5.setCell ⟨gx + 1, m, none⟩ (ptrR y)) gx 70 ((arr4 (fun i => ptrI (s i).b) m).setIfInBounds m (ptrI b)) := (hbx4.mod hm5 id).afterStore (by omega)
      have c6 : (w5.setCell ⟨gx + 1, m, none⟩ (ptrR y)).cell? ⟨gx, m, none⟩ = some (.pointer (some ⟨b + 3, 0, none⟩)) := (hbx6.cell m).trans (by rw [Array.getElem?_setIfInBounds, if_pos rfl, if_pos (by show m < 4; exact hm4)]; rfl)
      have hMf : Mod None_ w (w5.setCell ⟨gx + 1, m, none⟩ (ptrR y)) := Mod.setCell (S := None_) (hMM.trans hm5) (.inl (by simp; omega)) _
      have hSf := Slots.put (m' := m + 1) HS.out hm4 (.inr ⟨rfl, rfl⟩) (by omega) hm3 hI3 (by omega) hb1 (by rw [← HW4.out]; exact hm5) hR5 (by omega) hy1 rel_nil (Nat.zero_le _)
      have HSF := hide hSf
      have HMF := hide hMf
      have c6' : (w5.setCell ⟨gx + 1, m, none⟩ (.pointer (some ⟨y, 0, none⟩))).cell? ⟨gx, m, none⟩ = some (.pointer (some ⟨b + 3, 0, none⟩)) := c6
      clear hy hbx4 hby4 hby5 hbx6 c6 hMf hSf hMM hm5 hR5 HW4 HS3 cx fx hI3 hm3
      go_wp2
      go_roundg (gk - 1)
      case measure => omega
      case rel => exact ⟨m + 1, _, by omega, by go_num, HSF.out, HMF.out⟩
    · obtain rfl : m = 4 := by omega
      have hmi : ¬ ((4 : Nat) : Int) < 4 := by omega
      obtain ⟨A, c, rfl, hol, hok, hoc⟩ := hO
      have HOK := hide hok
      have HOC := hide hoc
      clear hok hoc
      go_wp2_with fail
      go_loopg [12, 13, 14, 15] ops.length (fun n i o mv ok wr => ∃ (k : Nat) (s : Nat → Slot), k + n = ops.length ∧ i = .int .i64 k ∧ Slots w.heap.size wr gx (gx + 1) s 4 k ∧ Mod None_ w wr)
      case atStart => exact ⟨0, s, by omega, rfl, hS, hM⟩
      case round =>
        clear hS hM hmi hm
        obtain ⟨k, s, hk, rfl, hS, hM⟩ := hrel
        by_cases hkl : k < ops.length
        · have hki : (k : Int) < ops.length := by omega
          obtain ⟨g, o, rfl, hg, hcc⟩ := HOC.out (by omega)
          obtain ⟨c0, c1, c2, c3, c4, c5⟩ := hcc k hkl
          have hxo := HOK.out ops[k] (List.getElem_mem hkl)
          obtain ⟨x, hx⟩ : ∃ x, x = ops[k] := ⟨_, rfl⟩
          rw [← hx] at c0 c1 c2 c3 c4 c5 hxo
          have hb6 := hM.block g hg id
          replace c0 := (World.cell?_of_block hb6).trans c0
          replace c1 := (World.cell?_of_block hb6).trans c1
          replace c2 := (World.cell?_of_block hb6).trans c2
          replace c3 := (World.cell?_of_block hb6).trans c3
          replace c4 := (World.cell?_of_block hb6).trans c4
          replace c5 := (World.cell?_of_block hb6).trans c5
          have HK := hide hk
          clear hcc hx hk hb6
          obtain ⟨g5, hg5⟩ : ∃ g5, g5 = wr.heap.size := ⟨_, rfl⟩
          obtain ⟨w3, hw3⟩ : ∃ w3, w3 = wr.alloc (.cells #[.int .i64 x.kind, .int .i64 x.a, .int .i64 x.b, .int .i64 x.dir, .string x.name, .int .i64 x.ino] 41) := ⟨_, rfl⟩
          have hB : Blk w3 g5 41 #[.int .i64 x.kind, .int .i64 x.a, .int .i64 x.b, .int .i64 x.dir, .string x.name, .int .i64 x.ino] := by rw [hw3, hg5]; exact Blk.new _ _ _
          have hS3 : Slots w.heap.size w3 gx (gx + 1) s 4 k := by rw [hw3]; exact hS.kept ((Mod.refl None_ wr).alloc _)
          have hM3 : Mod None_ w w3 := by rw [hw3]; exact hM.alloc _
          have d0 : w3.cell? ⟨g5, 0, none⟩ = some (.int .i64 x.kind) := hB.cell 0
          have hg5l : gx + 1 < g5 := by rw [hg5]; exact hS.by_.lt
          have HW3 := hide hw3
          have HG5 := hide hg5
          have HB := hide hB
          have HS := hide hS3
          clear hw3 hg5 hB hS hS3 hM
          by_cases hk9 : x.kind = 9
          · have e9 : ((x.kind : Int) == 9) = true := by rw [hk9]; rfl
            obtain ⟨ka, hka⟩ : ∃ ka : Nat, ka = (x.a % 4).toNat := ⟨_, rfl⟩
            obtain ⟨kb, hkb⟩ : ∃ kb : Nat, kb = (x.b % 4).toNat := ⟨_, rfl⟩
            have ha : bits .and .i64 x.a 3 = (ka : Int) := by rw [and3]; omega
            have hb : bits .and .i64 x.b 3 = (kb : Int) := by rw [and3]; omega
            have hka4 : ka < 4 := by omega
            have hkb4 : kb < 4 := by omega
            have hkai : (ka : Int) < 4 := by omega
            have hkbi : (kb : Int) < 4 := by omega
            clear hka hkb
            have hM0 := hM3
            clear hM3
            have d1 : w3.cell? ⟨g5, 1, none⟩ = some (.int .i64 x.a) := HB.out.cell 1
            have d2 : w3.cell? ⟨g5, 2, none⟩ = some (.int .i64 x.b) := HB.out.cell 2
            have dx : w3.cell? ⟨gx, ka, none⟩ = some (.pointer (some ⟨(s ka).b + 3, 0, none⟩)) := (HS.out.bx.cell ka).trans (by rw [arr4_get _ _ _ hka4, if_pos hka4]; rfl)
            go_wp2_with fail
            have HW9 : wr.alloc (.cells #[.int .i64 9, .int .i64 x.a, .int .i64 x.b, .int .i64 x.dir, .string x.name, .int .i64 x.ino] 41) = w3 := by rw [HW3.out, hk9]
            rw [HW9, ← HG5.out]
            clear HW9
            refine region_txw 10 [(true, 0), (true, 1), (true, 2), (true, 3), (true, 4), (true, 5), (true, 6), (true, 7), (false, 8), (true, 9), (false, 10)] (fun w' => w'.cell? ⟨g5, 1, none⟩ = some (.int .i64 x.a) ∧ w'.cell? ⟨g5, 2, none⟩ = some (.int .i64 x.b) ∧ w'.cell? ⟨gx, ka, none⟩ = some (.pointer (some ⟨(s ka).b + 3, 0, none⟩))) (by kernel_rfl) (by kernel_rfl) ?_
            rintro w4 hw4
            have hS4 : Slots w.heap.size w4 gx (gx + 1) s 4 k := by rw [hw4]; exact HS.out.kept ((Mod.refl None_ w3).drew)
            have hM4 : Mod None_ w w4 := by rw [hw4]; exact hM0.drew
            replace d1 : w4.cell? ⟨g5, 1, none⟩ = some (.int .i64 x.a) := by rw [hw4]; exact d1
            replace d2 : w4.cell? ⟨g5, 2, none⟩ = some (.int .i64 x.b) := by rw [hw4]; exact d2
            replace dx : w4.cell? ⟨gx, ka, none⟩ = some (.pointer (some ⟨(s ka).b + 3, 0, none⟩)) := by rw [hw4]; exact dx
            clear hw4 d0 HB HS HW3 HG5 hM0
            refine ⟨⟨d1, d2, dx⟩, ?_⟩
            have HS4 := hide hS4
            have HM4 := hide hM4
            clear hS4 hM4
            iterate 8 (refine txw_quiet rfl (fun w' ⟨i3, i4, i5⟩ K hK => by go_simp; exact hK) ?_; go_frame)
            refine txw_loud rfl (fun K hK => ?_)
            go_simp
            have hlk := HS4.out.len ka hka4
            refine (copyIx_any w4 (s ka).b (s ka).R (by omega) (HS4.out.ix ka hka4)).mono ?_
            rintro e w5 ⟨rfl, hI5, hm5⟩
            obtain ⟨b, hb⟩ : ∃ b, b = w4.heap.size := ⟨_, rfl⟩
            rw [← hb] at hI5 ⊢
            have hb1 : w4.heap.size ≤ b := by omega
            have hb2 : w.heap.size ≤ b := by have := HM4.out.size; omega
            clear hb
            have hS5 := HS4.out.kept hm5
            have cx : w5.cell? ⟨gx, kb, none⟩ = some (.pointer (some ⟨(s kb).b + 3, 0, none⟩)) := (hS5.bx.cell kb).trans (by rw [arr4_get _ _ _ hkb4, if_pos hkb4]; rfl)
            have fx : w5.frozen? ⟨gx, kb, none⟩ = false := hS5.bx.frozen kb
            replace dx : w5.cell? ⟨gx, ka, none⟩ = some (.pointer (some ⟨(s ka).b + 3, 0, none⟩)) := (hS5.bx.cell ka).trans (by rw [arr4_get _ _ _ hka4, if_pos hka4]; rfl)
            replace d1 : w5.cell? ⟨g5, 1, none⟩ = some (.int .i64 x.a) := (World.cell?_of_block (hm5.block g5 (block_lt_of_cell d1) id)).trans d1
            replace d2 : w5.cell? ⟨g5, 2, none⟩ = some (.int .i64 x.b) := (World.cell?_of_block (hm5.block g5 (block_lt_of_cell d2) id)).trans d2
            have HS5 := hide hS5
            have HI5 := hide hI5
            have HM5 := hide hm5
            clear hS5 hI5 hm5
            refine ⟨_, rfl, ⟨d1, d2, dx⟩, hK _ _ ?_⟩
            clear hK K
            try go_frame
            refine txw_quiet rfl (fun w' ⟨i3, i4, i5⟩ K hK => by go_simp; exact hK) ?_
            go_frame
            refine txw_loud rfl (fun K hK => ?_)
            go_simp
            refine hK _ _ ?_
            clear hK K
            try go_frame
            refine txw_nil ?_
            obtain ⟨w6, hw6⟩ : ∃ w6, w6 = w5.setCell ⟨gx, kb, none⟩ (ptrI b) := ⟨_, rfl⟩
            have e6 : w5.setCell ⟨gx, kb, none⟩ (.pointer (some ⟨b + 3, 0, none⟩)) = w6 := hw6.symm
            rw [e6]
            replace d1 : w6.cell? ⟨g5, 1, none⟩ = some (.int .i64 x.a) := by rw [hw6]; exact store_other d1 (by omega)
            replace d2 : w6.cell? ⟨g5, 2, none⟩ = some (.int .i64 x.b) := by rw [hw6]; exact store_other d2 (by omega)
            have hB6 : Blk w6 (gx + 1) 72 (arr4 (fun i => ptrR (s i).y) 4) := by rw [hw6]; exact HS5.out.by_.afterStore (by omega)
            have hR6 : RefAt w6 (s ka).y (s ka).L := by rw [hw6]; exact (HS5.out.rf ka hka4).afterStore HS5.out.bx (by decide) (by decide)
            have dy : w6.cell? ⟨gx + 1, ka, none⟩ = some (.pointer (some ⟨(s ka).y, 0, none⟩)) := (hB6.cell ka).trans (by rw [arr4_get _ _ _ hka4, if_pos hka4]; rfl)
            have HW6 := hide hw6
            have HB6 := hide hB6
            have HR6 := hide hR6
            clear hw6 e6 hB6 hR6 cx fx dx
            go_wp2_with fail
            refine region_txw 10 [(true, 0), (true, 1), (true, 2), (true, 3), (true, 4), (true, 5), (true, 6), (true, 7), (false, 8), (true, 9), (false, 10)] (fun w' => w'.cell? ⟨g5, 1, none⟩ = some (.int .i64 x.a) ∧ w'.cell? ⟨g5, 2, none⟩ = some (.int .i64 x.b) ∧ w'.cell? ⟨gx + 1, ka, none⟩ = some (.pointer (some ⟨(s ka).y, 0, none⟩))) (by kernel_rfl) (by kernel_rfl) ?_
            rintro w7 hw7
            have hM7 : Mod None_ w6 w7 := by rw [hw7]; exact (Mod.refl None_ w6).drew
            replace d1 : w7.cell? ⟨g5, 1, none⟩ = some (.int .i64 x.a) := by rw [hw7]; exact d1
            replace d2 : w7.cell? ⟨g5, 2, none⟩ = some (.int .i64 x.b) := by rw [hw7]; exact d2
            replace dy : w7.cell? ⟨gx + 1, ka, none⟩ = some (.pointer (some ⟨(s ka).y, 0, none⟩)) := by rw [hw7]; exact dy
            clear hw7
            refine ⟨⟨d1, d2, dy⟩, ?_⟩
            have HM7 := hide hM7
            clear hM7
            iterate 8 (refine txw_quiet rfl (fun w' ⟨i3, i4, i5⟩ K hK => by go_simp; exact hK) ?_; go_frame)
            refine txw_loud rfl (fun K hK => ?_)
            go_simp
            refine (refCopy_any w7 (s ka).y (s ka).L (HR6.out.kept HM7.out)).mono ?_
            rintro e w8 ⟨rfl, hm8, hR8⟩
            obtain ⟨y, hy⟩ : ∃ y, y = w7.heap.size := ⟨_, rfl⟩
            rw [← hy] at hR8 ⊢
            have hy1 : w5.heap.size ≤ y := by have := HM7.out.size; rw [HW6.out] at this; simp [World.setCell] at this; omega
            have hy2 : w.heap.size ≤ y := by have := HM4.out.size; have := HM5.out.size; omega
            clear hy
            have hM8 := HM7.out.trans hm8
            have hB8 := HB6.out.mod hM8 id
            have cy : w8.cell? ⟨gx + 1, kb, none⟩ = some (.pointer (some ⟨(s kb).y, 0, none⟩)) := (hB8.cell kb).trans (by rw [arr4_get _ _ _ hkb4, if_pos hkb4]; rfl)
            have fy : w8.frozen? ⟨gx + 1, kb, none⟩ = false := hB8.frozen kb
            replace dy : w8.cell? ⟨gx + 1, ka, none⟩ = some (.pointer (some ⟨(s ka).y, 0, none⟩)) := (hB8.cell ka).trans (by rw [arr4_get _ _ _ hka4, if_pos hka4]; rfl)
            replace d1 : w8.cell? ⟨g5, 1, none⟩ = some (.int .i64 x.a) := (World.cell?_of_block (hm8.block g5 (block_lt_of_cell d1) id)).trans d1
            replace d2 : w8.cell? ⟨g5, 2, none⟩ = some (.int .i64 x.b) := (World.cell?_of_block (hm8.block g5 (block_lt_of_cell d2) id)).trans d2
            have hSf := Slots.put (m' := 4) HS4.out hkb4 (.inl ⟨hkb4, rfl⟩) (by omega) HM5.out HI5.out hb2 hb1 (by rw [← HW6.out]; exact hM8) hR8 hy2 hy1 (HS4.out.rel ka hka4) (HS4.out.len ka hka4)
            have hMf : Mod None_ w (w8.setCell ⟨gx + 1, kb, none⟩ (ptrR y)) := by
              refine Mod.setCell (S := None_) (Mod.trans ?_ hM8) (.inl (by simp; omega)) _
              rw [HW6.out]
              exact Mod.setCell (S := None_) (HM4.out.trans HM5.out) (.inl hgxl) _
            have HSF := hide hSf
            have HMF := hide hMf
            clear hSf hMf hM8 hB8 hR8 hm8
            refine ⟨_, rfl, ⟨d1, d2, dy⟩, hK _ _ ?_⟩
            clear hK K
            try go_frame
            refine txw_quiet rfl (fun w' ⟨i3, i4, i5⟩ K hK => by go_simp; exact hK) ?_
            go_frame
            refine txw_loud rfl (fun K hK => ?_)
            go_simp
            refine hK _ _ ?_
            clear hK K
            try go_frame
            refine txw_nil ?_
            obtain ⟨w9, hw9⟩ : ∃ w9, w9 = w8.setCell ⟨gx + 1, kb, none⟩ (ptrR y) := ⟨_, rfl⟩
            have e9' : w8.setCell ⟨gx + 1, kb, none⟩ (.pointer (some ⟨y, 0, none⟩)) = w9 := hw9.symm
            rw [e9']
            replace HSF : Hid (Slots w.heap.size w9 gx (gx + 1) (putSlot s kb b y (s ka).R (s ka).L) 4 k) := by rw [hw9]; exact HSF
            replace HMF : Hid (Mod None_ w w9) := by rw [hw9]; exact HMF
            replace d2 : w9.cell? ⟨g5, 2, none⟩ = some (.int .i64 x.b) := by rw [hw9]; exact store_other d2 (by omega)
            have cx : w9.cell? ⟨gx, kb, none⟩ = some (.pointer (some ⟨b + 3, 0, none⟩)) := (HSF.out.bx.cell kb).trans (by rw [arr4_get _ _ _ hkb4, if_pos hkb4]; simp [putSlot, ptrI])
            clear hw9 e9' cy fy dy d1 HW6 HB6 HR6 HM7 HI5 HM5 HS4 HM4 HS5
            go_wp2
            go_roundg (gk - 1)
            case measure => have := HK.out; omega
            case rel => exact ⟨k + 1, _, by have := HK.out; omega, by go_num, HSF.out.mono (Nat.le_succ k), HMF.out⟩
          · have e9 : ((x.kind : Int) == 9) = false := by rw [beq_eq_false_iff_ne]; exact hk9
            obtain ⟨ka, hka⟩ : ∃ ka : Nat, ka = (x.a % 4).toNat := ⟨_, rfl⟩
            have ha : bits .and .i64 x.a 3 = (ka : Int) := by rw [and3]; omega
            have hka4 : ka < 4 := by omega
            have hkai : (ka : Int) < 4 := by omega
            clear hka hk9
            have HM3 := hide hM3
            clear hM3
            by_cases h1 : x.kind = 1
            · have e1 : ((x.kind : Int) == 1) = true := by rw [h1]; rfl
              clear h1
              go_wp2_with fail
              rw [← HW3.out, ← HG5.out]
              refine region_mxw [(true, 0), (true, 1), (true, 2), (true, 3), (true, 4), (true, 5), (true, 6), (true, 7), (true, 8), (true, 9), (true, 10), (false, 11), (true, 12)] (fun w' => w'.cell? ⟨g5, 0, none⟩ = some (.int .i64 x.kind) ∧ w'.cell? ⟨g5, 1, none⟩ = some (.int .i64 x.a) ∧ w'.cell? ⟨g5, 2, none⟩ = some (.int .i64 x.b) ∧ w'.cell? ⟨g5, 3, none⟩ = some (.int .i64 x.dir) ∧ w'.cell? ⟨g5, 4, none⟩ = some (.string x.name) ∧ w'.cell? ⟨g5, 5, none⟩ = some (.int .i64 x.ino) ∧ w'.cell? ⟨gx, ka, none⟩ = some (.pointer (some ⟨(s ka).b + 3, 0, none⟩)) ∧ w'.cell? ⟨gx + 1, ka, none⟩ = some (.pointer (some ⟨(s ka).y, 0, none⟩))) (by kernel_rfl) (by kernel_rfl) ?_
              rintro w4 hw4
              have hS4 : Slots w.heap.size w4 gx (gx + 1) s 4 k := by rw [hw4]; exact HS.out.kept ((Mod.refl None_ w3).drew)
              have hM4 : Mod None_ w w4 := by rw [hw4]; exact HM3.out.drew
              have hB4 : Blk w4 g5 41 #[.int .i64 x.kind, .int .i64 x.a, .int .i64 x.b, .int .i64 x.dir, .string x.name, .int .i64 x.ino] := by rw [hw4]; exact HB.out.mod ((Mod.refl None_ w3).drew) id
              clear hw4 d0 HB HS HW3 HG5 HM3
              refine ⟨⟨hB4.cell 0, hB4.cell 1, hB4.cell 2, hB4.cell 3, hB4.cell 4, hB4.cell 5, (hS4.bx.cell ka).trans (by rw [arr4_get _ _ _ hka4, if_pos hka4]; rfl), (hS4.by_.cell ka).trans (by rw [arr4_get _ _ _ hka4, if_pos hka4]; rfl)⟩, ?_⟩
              have HB4 := hide hB4
              have HS4 := hide hS4
              have HM4 := hide hM4
              clear hB4 hS4 hM4
              iterate 11 (refine mxw_quiet rfl (fun w' ⟨i0, i1, i2, i3, i4, i5, i6, i7⟩ K hK => by go_simp; exact hK) ?_; go_frame)
              refine mxw_loud rfl (fun K hK => ?_)
              go_simp
              have hlk := HS4.out.len ka hka4
              refine (plays_any w4 (s ka).b (s ka).y (s ka).R (s ka).L x hxo (HS4.out.rel ka hka4) (by omega) (HS4.out.ix ka hka4) (HS4.out.rf ka hka4)).mono ?_
              rintro e w5 ⟨rfl, R', L', hl', hr', hI', hR', hm'⟩
              have hS5 := HS4.out.step hka4 hm' hr' hI' hR' (by omega)
              have hM5 := HS4.out.mod_none hka4 HM4.out (Nat.le_refl _) hm'
              have hB5 := HB4.out.mod hm' (fun e => by
                rcases e with e | e
                · exact blk_not_ix HB4.out (by decide) (HS4.out.ix ka hka4) e
                · exact blk_not_ref HB4.out (by decide) (HS4.out.rf ka hka4) e)
              refine ⟨_, rfl, ⟨hB5.cell 0, hB5.cell 1, hB5.cell 2, hB5.cell 3, hB5.cell 4, hB5.cell 5, (hS5.bx.cell ka).trans (by rw [arr4_get _ _ _ hka4, if_pos hka4]; simp [ptrI]), (hS5.by_.cell ka).trans (by rw [arr4_get _ _ _ hka4, if_pos hka4]; simp [ptrR])⟩, hK _ _ ?_⟩
              have HS5 := hide hS5
              have HM5 := hide hM5
              clear hK K hS5 hM5 hB5 hr' hI' hR' hm' HS4 HM4 HB4
              try go_frame
              refine mxw_quiet rfl (fun w' ⟨i0, i1, i2, i3, i4, i5, i6, i7⟩ K hK => by go_simp; exact hK) ?_
              go_frame
              refine mxw_nil ?_
              go_wp2
              go_roundg (gk - 1)
              case measure => have := HK.out; omega
              case rel => exact ⟨k + 1, _, by have := HK.out; omega, by go_num, HS5.out, HM5.out⟩
            have e1 : ((x.kind : Int) == 1) = false := by rw [beq_eq_false_iff_ne]; exact h1
            clear h1
            by_cases h2 : x.kind = 2
            · have e2 : ((x.kind : Int) == 2) = true := by rw [h2]; rfl
              clear h2
              go_wp2_with fail
              rw [← HW3.out, ← HG5.out]
              refine region_mxw [(true, 0), (true, 1), (true, 2), (true, 3), (true, 4), (true, 5), (true, 6), (true, 7), (true, 8), (true, 9), (true, 10), (false, 11), (true, 12)] (fun w' => w'.cell? ⟨g5, 0, none⟩ = some (.int .i64 x.kind) ∧ w'.cell? ⟨g5, 1, none⟩ = some (.int .i64 x.a) ∧ w'.cell? ⟨g5, 2, none⟩ = some (.int .i64 x.b) ∧ w'.cell? ⟨g5, 3, none⟩ = some (.int .i64 x.dir) ∧ w'.cell? ⟨g5, 4, none⟩ = some (.string x.name) ∧ w'.cell? ⟨g5, 5, none⟩ = some (.int .i64 x.ino) ∧ w'.cell? ⟨gx, ka, none⟩ = some (.pointer (some ⟨(s ka).b + 3, 0, none⟩)) ∧ w'.cell? ⟨gx + 1, ka, none⟩ = some (.pointer (some ⟨(s ka).y, 0, none⟩))) (by kernel_rfl) (by kernel_rfl) ?_
              rintro w4 hw4
              have hS4 : Slots w.heap.size w4 gx (gx + 1) s 4 k := by rw [hw4]; exact HS.out.kept ((Mod.refl None_ w3).drew)
              have hM4 : Mod None_ w w4 := by rw [hw4]; exact HM3.out.drew
              have hB4 : Blk w4 g5 41 #[.int .i64 x.kind, .int .i64 x.a, .int .i64 x.b, .int .i64 x.dir, .string x.name, .int .i64 x.ino] := by rw [hw4]; exact HB.out.mod ((Mod.refl None_ w3).drew) id
              clear hw4 d0 HB HS HW3 HG5 HM3
              refine ⟨⟨hB4.cell 0, hB4.cell 1, hB4.cell 2, hB4.cell 3, hB4.cell 4, hB4.cell 5, (hS4.bx.cell ka).trans (by rw [arr4_get _ _ _ hka4, if_pos hka4]; rfl), (hS4.by_.cell ka).trans (by rw [arr4_get _ _ _ hka4, if_pos hka4]; rfl)⟩, ?_⟩
              have HB4 := hide hB4
              have HS4 := hide hS4
              have HM4 := hide hM4
              clear hB4 hS4 hM4
              iterate 11 (refine mxw_quiet rfl (fun w' ⟨i0, i1, i2, i3, i4, i5, i6, i7⟩ K hK => by go_simp; exact hK) ?_; go_frame)
              refine mxw_loud rfl (fun K hK => ?_)
              go_simp
              have hlk := HS4.out.len ka hka4
              refine (plays_any w4 (s ka).b (s ka).y (s ka).R (s ka).L x hxo (HS4.out.rel ka hka4) (by omega) (HS4.out.ix ka hka4) (HS4.out.rf ka hka4)).mono ?_
              rintro e w5 ⟨rfl, R', L', hl', hr', hI', hR', hm'⟩
              have hS5 := HS4.out.step hka4 hm' hr' hI' hR' (by omega)
              have hM5 := HS4.out.mod_none hka4 HM4.out (Nat.le_refl _) hm'
              have hB5 := HB4.out.mod hm' (fun e => by
                rcases e with e | e
                · exact blk_not_ix HB4.out (by decide) (HS4.out.ix ka hka4) e
                · exact blk_not_ref HB4.out (by decide) (HS4.out.rf ka hka4) e)
              refine ⟨_, rfl, ⟨hB5.cell 0, hB5.cell 1, hB5.cell 2, hB5.cell 3, hB5.cell 4, hB5.cell 5, (hS5.bx.cell ka).trans (by rw [arr4_get _ _ _ hka4, if_pos hka4]; simp [ptrI]), (hS5.by_.cell ka).trans (by rw [arr4_get _ _ _ hka4, if_pos hka4]; simp [ptrR])⟩, hK _ _ ?_⟩
              have HS5 := hide hS5
              have HM5 := hide hM5
              clear hK K hS5 hM5 hB5 hr' hI' hR' hm' HS4 HM4 HB4
              try go_frame
              refine mxw_quiet rfl (fun w' ⟨i0, i1, i2, i3, i4, i5, i6, i7⟩ K hK => by go_simp; exact hK) ?_
              go_frame
              refine mxw_nil ?_
              go_wp2
              go_roundg (gk - 1)
              case measure => have := HK.out; omega
              case rel => exact ⟨k + 1, _, by have := HK.out; omega, by go_num, HS5.out, HM5.out⟩
            have e2 : ((x.kind : Int) == 2) = false := by rw [beq_eq_false_iff_ne]; exact h2
            clear h2
            by_cases h8 : x.kind = 8
            · have e8 : ((x.kind : Int) == 8) = true := by rw [h8]; rfl
              clear h8
              go_wp2_with fail
              rw [← HW3.out, ← HG5.out]
              refine region_mxw [(true, 0), (true, 1), (true, 2), (true, 3), (true, 4), (true, 5), (true, 6), (true, 7), (true, 8), (true, 9), (true, 10), (false, 11), (true, 12)] (fun w' => w'.cell? ⟨g5, 0, none⟩ = some (.int .i64 x.kind) ∧ w'.cell? ⟨g5, 1, none⟩ = some (.int .i64 x.a) ∧ w'.cell? ⟨g5, 2, none⟩ = some (.int .i64 x.b) ∧ w'.cell? ⟨g5, 3, none⟩ = some (.int .i64 x.dir) ∧ w'.cell? ⟨g5, 4, none⟩ = some (.string x.name) ∧ w'.cell? ⟨g5, 5, none⟩ = some (.int .i64 x.ino) ∧ w'.cell? ⟨gx, ka, none⟩ = some (.pointer (some ⟨(s ka).b + 3, 0, none⟩)) ∧ w'.cell? ⟨gx + 1, ka, none⟩ = some (.pointer (some ⟨(s ka).y, 0, none⟩))) (by kernel_rfl) (by kernel_rfl) ?_
              rintro w4 hw4
              have hS4 : Slots w.heap.size w4 gx (gx + 1) s 4 k := by rw [hw4]; exact HS.out.kept ((Mod.refl None_ w3).drew)
              have hM4 : Mod None_ w w4 := by rw [hw4]; exact HM3.out.drew
              have hB4 : Blk w4 g5 41 #[.int .i64 x.kind, .int .i64 x.a, .int .i64 x.b, .int .i64 x.dir, .string x.name, .int .i64 x.ino] := by rw [hw4]; exact HB.out.mod ((Mod.refl None_ w3).drew) id
              clear hw4 d0 HB HS HW3 HG5 HM3
              refine ⟨⟨hB4.cell 0, hB4.cell 1, hB4.cell 2, hB4.cell 3, hB4.cell 4, hB4.cell 5, (hS4.bx.cell ka).trans (by rw [arr4_get _ _ _ hka4, if_pos hka4]; rfl), (hS4.by_.cell ka).trans (by rw [arr4_get _ _ _ hka4, if_pos hka4]; rfl)⟩, ?_⟩
              have HB4 := hide hB4
              have HS4 := hide hS4
              have HM4 := hide hM4
              clear hB4 hS4 hM4
              iterate 11 (refine mxw_quiet rfl (fun w' ⟨i0, i1, i2, i3, i4, i5, i6, i7⟩ K hK => by go_simp; exact hK) ?_; go_frame)
              refine mxw_loud rfl (fun K hK => ?_)
              go_simp
              have hlk := HS4.out.len ka hka4
              refine (plays_any w4 (s ka).b (s ka).y (s ka).R (s ka).L x hxo (HS4.out.rel ka hka4) (by omega) (HS4.out.ix ka hka4) (HS4.out.rf ka hka4)).mono ?_
              rintro e w5 ⟨rfl, R', L', hl', hr', hI', hR', hm'⟩
              have hS5 := HS4.out.step hka4 hm' hr' hI' hR' (by omega)
              have hM5 := HS4.out.mod_none hka4 HM4.out (Nat.le_refl _) hm'
              have hB5 := HB4.out.mod hm' (fun e => by
                rcases e with e | e
                · exact blk_not_ix HB4.out (by decide) (HS4.out.ix ka hka4) e
                · exact blk_not_ref HB4.out (by decide) (HS4.out.rf ka hka4) e)
              refine ⟨_, rfl, ⟨hB5.cell 0, hB5.cell 1, hB5.cell 2, hB5.cell 3, hB5.cell 4, hB5.cell 5, (hS5.bx.cell ka).trans (by rw [arr4_get _ _ _ hka4, if_pos hka4]; simp [ptrI]), (hS5.by_.cell ka).trans (by rw [arr4_get _ _ _ hka4, if_pos hka4]; simp [ptrR])⟩, hK _ _ ?_⟩
              have HS5 := hide hS5
              have HM5 := hide hM5
              clear hK K hS5 hM5 hB5 hr' hI' hR' hm' HS4 HM4 HB4
              try go_frame
              refine mxw_quiet rfl (fun w' ⟨i0, i1, i2, i3, i4, i5, i6, i7⟩ K hK => by go_simp; exact hK) ?_
              go_frame
              refine mxw_nil ?_
              go_wp2
              go_roundg (gk - 1)
              case measure => have := HK.out; omega
              case rel => exact ⟨k + 1, _, by have := HK.out; omega, by go_num, HS5.out, HM5.out⟩
            have e8 : ((x.kind : Int) == 8) = false := by rw [beq_eq_false_iff_ne]; exact h8
            clear h8
            by_cases hlo : lo ≤ x.kind
            · by_cases hhi : x.kind ≤ hi
              · go_wp2_with fail
                rw [← HW3.out, ← HG5.out]
                refine region_mxw [(true, 0), (true, 1), (true, 2), (true, 3), (true, 4), (true, 5), (true, 6), (true, 7), (true, 8), (true, 9), (true, 10), (false, 11), (true, 12)] (fun w' => w'.cell? ⟨g5, 0, none⟩ = some (.int .i64 x.kind) ∧ w'.cell? ⟨g5, 1, none⟩ = some (.int .i64 x.a) ∧ w'.cell? ⟨g5, 2, none⟩ = some (.int .i64 x.b) ∧ w'.cell? ⟨g5, 3, none⟩ = some (.int .i64 x.dir) ∧ w'.cell? ⟨g5, 4, none⟩ = some (.string x.name) ∧ w'.cell? ⟨g5, 5, none⟩ = some (.int .i64 x.ino) ∧ w'.cell? ⟨gx, ka, none⟩ = some (.pointer (some ⟨(s ka).b + 3, 0, none⟩)) ∧ w'.cell? ⟨gx + 1, ka, none⟩ = some (.pointer (some ⟨(s ka).y, 0, none⟩))) (by kernel_rfl) (by kernel_rfl) ?_
                rintro w4 hw4
                have hS4 : Slots w.heap.size w4 gx (gx + 1) s 4 k := by rw [hw4]; exact HS.out.kept ((Mod.refl None_ w3).drew)
                have hM4 : Mod None_ w w4 := by rw [hw4]; exact HM3.out.drew
                have hB4 : Blk w4 g5 41 #[.int .i64 x.kind, .int .i64 x.a, .int .i64 x.b, .int .i64 x.dir, .string x.name, .int .i64 x.ino] := by rw [hw4]; exact HB.out.mod ((Mod.refl None_ w3).drew) id
                clear hw4 d0 HB HS HW3 HG5 HM3
                refine ⟨⟨hB4.cell 0, hB4.cell 1, hB4.cell 2, hB4.cell 3, hB4.cell 4, hB4.cell 5, (hS4.bx.cell ka).trans (by rw [arr4_get _ _ _ hka4, if_pos hka4]; rfl), (hS4.by_.cell ka).trans (by rw [arr4_get _ _ _ hka4, if_pos hka4]; rfl)⟩, ?_⟩
                have HB4 := hide hB4
                have HS4 := hide hS4
                have HM4 := hide hM4
                clear hB4 hS4 hM4
                iterate 11 (refine mxw_quiet rfl (fun w' ⟨i0, i1, i2, i3, i4, i5, i6, i7⟩ K hK => by go_simp; exact hK) ?_; go_frame)
                refine mxw_loud rfl (fun K hK => ?_)
                go_simp
                have hlk := HS4.out.len ka hka4
                refine (plays_any w4 (s ka).b (s ka).y (s ka).R (s ka).L x hxo (HS4.out.rel ka hka4) (by omega) (HS4.out.ix ka hka4) (HS4.out.rf ka hka4)).mono ?_
                rintro e w5 ⟨rfl, R', L', hl', hr', hI', hR', hm'⟩
                have hS5 := HS4.out.step hka4 hm' hr' hI' hR' (by omega)
                have hM5 := HS4.out.mod_none hka4 HM4.out (Nat.le_refl _) hm'
                have hB5 := HB4.out.mod hm' (fun e => by
                  rcases e with e | e
                  · exact blk_not_ix HB4.out (by decide) (HS4.out.ix ka hka4) e
                  · exact blk_not_ref HB4.out (by decide) (HS4.out.rf ka hka4) e)
                refine ⟨_, rfl, ⟨hB5.cell 0, hB5.cell 1, hB5.cell 2, hB5.cell 3, hB5.cell 4, hB5.cell 5, (hS5.bx.cell ka).trans (by rw [arr4_get _ _ _ hka4, if_pos hka4]; simp [ptrI]), (hS5.by_.cell ka).trans (by rw [arr4_get _ _ _ hka4, if_pos hka4]; simp [ptrR])⟩, hK _ _ ?_⟩
                have HS5 := hide hS5
                have HM5 := hide hM5
                clear hK K hS5 hM5 hB5 hr' hI' hR' hm' HS4 HM4 HB4
                try go_frame
                refine mxw_quiet rfl (fun w' ⟨i0, i1, i2, i3, i4, i5, i6, i7⟩ K hK => by go_simp; exact hK) ?_
                go_frame
                refine mxw_nil ?_
                go_wp2
                go_roundg (gk - 1)
                case measure => have := HK.out; omega
                case rel => exact ⟨k + 1, _, by have := HK.out; omega, by go_num, HS5.out, HM5.out⟩
              · go_wp2
                rw [← HW3.out]
                clear HW3 HG5
                go_roundg (gk - 1)
                case measure => have := HK.out; omega
                case rel => exact ⟨k + 1, _, by have := HK.out; omega, by go_num, HS.out.mono (Nat.le_succ k), HM3.out⟩
            · go_wp2
              rw [← HW3.out]
              clear HW3 HG5
              go_roundg (gk - 1)
              case measure => have := HK.out; omega
              case rel => exact ⟨k + 1, _, by have := HK.out; omega, by go_num, HS.out.mono (Nat.le_succ k), HM3.out⟩
        · obtain rfl : k = ops.length := by omega
          have hki : ¬ (ops.length : Int) < ops.length := by omega
          have HM := hide hM
          clear hM hS
          go_wp2
          go_ret
          exact ⟨rfl, HM.out⟩
end Go.Proofs.Ytmamdacmpikdbaa
