import Derived.Test.YtabebkffcmajkaaH
import Derived.Test.YtabebkffcmajkaaProg
import Derived.DeepKeys5
import Derived.KernelRfl
/-! The index's key as a value; its type is one whose values are keys. -/
namespace Go.Proofs.Ytabebkffcmajkaa
open Go.RowKit Go.Maps

def keyCells (d : Int) (s : ByteArray) : List Value :=
  .int .i64 d :: .int .i64 s.size :: (s.data.toList.map (fun b => Value.int .u8 (b.toNat : Int)) ++ List.replicate (28 - s.size) (.int .u8 0))
def keyA (d : Int) (s : ByteArray) : Array Value := (keyCells d s).toArray
def keyV (d : Int) (s : ByteArray) : Value := .agg (keyA d s)

theorem keyCells_length (d : Int) (s : ByteArray) (h : s.size ≤ 28) : (keyCells d s).length = 30 := by
  have : s.data.toList.length = s.size := by simp
  simp [keyCells]
  omega
theorem keyA_size (d : Int) (s : ByteArray) (h : s.size ≤ 28) : (keyA d s).size = 30 := by simpa [keyA] using keyCells_length d s h

theorem map_inj {α β : Type} {f : α → β} (hf : ∀ a b, f a = f b → a = b) : ∀ {l l' : List α}, l.map f = l'.map f → l = l'
  | [], [], _ => rfl
  | [], _ :: _, h => by simp at h
  | _ :: _, [], h => by simp at h
  | a :: l, b :: l', h => by
    simp only [List.map_cons, List.cons.injEq] at h
    rw [hf _ _ h.1, map_inj hf h.2]
theorem keyA_inj {d d' : Int} {s s' : ByteArray} (h : keyA d s = keyA d' s') : d = d' ∧ s = s' := by
  have h1 : keyCells d s = keyCells d' s' := by simpa [keyA] using h
  unfold keyCells at h1
  simp only [List.cons.injEq, Value.int.injEq, true_and] at h1
  obtain ⟨h2, h3, h4⟩ := h1
  refine ⟨h2, ?_⟩
  have hsz : s.size = s'.size := by omega
  have hl : (s.data.toList.map (fun b => Value.int .u8 (b.toNat : Int))) = s'.data.toList.map (fun b => Value.int .u8 (b.toNat : Int)) :=
    (List.append_inj h4 (by simpa using hsz)).1
  have hl' : s.data.toList = s'.data.toList := by
    exact map_inj (fun a b hab => by
      simp only [Value.int.injEq, true_and] at hab
      exact UInt8.toNat_inj.1 (by omega)) hl
  have : s.data = s'.data := Array.toList_inj.1 hl'
  cases s; cases s'; simp_all

theorem laidOut : laidOutB Try.prog = true := by kernel_rfl
theorem keyKeyed : Keyed Try.prog 100 := Keyed.of_law (deep_law_gate laidOut (of_decide_eq_true (by kernel_rfl)) (of_decide_eq_true (by kernel_rfl)) (by kernel_rfl) (by kernel_rfl))
theorem intKeyed : Keyed Try.prog 3 := int_keyed Try.underlying3

theorem wf_i64 {d : Int} (h1 : -9223372036854775808 ≤ d) (h2 : d ≤ 9223372036854775807) : (Lit.int .i64 d).wf = true := WalkArith.wf_i64 ⟨h1, h2⟩

theorem keyLits_array {P : Program} {t n e : Nat} {cs : List Value} {d : Nat} (ht : P.underlying t = some (.array n e)) :
    P.keyLits (d + 1) t cs = if cs.length = P.cellsOf t then ((List.range n).mapM fun i => P.keyLits d e ((cs.drop (i * P.cellsOf e)).take (P.cellsOf e))).map List.flatten else none := by
  conv => lhs; unfold Program.keyLits
  simp only [ht]
theorem keyLits_struct {P : Program} {t : Nat} {fs : Array Field} {cs : List Value} {d : Nat} (ht : P.underlying t = some (.struct fs)) :
    P.keyLits (d + 1) t cs = if cs.length = P.cellsOf t ∧ fs.all (·.name != "_") = true then (fs.toList.mapM fun f => P.keyLits d f.type ((cs.drop f.offset).take (P.cellsOf f.type))).map List.flatten else none := by
  conv => lhs; unfold Program.keyLits
  simp only [ht]
theorem tsize : Try.prog.types.size = 153 := by kernel_rfl
theorem cells55 : Try.prog.cellsOf 100 = 30 := by kernel_rfl
theorem cells53 : Try.prog.cellsOf 98 = 28 := by kernel_rfl
theorem cells5 : Try.prog.cellsOf 5 = 1 := by kernel_rfl
theorem cells3 : Try.prog.cellsOf 3 = 1 := by kernel_rfl
theorem mapM_ex {α β : Type} {f : α → Option β} : ∀ {l : List α}, (∀ x ∈ l, ∃ y, f x = some y) → ∃ ys, l.mapM f = some ys
  | [], _ => ⟨[], rfl⟩
  | x :: l, h => by
    obtain ⟨y, hy⟩ := h x (by simp)
    obtain ⟨ys, hys⟩ := mapM_ex (l := l) (fun z hz => h z (by simp [hz]))
    exact ⟨y :: ys, by simp [List.mapM_cons, hy, hys]⟩
theorem keyOf_key (d : Int) (s : ByteArray) (hd : (Lit.int .i64 d).wf = true) (hs : s.size ≤ 28) : ∃ l, keyOf Try.prog 100 (keyV d s) = some l := by
  have hlen := keyCells_length d s hs
  have hu8 : ∀ c ∈ (keyCells d s).drop 2, ∃ n : Int, c = .int .u8 n ∧ (Lit.int .u8 n).wf = true := by
    intro c hc
    simp only [keyCells, List.drop_succ_cons, List.drop_zero, List.mem_append, List.mem_map, List.mem_replicate] at hc
    rcases hc with ⟨b, _, rfl⟩ | ⟨_, rfl⟩
    · exact ⟨_, rfl, WalkArith.wf_u8 ⟨by omega, by have := b.toNat_lt; omega⟩⟩
    · exact ⟨_, rfl, WalkArith.wf_u8 ⟨by omega, by omega⟩⟩
  have hform : (keyV d s).formed Try.prog 100 = true := by
    unfold keyV Value.formed
    simp only [Try.underlying100, cells55, keyA_size d s hs, beq_self_eq_true]
  have hlits : ∃ ls, Try.prog.keyLits (Try.prog.types.size + 1) 100 (keyV d s).cells.toList = some ls := by
    have hc : (keyV d s).cells.toList = keyCells d s := by simp [keyV, Value.cells, keyA]
    rw [hc]
    have hsz : (Lit.int .i64 (s.size : Int)).wf = true := wf_i64 (by omega) (by omega)
    rw [tsize]
    have h1 : Try.prog.keyLits (152 + 1) 3 (((keyCells d s).drop 0).take 1) = some [.int .i64 d] := by
      simp [Program.keyLits, Try.underlying3, keyCells, hd]
    have h2 : Try.prog.keyLits (152 + 1) 3 (((keyCells d s).drop 1).take 1) = some [.int .i64 s.size] := by
      simp [Program.keyLits, Try.underlying3, keyCells, hsz]
    have h3 : ∃ ls, Try.prog.keyLits (152 + 1) 98 (((keyCells d s).drop 2).take 28) = some ls := by
      have hl28 : ((keyCells d s).drop 2).length = 28 := by rw [List.length_drop, hlen]
      rw [List.take_of_length_le (by omega)]
      generalize (keyCells d s).drop 2 = cs at hu8 hl28
      obtain ⟨ys, hys⟩ := mapM_ex (f := fun i => Try.prog.keyLits (151 + 1) 5 ((cs.drop (i * 1)).take 1)) (l := List.range 28) (fun i hi => by
        have hi' : i < cs.length := by rw [hl28]; simpa using hi
        obtain ⟨n, hn, hw⟩ := hu8 cs[i] (List.getElem_mem hi')
        refine ⟨[.int .u8 n], ?_⟩
        have e : (cs.drop (i * 1)).take 1 = [cs[i]] := by
          rw [Nat.mul_one, List.drop_eq_getElem_cons hi']; rfl
        show Try.prog.keyLits _ 5 ((cs.drop (i * 1)).take 1) = _
        rw [e, hn]
        simp [Program.keyLits, Try.underlying5, hw])
      refine ⟨ys.flatten, ?_⟩
      rw [keyLits_array Try.underlying98, cells53, if_pos hl28, cells5, hys]
      rfl
    obtain ⟨l3, h3⟩ := h3
    refine ⟨[[.int .i64 d], [.int .i64 s.size], l3].flatten, ?_⟩
    show Try.prog.keyLits (152 + 1 + 1) 100 (keyCells d s) = _
    rw [keyLits_struct Try.underlying100, cells55, if_pos ⟨hlen, by simp⟩]
    simp only [List.mapM_cons, List.mapM_nil, cells3, cells53, h1, h2, h3]
    rfl
  obtain ⟨ls, hls⟩ := hlits
  refine ⟨.string (keyBytes ls), ?_⟩
  have hkt : Try.prog.keyType 100 = true := by kernel_rfl
  unfold keyOf
  simp only [Try.underlying100, hkt, hform, hls, Bool.and_self, if_true, Option.map_some]
end Go.Proofs.Ytabebkffcmajkaa
