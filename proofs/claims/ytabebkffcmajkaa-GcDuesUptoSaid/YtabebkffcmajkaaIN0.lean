import Derived.Test.YtabebkffcmajkaaEQ
import Derived.Test.YtabebkffcmajkaaW10
/-! Nodes. -/
namespace Go.Proofs.Ytabebkffcmajkaa
open Go.RowKit Go.Maps Go.Shelf

structure NodeD where
  ino : Int
  kind : Int
  links : Int
  size : Int
  map : List RunD
  names : List (ByteArray × Int)
  head : Int
  tail : Int
  log : List Int
  entries : Int
/-- a node's cells -/
def nodeC (n : NodeD) (vm vn vl : Value) : Array Value :=
  #[.int .i64 n.ino, .int .i64 n.kind, .int .i64 n.links, .int .i64 n.size, vm, vn, .int .i64 n.head, .int .i64 n.tail, vl, .int .i64 n.entries]
/-- what its lists are -/
structure NodeAt (w : World) (n : NodeD) (vm vn vl : Value) : Prop where
  map : RunsAt w vm n.map
  names : ListAt encDent 2 w vn n.names
  log : ListAt encInt 1 w vl n.log
  kind : I64 n.kind
  size : I64 n.size
  nlen : n.names.length ≤ 1000000000000
theorem NodeAt.kept {w w' : World} {n : NodeD} {vm vn vl : Value} (h : NodeAt w n vm vn vl) (hm : Mod None_ w w') : NodeAt w' n vm vn vl := ⟨h.map.kept hm, h.names.kept hm, h.log.kept hm, h.kind, h.size, h.nlen⟩
theorem RunsAt.list {w : World} {v : Value} {l : List RunD} (h : RunsAt w v l) : ListAt encRun 3 w v l := by
  obtain ⟨A, c, h1, h2, h3, _, _, h4⟩ := h
  refine ⟨A, c, h1, h2, h3, fun h0 => ?_⟩
  obtain ⟨g, o, e, hg, hc⟩ := h4 h0
  refine ⟨g, o, e, hg, fun i hi j u hj => ?_⟩
  obtain ⟨a, b, d⟩ := hc i hi
  match j, hj with
  | 0, hj => obtain rfl : Value.int .i64 l[i].off = u := by simpa [encRun] using hj
             exact a
  | 1, hj => obtain rfl : Value.int .i64 l[i].page = u := by simpa [encRun] using hj
             exact b
  | 2, hj => obtain rfl : Value.int .i64 l[i].count = u := by simpa [encRun] using hj
             exact d
theorem list_of_ownRuns {w : World} {base : Nat} {v : Value} {l : List RunD} (h : w.ownsRow base 51 3 v l.length (runCells l)) : ListAt encRun 3 w v l := by
  rcases h.2 with ⟨rfl, h0⟩ | ⟨g, cap, cur, rfl, hb, hg, hn, hc, hs, ht⟩
  · rw [← h0]; exact ⟨none, 0, by rw [h0], by omega, by unfold maxLen; omega, fun h => by omega⟩
  · refine ⟨_, cap, rfl, hn, hc, fun h0 => ⟨g, 0, rfl, (Array.getElem?_eq_some_iff.1 hg).1, fun i hi j u hj => ?_⟩⟩
    obtain ⟨a1, a2, a3⟩ := runCells_at l i hi
    have hcell := h.cells (g := g) rfl
    have x0 := hcell _ _ a1
    have x1 := hcell _ _ a2
    have x2 := hcell _ _ a3
    simp only [Addr.add_lit] at x0 x1 x2
    match j, hj with
    | 0, hj => obtain rfl : Value.int .i64 l[i].off = u := by simpa [encRun] using hj
               exact x0
    | 1, hj => obtain rfl : Value.int .i64 l[i].page = u := by simpa [encRun] using hj
               exact x1
    | 2, hj => obtain rfl : Value.int .i64 l[i].count = u := by simpa [encRun] using hj
               exact x2

def endPageOf (size : Int) : Int := wrap64 (wrap64 (size + 512) - 1) / 512
def pageOk (r : RunD) : Bool := !(decide (r.page < 5) || decide (1024 - r.count < r.page))
/-- is it a good file, as the code asks it? -/
def fileGood (n : NodeD) : Bool :=
  decide (0 ≤ n.size ∧ n.size ≤ 262144) && decide (n.names.length = 0) && n.map.all okRun && decide (runsOf (itemsOf (tableOf n.map) 0 512 0) = n.map) && n.map.all pageOk && decide (itemsOf (tableOf n.map) 0 512 ((n.size + 511) / 512) = [])
/-- what fileOf leaves -/
def FilePost (w : World) (n : NodeD) : Ending → World → Prop := fun e w' =>
  if fileGood n = true then ∃ s t r mid leaf many, e = .returned (.pointer (some ⟨s, 0, none⟩)) ∧ Blk w' s 55 #[.int .i64 1, .int .i64 n.size, .pointer (some ⟨t, 0, none⟩), .pointer none] ∧ RadixAt w' t r mid leaf (tableOf n.map) many ∧
      w.heap.size ≤ s ∧ (∀ g, TreeB t r mid leaf g → w.heap.size ≤ g ∧ g ≠ s) ∧ Mod None_ w w'
  else e = .returned (.pointer none) ∧ Mod None_ w w'

theorem endPage_any (n : Int) (w : World) (h0 : 0 ≤ n) (h1 : n ≤ 262144) : Calls Try.prog 44 #[.int .i64 n] w fun e w' => e = .returned (.int .i64 ((n + 511) / 512)) ∧ w = w' := by
  have e : n + 512 - 1 = n + 511 := by omega
  have E := hide e
  clear e
  go_enter Try.func44, Try.ntmps44
  go_wp2
  go_ret
  rw [E.out]
  simp
end Go.Proofs.Ytabebkffcmajkaa
