import Derived.Test.YtmamdacmpikdbaaUT1
/-! NamesMoves, NamesLists, NamesAll: three calls of upTo. -/
namespace Go.Proofs.Ytmamdacmpikdbaa
open Go.RowKit Go.Maps

theorem moves_any (w : World) (v : Value) (ops : List OpD) (hO : OpsAt w v ops) :
    Calls Try.prog 11 #[v] w fun e w' => e = .returned (.bool true) ∧ Mod None_ w w' := by
  go_enter Try.func11, Try.ntmps11
  go_wp2_with fail
  refine (upTo_any w v ops false 9 8 hO).mono ?_
  rintro e w1 ⟨rfl, hM⟩
  have HM := hide hM
  clear hM
  go_wp2
  go_ret
  exact ⟨rfl, HM.out⟩
theorem lists_any (w : World) (v : Value) (ops : List OpD) (hO : OpsAt w v ops) :
    Calls Try.prog 12 #[v] w fun e w' => e = .returned (.bool true) ∧ Mod None_ w w' := by
  go_enter Try.func12, Try.ntmps12
  go_wp2_with fail
  refine (upTo_any w v ops true 6 7 hO).mono ?_
  rintro e w1 ⟨rfl, hM⟩
  have HM := hide hM
  clear hM
  go_wp2
  go_ret
  exact ⟨rfl, HM.out⟩
theorem alls_any (w : World) (v : Value) (ops : List OpD) (hO : OpsAt w v ops) :
    Calls Try.prog 13 #[v] w fun e w' => e = .returned (.bool true) ∧ Mod None_ w w' := by
  go_enter Try.func13, Try.ntmps13
  go_wp2_with fail
  refine (upTo_any w v ops false 3 7 hO).mono ?_
  rintro e w1 ⟨rfl, hM⟩
  have HM := hide hM
  clear hM
  go_wp2
  go_ret
  exact ⟨rfl, HM.out⟩
end Go.Proofs.Ytmamdacmpikdbaa
