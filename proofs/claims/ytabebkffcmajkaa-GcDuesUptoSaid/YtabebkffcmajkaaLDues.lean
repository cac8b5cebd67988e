/-
  GcDues, the second form: for every node of bulk at most the form's number the law returns true, and its argument reads as it did.
-/
import Derived.Test.YtabebkffcmajkaaGD4
import Derived.Test.YtabebkffcmajkaaON
import Derived.JoinedCond
import Derived.Deep.CondSized
import Derived.ShutString
import Derived.ChangeOld
import Derived.SizedLaws
namespace Go.Proofs.Ytabebkffcmajkaa.gcDues
open Go.ChangeShapes Go.WideShapes Go.ChangeAt Go.RowKit
set_option linter.unusedVariables false

theorem own : ownKnob Try.prog.godebug = none := by kernel_rfl

set_option maxRecDepth 100000 in
theorem lifted (os : Os) (started : os.Started) (H : Type) (enc : TypeId × Value → H) (F : Stop.Interp) :
    ReturnsInHanded {} Try.checked os 4 .any ((Rows.OpenSpec.upto Rows.gcDuesSpec).pre6 enc Try.prog Try.f4 Rows.gcDuesUptoRow.domain false) (((Rows.OpenSpec.upto Rows.gcDuesSpec).at F).post enc Try.prog Try.f4 false true false false) := by
  refine returnsInHanded_of_cond_sized (C := Try.checked) (s := Rows.OpenSpec.upto Rows.gcDuesSpec) (k := Rows.uptoSmall) rfl own started (by kernel_rfl) Try.func4
    (OpenSpec.witness (enc := enc) (C := Try.checked) (s := Rows.OpenSpec.upto Rows.gcDuesSpec) (k := Rows.uptoSmall) rfl false ⟨#[], #[.agg #[.int .i64 0, .int .i64 0, .int .i64 0, .int .i64 0, .slice none 0 0, .slice none 0 0, .int .i64 0, .int .i64 0, .slice none 0 0, .int .i64 0]], []⟩ 8 (by kernel_rfl) (by kernel_rfl) (by kernel_rfl)
      (x := ([.agg [.lit (.int .i64 0), .lit (.int .i64 0), .lit (.int .i64 0), .lit (.int .i64 0), .nil, .nil, .lit (.int .i64 0), .lit (.int .i64 0), .nil, .lit (.int .i64 0)]], [], [])) (by kernel_rfl) rfl (by kernel_rfl)) ?_
  intro W base args ds gs before hval0 hW hcnd hk hsz0 _
  have hval : ∀ (j : Nat) t v, Try.f4.params[j]? = some t → args[j]? = some v → Value.okWide Try.prog W .any base t v := hval0
  have hW' := hW
  obtain ⟨p, q, hA0, hV, rfl, hfz, hnd⟩ := hW
  have hA : DataW.TrodAll enc Try.prog W 0 (fun _ => true) true Try.f4.params.toList args.toList ds p := hA0
  rw [Try.params4] at hA hval
  obtain ⟨v0, vs0, d0, ds0, p0, q0, hargs, rfl, rfl, h0, r0⟩ := trodAll_cons hA
  obtain ⟨rfl, rfl, rfl⟩ := trodAll_nil r0
  obtain rfl : args = #[v0] := by cases args; simp_all
  obtain ⟨rfl, rfl⟩ := trodVars_none hV
  have k0 := h0
  have lt0 : ∀ x ∈ p0, x.block < W.heap.size := by obtain ⟨m, hm⟩ := k0; exact DataW.trod_lt m _ _ _ hm
  obtain ⟨y, vm, vn, vl, rfl, hN, hI, hB⟩ := open_node (okWide_struct Try.underlying26 (hval 0 26 v0 rfl rfl)) h0
  have hs : Short y := by
    have hb := bulk_bound hk
    have h1 : Rows.uptoBulk d0 ≤ Rows.uptoBulkAll ([d0] ++ []) := bulk_part_le (by simp)
    obtain ⟨b1, b2, b3⟩ := hB
    have h2 : Rows.uptoBulkAll ([d0] ++ []) ≤ 1048576 := by simpa using hb
    exact ⟨by omega, by omega, by omega⟩
  clear hA0 hval0 hsz0
  refine (dues_any W y vm vn vl hN hs hI.entries).mono fun e W' ⟨he, hm⟩ => ?_
  subst he
  have bel := hm.below
  exact ⟨_, rfl, _, _, _, [], _, [], hW', trodAll_mk1 (shut_bool Try.underlying4 _),
    (trodAll_cons_mk (Below.trod laidOut (by kernel_rfl) (of_decide_eq_true (by kernel_rfl)) k0 bel lt0) trodAll_mk0),
    rfl, bel.frame _, fun h => by cases h⟩

theorem over : Rows.gcDuesUptoRow.holds Try.pinned (Rows.OpenSpec.upto Rows.gcDuesSpec) :=
  OpenClaim.holds_of_cond 4 Try.f4 rfl rfl rfl rfl rfl rfl rfl ⟨rfl, rfl, rfl, rfl, rfl⟩ rfl rfl rfl rfl rfl (by kernel_rfl) Try.func4 (by kernel_rfl)
    (of_decide_eq_true (by kernel_rfl)) (by unfold Func.isWrapper; first | (rw [if_pos (by decide +kernel)]; kernel_rfl) | (rw [if_neg (by decide +kernel)]; exact ⟨rfl, rfl⟩))
    (fun os started H enc _ F => lifted os started H enc F)
end Go.Proofs.Ytabebkffcmajkaa.gcDues
namespace Go.Proofs.Ytabebkffcmajkaa
theorem gcDues_holds : Rows.GcDuesUptoSaid := gcDues.over
#print axioms gcDues_holds
end Go.Proofs.Ytabebkffcmajkaa
