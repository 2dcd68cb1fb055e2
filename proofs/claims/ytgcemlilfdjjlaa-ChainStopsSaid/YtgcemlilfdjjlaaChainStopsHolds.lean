/- Proved: the law ChainStops returns true for every input, and leaves its arguments as they were. No conditions. -/
import Derived.Test.YtgcemlilfdjjlaaStops
import Derived.Test.YtgcemlilfdjjlaaArgs
namespace Go.Proofs.Ytgcemlilfdjjlaa
open Go.ChangeShapes Go.WideShapes Go.ChangeAt Go.RowKit

set_option maxRecDepth 100000 in
theorem chainStops_lifted (os : Os) (started : os.Started) (H : Type) (enc : TypeId × Value → H) :
    ReturnsInHanded {} Try.checked os 5 .any (Rows.chainStopsSpec.pre6 enc Try.prog Try.f5 Rows.chainStopsRow.domain false) (Rows.chainStopsSpec.post enc Try.prog Try.f5 false true false false) := by
  refine returnsInHanded_of_change (C := Try.checked) Try.own started (by kernel_rfl) Try.func5
    (ChangeSpec.witness6 (enc := enc) (C := Try.checked) false ⟨#[], #[.slice none 0 0, .int .i64 0], []⟩ 8 (by kernel_rfl) (by kernel_rfl) (by kernel_rfl) (by kernel_rfl)) ?_
  intro W base args ds gs before hval0 hW hcnd _
  have hval : ∀ (j : Nat) t v, Try.f5.params[j]? = some t → args[j]? = some v → Value.okWide Try.prog W .any base t v := hval0
  have hW' := hW
  obtain ⟨p, q, hA0, hV, rfl, hfz, hnd⟩ := hW
  have hA : DataW.TrodAll enc Try.prog W 0 (fun _ => true) true Try.f5.params.toList args.toList ds p := hA0
  rw [Try.params5] at hA hval
  obtain ⟨v0, v1, d0, d1, p0, p1, rfl, rfl, rfl, h0, h1⟩ := trodAll_two hA
  obtain ⟨z0, i0⟩ := open_inInts (hval 0 38 v0 rfl rfl) h0
  obtain ⟨a1, rfl, rfl, rfl, wa1⟩ := open_int Try.underlying3 (hval 1 3 v1 rfl rfl) h1
  refine (stops_any v0 z0 a1 W i0 ).mono fun e W' ⟨he, hU⟩ => ?_
  subst he
  exact ⟨_, rfl, post_law (T := 4) Try.laidOut (by kernel_rfl) rfl rfl Try.underlying4 hW' rfl hU.below⟩

theorem chainStops_holds : Rows.ChainStopsSaid :=
  OpenClaim.holds_of_wide 5 Try.f5 rfl rfl rfl rfl rfl rfl rfl ⟨rfl, rfl, rfl, rfl, rfl⟩ rfl rfl rfl rfl rfl (by kernel_rfl) Try.func5 (by kernel_rfl)
    (of_decide_eq_true (by kernel_rfl)) (by unfold Func.isWrapper; rw [if_neg (by decide +kernel)]; exact ⟨rfl, rfl⟩)
    (fun os started H enc _ => chainStops_lifted os started H enc)

end Go.Proofs.Ytgcemlilfdjjlaa
