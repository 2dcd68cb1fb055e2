/- Proved: the law ChainJoins returns true for every input, and leaves its arguments as they were. No conditions. -/
import Derived.Test.YtgcemlilfdjjlaaJoins
import Derived.Test.YtgcemlilfdjjlaaArgs
namespace Go.Proofs.Ytgcemlilfdjjlaa
open Go.ChangeShapes Go.WideShapes Go.ChangeAt Go.RowKit

set_option maxRecDepth 100000 in
theorem chainJoins_lifted (os : Os) (started : os.Started) (H : Type) (enc : TypeId × Value → H) :
    ReturnsInHanded {} Try.checked os 6 .any (Rows.chainJoinsSpec.pre6 enc Try.prog Try.f6 Rows.chainJoinsRow.domain false) (Rows.chainJoinsSpec.post enc Try.prog Try.f6 false true false false) := by
  refine returnsInHanded_of_change (C := Try.checked) Try.own started (by kernel_rfl) Try.func6
    (ChangeSpec.witness6 (enc := enc) (C := Try.checked) false ⟨#[], #[.slice none 0 0, .slice none 0 0], []⟩ 8 (by kernel_rfl) (by kernel_rfl) (by kernel_rfl) (by kernel_rfl)) ?_
  intro W base args ds gs before hval0 hW hcnd _
  have hval : ∀ (j : Nat) t v, Try.f6.params[j]? = some t → args[j]? = some v → Value.okWide Try.prog W .any base t v := hval0
  have hW' := hW
  obtain ⟨p, q, hA0, hV, rfl, hfz, hnd⟩ := hW
  have hA : DataW.TrodAll enc Try.prog W 0 (fun _ => true) true Try.f6.params.toList args.toList ds p := hA0
  rw [Try.params6] at hA hval
  obtain ⟨v0, v1, d0, d1, p0, p1, rfl, rfl, rfl, h0, h1⟩ := trodAll_two hA
  obtain ⟨z0, i0⟩ := open_inInts (hval 0 38 v0 rfl rfl) h0
  obtain ⟨z1, i1⟩ := open_inInts (hval 1 38 v1 rfl rfl) h1
  refine (joins_any v0 z0 v1 z1 W i0 i1 ).mono fun e W' ⟨he, hU⟩ => ?_
  subst he
  exact ⟨_, rfl, post_law (T := 4) Try.laidOut (by kernel_rfl) rfl rfl Try.underlying4 hW' rfl hU.below⟩

theorem chainJoins_holds : Rows.ChainJoinsSaid :=
  OpenClaim.holds_of_wide 6 Try.f6 rfl rfl rfl rfl rfl rfl rfl ⟨rfl, rfl, rfl, rfl, rfl⟩ rfl rfl rfl rfl rfl (by kernel_rfl) Try.func6 (by kernel_rfl)
    (of_decide_eq_true (by kernel_rfl)) (by unfold Func.isWrapper; rw [if_neg (by decide +kernel)]; exact ⟨rfl, rfl⟩)
    (fun os started H enc _ => chainJoins_lifted os started H enc)

end Go.Proofs.Ytgcemlilfdjjlaa
