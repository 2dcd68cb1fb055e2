/- Proved: the law DeskNumbers returns true for every number and every list of numbers, and leaves its arguments as they were. It holds where the package-level variable deBruijn32tab reads as the program's text lays it: the card ties that to the text. No other conditions. -/
import Derived.Test.YtlnhacbdbhmgkaaGreatDoorNuH
import Derived.Test.YtlnhacbdbhmgkaaGreatDoorDnLaid
import Derived.Test.YtlnhacbdbhmgkaaGreatDoorTie
import Derived.Test.YtlnhacbdbhmgkaaGreatDoorCards
import Derived.ProofKit
import Derived.LaidMore
import Derived.OpenShut
import Derived.Stop.Joined
import Derived.SevenTiedAt
namespace Go.Proofs.YtlnhacbdbhmgkaaGreatDoor
open Go.ChangeShapes Go.WideShapes Go.ChangeAt Go.WideMaps Go.WideElems Go.RowKit

set_option maxRecDepth 100000 in
theorem deskNumbers_lifted (os : Os) (started : os.Started) (H : Type) (enc : TypeId × Value → H) :
    ReturnsInHanded {} Tryz.checked os 3 .any (fun w args => (Rows.deskNumbersSpec.pre enc Tryz.prog Tryz.f3 [] false w args ∧ laidMetH Tryz.prog laidTab w) ∧ sizedMet enc Tryz.prog Tryz.f3 (OpenSpec.ofChange Rows.deskNumbersSpec) false w args)
      (Rows.deskNumbersSpec.post enc Tryz.prog Tryz.f3 false true false false) := by
  refine returnsInHanded_of_change_and (C := Tryz.checked) (X := fun w _ => laidMetH Tryz.prog laidTab w) (fun _ _ _ hh h => h.of_heap hh) Tryz.own started (by kernel_rfl) Tryz.func3
    (ChangeSpec.witness_shaped (enc := enc) (C := Tryz.checked) (os := os) (X := fun w _ => laidMetH Tryz.prog laidTab w) false (World.doorLaid Tryz.prog 400 os) #[.int .i64 0, .slice none 0 0] 8 rfl (World.shaped_of_RefB (by kernel_rfl) (by kernel_rfl)) (by kernel_rfl) (by kernel_rfl) (by kernel_rfl) (door_met os _)) ?_
  intro W base args ds gs before hval0 hW _ _ hL _
  have hval : ∀ (j : Nat) t v, Tryz.f3.params[j]? = some t → args[j]? = some v → Value.okWide Tryz.prog W .any base t v := hval0
  have hW' := hW
  obtain ⟨p, q, hA0, hV, rfl, hfz, hnd⟩ := hW
  have hA : DataW.TrodAll enc Tryz.prog W 0 (fun _ => true) true Tryz.f3.params.toList args.toList ds p := hA0
  rw [Tryz.params3] at hA hval
  obtain ⟨v0, v1, d0, d1, p0, p1, rfl, rfl, rfl, h0, h1⟩ := trodAll_two hA
  obtain ⟨a0, rfl, rfl, rfl, wa0⟩ := open_int Tryz.underlying3 (hval 0 3 v0 rfl rfl) h0
  obtain ⟨z1, i1, hz1⟩ := open_inInts (hval 1 22 v1 rfl rfl) h1
  refine (numbers_any a0 v1 z1 W (of_laid hL) i1 hz1).mono fun e W' ⟨he, hU⟩ => ?_
  subst he
  exact ⟨_, rfl, post_law (T := 4) Tryz.laidOut (by kernel_rfl) rfl rfl Tryz.underlying4 hW' rfl hU.below⟩

theorem deskNumbers_bare : Rows.DeskNumbersSaid :=
  OpenClaim.holds_of_wide 3 Tryz.f3 rfl rfl rfl rfl rfl rfl rfl ⟨rfl, rfl, rfl, rfl, rfl⟩ rfl rfl rfl rfl rfl (by kernel_rfl) Tryz.func3 (by kernel_rfl)
    (of_decide_eq_true (by kernel_rfl)) (by unfold Func.isWrapper; rw [if_neg (by decide +kernel)]; exact ⟨rfl, rfl⟩)
    (fun os started H enc _ => deskNumbers_lifted os started H enc)

/-- The tied card. -/
theorem deskNumbers_card : Rows.DeskNumbersCardSaid :=
  Claim7.holds_tied_plain_at .later [] [.data] true (true, "8ab928c13de3027df2029edc041916ba156083d1f4bcf0880bdd24773cb70232") true
    deskNumbers_bare (fun _ h => by cases h) (by kernel_rfl) (fun _ h => by cases h) deskNumbers_row_tie rfl ⟨rfl, rfl⟩ (by kernel_rfl) rfl
    (fun f fn hf hfn => by
      obtain rfl : f = 3 := Option.some.inj ((show Tryz.prog.funcNamed "osier/osierlaw24.DeskNumbers" = some 3 by kernel_rfl).symm.trans hf) |>.symm
      obtain rfl : fn = Tryz.f3 := (Option.some.inj (Tryz.func3.symm.trans hfn)).symm
      exact ⟨by kernel_rfl, fun j t ht => by
        rw [Tryz.params3] at ht
        have hm : t ∈ [3, 22] := by simpa using Array.mem_of_getElem? ht
        have hall : ([3, 22].all fun u => !Tryz.prog.wantsStandIn u) = true := by kernel_rfl
        exact (show Tryz.prog.wantsStandIn t = false by simpa using List.all_eq_true.1 hall t hm)⟩)
    (by kernel_rfl)

end Go.Proofs.YtlnhacbdbhmgkaaGreatDoor
