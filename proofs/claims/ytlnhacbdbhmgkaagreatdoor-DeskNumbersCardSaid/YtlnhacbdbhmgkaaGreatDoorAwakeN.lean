/- awake, a run with no inputs: it tells true, in any world in which the table's first number is 0, and turns nothing that was there. By calculation. -/
import Derived.Test.YtlnhacbdbhmgkaaGreatDoorEvT6
import Derived.Test.YtlnhacbdbhmgkaaGreatDoorBase
set_option maxRecDepth 100000
namespace Go.Proofs.YtlnhacbdbhmgkaaGreatDoor

theorem Fr.upd {w w' : World} {ρ' : Ren} {n m : Nat} (h : Fr n m firstR w ρ' w') : Upd w [] w' [] := by
  refine ⟨h.os, h.tape, h.output, h.size, fun k hk _ => h.keep k hk fun r l hr hg => ?_, fun k hk => by cases hk⟩
  unfold firstR at hr
  split at hr
  · rename_i e; subst e; exact absurd hg (by decide)
  · cases hr

theorem awake_any (w : World) (h0 : w.cell? ⟨0, 0, none⟩ = some (.int .u8 0)) : Calls Tryz.prog 5 #[] w fun e w' => e = .returned (.bool true) ∧ Upd w [] w' [] := by
  have hc : CallOk Tryz.prog (tabOf (callF Tryz.prog 300 60) [ent3, ent4, ent5, ent6]) := tabOf_ok (callF_sound zeros mixed 300 60) _ fun e he => by
    simp only [List.mem_cons, List.not_mem_nil, or_false] at he
    rcases he with rfl | rfl | rfl | rfl
    · exact ent3_ok
    · exact ent4_ok
    · exact ent5_ok
    · exact ent6_ok
  have hrun : (match callWith Tryz.prog (tabOf (callF Tryz.prog 300 60) [ent3, ent4, ent5, ent6]) 300 5 #[] firstS with | some (v, _) => same v (.bool true) | none => false) = true := by kernel_rfl
  split at hrun
  case h_2 => cases hrun
  rename_i v σ1 hr
  rw [same_eq _ _ hrun] at hr
  refine Calls.mono (callWith_sound zeros mixed hc 300 _ _ _ _ _ hr firstR w #[] (firstW h0) (AsRel.nil _)) fun e w' he => ?_
  cases e with
  | returned v' =>
    obtain ⟨ρ', _, hf, hv⟩ := he
    cases hv
    exact ⟨rfl, hf.upd⟩
  | panicked _ => exact he.elim
  | outgrown => exact he.elim

end Go.Proofs.YtlnhacbdbhmgkaaGreatDoor
