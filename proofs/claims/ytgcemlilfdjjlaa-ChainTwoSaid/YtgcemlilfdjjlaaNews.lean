/- ChainNews returns true for every input: the walk. -/
import Derived.Test.YtgcemlilfdjjlaaChainH
import Derived.ProofKit
namespace Go.Proofs.Ytgcemlilfdjjlaa
open Go.ChangeShapes Go.WideShapes Go.ChangeAt Go.RowKit

set_option maxHeartbeats 400000 in
theorem good_yes (a b : Int) (w : World) (h : 1 ≤ a ∧ a ≤ 1048576 ∧ 1 ≤ b ∧ b ≤ 1048576) :
    Calls Try.prog 12 #[.int .i64 a, .int .i64 b] w fun e w' => e = .returned (.bool true) ∧ w = w' := by
  obtain ⟨h1, h2, h3, h4⟩ := h
  have d1 : decide (1 ≤ a) = true := by simpa using h1
  have d2 : decide (a ≤ 1048576) = true := by simpa using h2
  have d3 : decide (1 ≤ b) = true := by simpa using h3
  have d4 : decide (b ≤ 1048576) = true := by simpa using h4
  go_enter Try.func12, Try.ntmps12
  go_wp2
  all_goals
    go_ret
    exact ⟨rfl, rfl⟩

set_option maxHeartbeats 400000 in
theorem good_no (a b : Int) (w : World) (h : ¬ (1 ≤ a ∧ a ≤ 1048576 ∧ 1 ≤ b ∧ b ≤ 1048576)) :
    Calls Try.prog 12 #[.int .i64 a, .int .i64 b] w fun e w' => e = .returned (.bool false) ∧ w = w' := by
  by_cases h1 : 1 ≤ a
  · by_cases h2 : a ≤ 1048576
    · by_cases h3 : 1 ≤ b
      · have h4 : ¬ b ≤ 1048576 := fun h4 => h ⟨h1, h2, h3, h4⟩
        have d1 : decide (1 ≤ a) = true := by simpa using h1
        have d2 : decide (a ≤ 1048576) = true := by simpa using h2
        have d3 : decide (1 ≤ b) = true := by simpa using h3
        have d4 : decide (b ≤ 1048576) = false := by simpa using h4
        clear h
        go_enter Try.func12, Try.ntmps12
        go_wp2
        all_goals
          go_ret
          exact ⟨rfl, rfl⟩
      · have d1 : decide (1 ≤ a) = true := by simpa using h1
        have d2 : decide (a ≤ 1048576) = true := by simpa using h2
        have d3 : decide (1 ≤ b) = false := by simpa using h3
        clear h
        go_enter Try.func12, Try.ntmps12
        go_wp2
        all_goals
          go_ret
          exact ⟨rfl, rfl⟩
    · have d1 : decide (1 ≤ a) = true := by simpa using h1
      have d2 : decide (a ≤ 1048576) = false := by simpa using h2
      clear h
      go_enter Try.func12, Try.ntmps12
      go_wp2
      all_goals
        go_ret
        exact ⟨rfl, rfl⟩
  · have d1 : decide (1 ≤ a) = false := by simpa using h1
    clear h
    go_enter Try.func12, Try.ntmps12
    go_wp2
    all_goals
      go_ret
      exact ⟨rfl, rfl⟩

theorem EndsR.empty {L : Nat} {n x y r : Int} (h : EndsR L (fun _ => []) n x y r) (hn : ¬ Out n L) : x = -1 ∧ y = -1 ∧ r = 0 := by
  rcases h with ⟨h, _⟩ | ⟨_, h1, h2, h3⟩
  · exact absurd h hn
  · exact ⟨h1, h2, h3⟩
theorem AskR.empty {C : Nat} {what : Nat → List Nat → List Nat → Int} {n x r : Int} (h : AskR C (fun _ => []) n what x r) (hn : ¬ Out n C) : x = 0 ∧ r = 44 := by
  rcases h with ⟨h, _⟩ | ⟨_, _, h1, h2⟩ | ⟨_, k, A, B, h, _⟩
  · exact absurd h hn
  · exact ⟨h1, h2⟩
  · simp at h

set_option maxHeartbeats 1000000 in
theorem news_any (a b : Int) (w : World) : Calls Try.prog 3 #[.int .i64 a, .int .i64 b] w (Quiet w (.bool true)) := by
  by_cases h : 1 ≤ a ∧ a ≤ 1048576 ∧ 1 ≤ b ∧ b ≤ 1048576
  · have o1 : ¬ Out (b - 1) b.toNat := by unfold Out; omega
    have o2 : ¬ Out (a - 1) a.toNat := by unfold Out; omega
    have HO := Lib.hid (And.intro o1 o2)
    clear o1 o2
    have hb1 := h.2.2.1
    have hb2 := h.2.2.2
    have ha1 := h.1
    have ha2 := h.2.1
    go_enter Try.func3, Try.ntmps3
    go_wp2_with (first
      | (go_at_call 10; refine (new_int a b w h).mono ?_; rintro e w1 ⟨p, rfl, hp, hC1, hU1⟩)
      | (go_at_call 11; refine (awake_any w1).mono ?_; rintro e w2 ⟨rfl, hU2⟩; have hC2 := hC1.upd hU2 (by simp))
      | (go_at_call 12; refine (good_yes a b w2 h).mono ?_; rintro e w' ⟨rfl, rfl⟩)
      | (go_at_call 13; refine (ends_any (b - 1) w2 hC2).mono ?_; rintro e w3 ⟨x, y, r, fp3, rfl, hC3, hU3, hR⟩; obtain ⟨rfl, rfl, rfl⟩ := hR.empty HO.out.1)
      | (go_at_call 14; refine (owner_any (a - 1) w3 hC3).mono ?_; rintro e w4 ⟨x, r, rfl, hR, rfl⟩; obtain ⟨rfl, rfl⟩ := hR.empty HO.out.2))
    go_ret
    refine ⟨rfl, (hU1.trans (((hU2.beside [p]).to (T := [p]) (by simp)).weaken (by simp) |>.trans hU3)).to (by simp)⟩
  · go_enter Try.func3, Try.ntmps3
    go_wp2_with (first
      | (go_at_call 10; refine (new_bad a b w h).mono ?_; rintro e w' ⟨rfl, rfl⟩)
      | (go_at_call 11; refine (awake_any w).mono ?_; rintro e w2 ⟨rfl, hU2⟩)
      | (go_at_call 12; refine (good_no a b w2 h).mono ?_; rintro e w' ⟨rfl, rfl⟩))
    go_ret
    exact ⟨rfl, hU2⟩

end Go.Proofs.Ytgcemlilfdjjlaa
