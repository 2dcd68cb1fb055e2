/- The fixed example 'awake' answers true; 'Good'. -/
import Derived.Test.YtgcemlilfdjjlaaChainG
namespace Go.Proofs.Ytgcemlilfdjjlaa
open Go.RowKit

theorem new_int (a b : Int) (w : World) (h : 1 ≤ a ∧ a ≤ 1048576 ∧ 1 ≤ b ∧ b ≤ 1048576) :
    Calls Try.prog 10 #[.int .i64 a, .int .i64 b] w (NewIs w a.toNat b.toNat) := by
  obtain ⟨a, rfl⟩ := Int.eq_ofNat_of_zero_le (show 0 ≤ a by omega)
  obtain ⟨b, rfl⟩ := Int.eq_ofNat_of_zero_le (show 0 ≤ b by omega)
  exact new_ok a b w (by omega)

theorem AppendR.good {C L : Nat} {f f' : Nat → List Nat} {n c r : Int} (h : AppendR C L f n c r f') (hn : ¬ Out n L) (hc : ¬ Out c C) (hf : ∀ k, c.toNat ∉ f k) : r = 0 ∧ f' = put f n.toNat (f n.toNat ++ [c.toNat]) := by
  rcases h with ⟨h1, _⟩ | ⟨_, h1, _⟩ | ⟨_, _, ⟨k, h1⟩, _⟩ | ⟨_, _, _, h1⟩
  · exact absurd h1 hn
  · exact absurd h1 hc
  · exact absurd h1 (hf k)
  · exact h1

def Quiet (w : World) (v : Value) (e : Ending) (w' : World) : Prop := e = .returned v ∧ Upd w [] w' []

theorem before_awake {r : Int} {f' : Nat → List Nat} (h : BeforeR 2 (put (fun _ => []) 0 ([] ++ [1])) 0 1 r f') : r = 0 ∧ f' = put (put (fun _ => []) 0 [1]) 0 [0, 1] := by
  have q2 : ¬ Out 1 2 := by unfold Out; omega
  have q3 : ¬ Out 0 2 := by unfold Out; omega
  have hf : ∀ n, (0 : Nat) ∉ put (fun _ => []) 0 [1] n := fun n => by unfold put; split <;> simp
  have h1 : (1 : Nat) ∈ put (fun _ => []) 0 [1] 0 := by simp [put]
  rcases h with ⟨h, _⟩ | ⟨_, _, ⟨n, h⟩, _⟩ | ⟨_, _, _, h, _⟩ | ⟨_, _, _, n, A, B, h, hr, hf'⟩
  · exact (h.elim q3 q2).elim
  · exact absurd h (hf n)
  · exact absurd h1 (h 0)
  · refine ⟨hr, ?_⟩
    rw [hf']
    by_cases hn : n = 0
    · subst hn
      rw [put_same] at h
      simp at h
      cases A with
      | nil => simp at h; subst h; rfl
      | cons a A => simp at h
    · rw [put_other hn] at h
      simp at h

theorem next_awake {f : Nat → List Nat} {x r : Int} (hf : f = put (put (fun _ => []) 0 [1]) 0 [0, 1]) (h : AskR 2 f 0 ofNext x r) : x = 1 ∧ r = 0 := by
  subst hf
  have q3 : ¬ Out 0 2 := by unfold Out; omega
  rcases h with ⟨h, _⟩ | ⟨_, h, _⟩ | ⟨_, n, A, B, h, hx, hr⟩
  · exact absurd h q3
  · exact absurd (show (0 : Nat) ∈ put (put (fun _ => []) 0 [1]) 0 [0, 1] 0 by simp [put]) (h 0)
  · refine ⟨?_, hr⟩
    by_cases hn : n = 0
    · subst hn
      rw [put_same] at h
      cases A with
      | nil => simp at h; subst h; rw [hx]; rfl
      | cons a A =>
        simp at h
        cases A with
        | nil => simp at h
        | cons a' A => simp at h
    · rw [put_other hn, put_other hn] at h
      simp at h

set_option maxHeartbeats 1000000 in
theorem awake_any (w : World) : Calls Try.prog 11 #[] w (Quiet w (.bool true)) := by
  have q1 : ¬ Out 0 1 := by unfold Out; omega
  have q2 : ¬ Out 1 2 := by unfold Out; omega
  have q3 : ¬ Out 0 2 := by unfold Out; omega
  have HQ := Lib.hid (And.intro q1 (And.intro q2 q3))
  clear q1 q2 q3
  go_enter Try.func11, Try.ntmps11
  go_wp2_with (first
    | (go_at_call 10; refine (new_int 2 1 w (by omega)).mono ?_; rintro e w1 ⟨b, rfl, hb, hC1, hU1⟩)
    | (go_at_call 15; refine (append_any 0 1 w1 hC1).mono ?_; rintro e w2 ⟨r, f2, fp2, rfl, hC2, hU2, hR⟩; obtain ⟨rfl, rfl⟩ := hR.good HQ.out.1 HQ.out.2.1 (by simp))
    | (go_at_call 19; refine (before_any 0 1 w2 hC2).mono ?_; rintro e w3 ⟨r, f3, fp3, rfl, hC3, hU3, hR⟩; obtain ⟨rfl, hf3⟩ := before_awake hR; have HF3 := Lib.hid hf3; clear hf3 hR)
    | (go_at_call 17; refine (next_any 0 w3 hC3).mono ?_; rintro e w4 ⟨x, r, rfl, hR, rfl⟩; obtain ⟨rfl, rfl⟩ := next_awake HF3.out hR; clear hR))
  go_ret
  exact ⟨rfl, (hU1.trans (hU2.trans hU3)).to (by simp)⟩

end Go.Proofs.Ytgcemlilfdjjlaa
