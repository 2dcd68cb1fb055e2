/- ChainJoins returns true for every input: the walk. -/
import Derived.Test.YtgcemlilfdjjlaaChainJ
namespace Go.Proofs.Ytgcemlilfdjjlaa
open Go.RowKit

theorem ofNats_get {l : List Nat} {i x : Nat} (h : l[i]? = some x) : (ofNats l)[i]? = some (x : Int) := by simp [ofNats, h]

set_option maxHeartbeats 4000000 in
theorem joins_any (v : Value) (zs : List Int) (v' : Value) (zs' : List Int) (w : World) (hin : InInts w v zs) (hin' : InInts w v' zs') : Calls Try.prog 6 #[v, v'] w (Quiet w (.bool true)) := by
  have q0 : ¬ Out 0 2 := by unfold Out; omega
  have q1 : ¬ Out 1 2 := by unfold Out; omega
  have Q0 := Lib.hid q0
  have Q1 := Lib.hid q1
  clear q0 q1
  obtain ⟨av, cv, rfl, hmax⟩ := hin.len
  obtain ⟨av', cv', rfl, hmax'⟩ := hin'.len
  unfold maxLen at hmax hmax'
  go_enter Try.func6, Try.ntmps6
  go_wp2_with (go_at_call 10; refine (new_int 64 2 w (by omega)).mono ?_; rintro e w1 ⟨b, rfl, hb, hC1, hU1⟩)
  go_loopw [8, 31] (fun _ i wr => ∃ k : Nat, k ≤ zs.length ∧ i = .int .i64 k ∧ SomeChain w b 64 2 wr) (fun _ i _ => zs.length - (intOf i).toNat)
  case atStart => exact ⟨0, Nat.zero_le _, rfl, _, _, hC1, hU1⟩
  case round =>
    obtain ⟨k, hk, rfl, f, fp, hC, hU⟩ := hrel
    by_cases hlt : k < zs.length
    · obtain ⟨a, cap, hv, hcell⟩ := (hin.upd hU).at_ hlt
      injection hv with h1 h2 h3
      subst h1 h3
      clear h2
      go_wp2_with (go_at_call 15; refine (append_any 0 _ wr hC).mono ?_; rintro e w2 ⟨r, f2, fp2, rfl, hC2, hU2, hR⟩; clear hR)
      go_roundw
      case rel => exact ⟨k + 1, by omega, by go_num, _, _, hC2, hU.trans hU2⟩
      case measure => simp [intOf]; omega
    · go_wp2_with fail
      obtain ⟨wo, rfl⟩ : ∃ wo : World, wo = wr := ⟨_, rfl⟩
      go_loopw [10, 41] (fun _ i wr => ∃ k : Nat, k ≤ zs'.length ∧ i = .int .i64 k ∧ SomeChain w b 64 2 wr) (fun _ i _ => zs'.length - (intOf i).toNat)
      case atStart => exact ⟨0, Nat.zero_le _, rfl, _, _, hC, hU⟩
      case round =>
        clear hC hU f fp
        obtain ⟨k, hk, rfl, f, fp, hC, hU⟩ := hrel
        by_cases hlt : k < zs'.length
        · obtain ⟨a, cap, hv, hcell⟩ := (hin'.upd hU).at_ hlt
          injection hv with h1 h2 h3
          subst h1 h3
          clear h2
          go_wp2_with (go_at_call 15; refine (append_any 1 _ wr hC).mono ?_; rintro e w2 ⟨r, f2, fp2, rfl, hC2, hU2, hR⟩; clear hR)
          go_roundw
          case rel => exact ⟨k + 1, by omega, by go_num, _, _, hC2, hU.trans hU2⟩
          case measure => simp [intOf]; omega
        · obtain ⟨q, hq⟩ : ∃ q, (f 0).length = q := ⟨_, rfl⟩
          obtain ⟨p, hp⟩ : ∃ p, (f 1).length = p := ⟨_, rfl⟩
          have hq' : (ofNats (f (Int.toNat 0))).length = q := by rw [ofNats_length]; exact hq
          have hp' : (ofNats (f (Int.toNat 1))).length = p := by rw [ofNats_length]; exact hp
          have hq64 : q ≤ 64 := hq ▸ hC.length 0
          have hp64 : p ≤ 64 := hp ▸ hC.length 1
          have HQ := Lib.hid hq
          have HP := Lib.hid hp
          have HQ' := Lib.hid hq'
          have HP' := Lib.hid hp'
          clear hq hp hq' hp'
          go_wp2_with fail
          refine (forward_int 0 64 wr hC Q0.out (by omega) (by omega)).mono ?_
          rintro e w2 ⟨v1, fp2, rfl, hI1, hC2, hU2⟩
          go_wp2_with fail
          refine (forward_int 1 64 w2 hC2 Q1.out (by omega) (by omega)).mono ?_
          rintro e w3 ⟨v2, fp3, rfl, hI2, hC3, hU3⟩
          have hI1' := hI1.upd hU3
          go_wp2_with fail
          refine (join_any 0 1 w3 hC3).mono ?_
          rintro e w4 ⟨r', f4, fp4, rfl, hC4, hU4, hR⟩
          obtain ⟨rfl, hf4⟩ : r' = 0 ∧ f4 = put (put f 1 (f 1 ++ f 0)) 0 [] := by
            rcases hR with ⟨h, _⟩ | ⟨_, _, h, _⟩ | ⟨_, _, _, h1, h2⟩
            · exact (h.elim Q0.out Q1.out).elim
            · exact absurd h (by omega)
            · exact ⟨h1, h2⟩
          have hI1'' := hI1'.upd hU4
          have hI2' := hI2.upd hU4
          have F4 := Lib.hid hf4
          clear hf4 hR
          go_wp2_with fail
          refine (forward_int 1 64 w4 hC4 Q1.out (by omega) (by omega)).mono ?_
          rintro e w5 ⟨v3, fp5, rfl, hI3, hC5, hU5⟩
          go_wp2_with fail
          refine (forward_int 0 64 w5 hC5 Q0.out (by omega) (by omega)).mono ?_
          rintro e w6 ⟨v4, fp6, rfl, hI4, hC6, hU6⟩
          have J1 := (hI1''.upd hU5).upd hU6
          have J2 := (hI2'.upd hU5).upd hU6
          have J3 := hI3.upd hU6
          have hn4 : ofNats (f4 (Int.toNat 0)) = [] := by rw [F4.out]; rfl
          have hn3 : ofNats (f4 (Int.toNat 1)) = ofNats (f 1 ++ f 0) := by rw [F4.out]; rfl
          rw [hn4] at hI4
          rw [hn3] at J3
          obtain ⟨a4, c4, rfl, _⟩ := hI4.len
          obtain ⟨a3, c3, hv3, _⟩ := J3.len
          obtain ⟨a2, c2, hv2, _⟩ := J2.len
          obtain ⟨a1, c1, hv1, _⟩ := J1.len
          rw [ofNats_length, List.length_append, HQ.out, HP.out] at hv3
          rw [HP'.out] at hv2
          rw [HQ'.out] at hv1
          obtain ⟨r, hr⟩ : ∃ r, p + q = r := ⟨_, rfl⟩
          rw [hr] at hv3
          have hr1 : ((r : Int) == (q : Int) + (p : Int)) = true := by rw [beq_iff_eq]; omega
          have hr2 : ((r : Int) != (q : Int) + (p : Int)) = false := by rw [bne_eq_false_iff_eq]; omega
          have hr3 : p ≤ r ∧ r ≤ p + q := by omega
          have HR := Lib.hid hr
          clear hr
          subst hv1 hv2 hv3
          have hUa := hU.trans (hU2.trans (hU3.trans (hU4.trans (hU5.trans hU6))))
          have JJ := Lib.hid (And.intro J1 (And.intro J2 J3))
          simp only [List.length_nil]
          clear hn4 hn3 hI1 hI2 hI3 hI4 hI1' hI1'' hI2' J1 J2 J3
          obtain ⟨wo2, rfl⟩ : ∃ wo2 : World, wo2 = wr := ⟨_, rfl⟩
          go_wp2_with fail
          go_loopw [17, 18, 103] (fun _ _ i wr => ∃ k : Nat, k ≤ r ∧ i = .int .i64 k ∧ Upd w6 [] wr []) (fun _ _ i _ => r - (intOf i).toNat)
          case atStart => exact ⟨0, Nat.zero_le _, rfl, Upd.refl _ _⟩
          case round =>
            obtain ⟨j, hj, rfl, hUr⟩ := hrel
            have hD := hUr.weaken (T := fp6) (fun _ h => by cases h) |>.to (T := fp6) (fun _ h => .inl h)
            by_cases hjl : j < r
            · by_cases hjp : j < p
              · obtain ⟨x, hx⟩ : ∃ x, (f 1)[j]? = some x := ⟨_, List.getElem?_eq_getElem (by rw [HP.out]; exact hjp)⟩
                obtain ⟨g3, d3, hg3, hc3⟩ := (JJ.out.2.2.upd hD).at_ (i := j) (x := x) (ofNats_get (by rw [List.getElem?_append_left (by rw [HP.out]; exact hjp)]; exact hx))
                obtain ⟨g2, d2, hg2, hc2⟩ := (JJ.out.2.1.upd hD).at_ (i := j) (x := x) (ofNats_get hx)
                injection hg3 with e1 e2 e3
                injection hg2 with e4 e5 e6
                subst e1 e3 e4 e6
                clear hx e2 e5
                go_wp2
                go_roundw
                case rel =>
                  exact ⟨j + 1, by omega, by go_num, hUr⟩
                case measure => simp [intOf]; omega
              · obtain ⟨x, hx⟩ : ∃ x, (f 0)[j - p]? = some x := ⟨_, List.getElem?_eq_getElem (by rw [HQ.out]; omega)⟩
                obtain ⟨g3, d3, hg3, hc3⟩ := (JJ.out.2.2.upd hD).at_ (i := j) (x := x) (ofNats_get (by rw [List.getElem?_append_right (by rw [HP.out]; omega), HP.out]; exact hx))
                obtain ⟨g1, d1, hg1, hc1⟩ := (JJ.out.1.upd hD).at_ (i := j - p) (x := x) (ofNats_get hx)
                injection hg3 with e1 e2 e3
                injection hg1 with e4 e5 e6
                subst e1 e3 e4 e6
                clear hx e2 e5
                go_wp2
                go_roundw
                case rel =>
                  exact ⟨j + 1, by omega, by go_num, hUr⟩
                case measure => simp [intOf]; omega
            · go_wp2_with (go_at_call 11; refine (awake_any _).mono ?_; rintro e w9 ⟨rfl, hU9⟩)
              go_ret
              exact ⟨rfl, (hUa.trans (hUr.trans hU9 |>.weaken (T := fp6) (fun _ h => by cases h))).to (by simp)⟩

end Go.Proofs.Ytgcemlilfdjjlaa
