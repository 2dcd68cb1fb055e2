/- ChainUndoes returns true for every input: the walk. -/
import Derived.Test.YtgcemlilfdjjlaaChainI
import Derived.Test.YtgcemlilfdjjlaaArgs
namespace Go.Proofs.Ytgcemlilfdjjlaa
open Go.RowKit

def FwdIs (w : World) (b C L : Nat) (f : Nat → List Nat) (fp : List Nat) (n : Int) (e : Ending) (w' : World) : Prop :=
  ∃ v fp', e = .returned (.tuple #[v, .bool true]) ∧ Has w' fp' v (ofNats (f n.toNat)) ∧ Chain w' b C L f fp' ∧ Upd w fp w' fp'

theorem Chain.length {w : World} {b C L : Nat} {f : Nat → List Nat} {fp : List Nat} (h : Chain w b C L f fp) (n : Nat) : (f n).length ≤ C := by
  obtain ⟨m, _, _, _, _, _, hW, rfl, _⟩ := h
  exact hW.length n
theorem Chain.nodup {w : World} {b C L : Nat} {f : Nat → List Nat} {fp : List Nat} (h : Chain w b C L f fp) (n : Nat) : (f n).Nodup := by
  obtain ⟨m, _, _, _, _, _, hW, rfl, _⟩ := h
  exact hW.nodup n
theorem Chain.small {w : World} {b C L : Nat} {f : Nat → List Nat} {fp : List Nat} (h : Chain w b C L f fp) {n c : Nat} (hc : c ∈ f n) : c < C ∧ n < L := by
  obtain ⟨m, _, _, _, _, _, hW, rfl, rfl, _⟩ := h
  exact ⟨hW.small n c hc, hW.lt_lists hc⟩
theorem Chain.in_one {w : World} {b C L : Nat} {f : Nat → List Nat} {fp : List Nat} (h : Chain w b C L f fp) {n k c : Nat} (hn : c ∈ f n) (hk : c ∈ f k) : n = k := by
  obtain ⟨m, _, _, _, _, _, hW, _⟩ := h
  exact hW.in_one hn hk

theorem forward_int {b C L : Nat} {f : Nat → List Nat} {fp : List Nat} (n most : Int) (w : World) (h : Chain w b C L f fp) (hn : ¬ Out n L) (hm : C ≤ most) (hm2 : most ≤ 1048576) :
    Calls Try.prog 16 #[.pointer (some ⟨b, 0, none⟩), .int .i64 n, .int .i64 most] w (FwdIs w b C L f fp n) := by
  obtain ⟨n, rfl, hlt⟩ := Out.no hn
  obtain ⟨most, rfl⟩ := Int.eq_ofNat_of_zero_le (show 0 ≤ most by omega)
  refine (forward_any n most w h hlt (by have := h.length n; omega) (by omega)).mono fun e w' ⟨v, fp', he, hI, hC, hU, hG⟩ => ?_
  exact ⟨v, fp', he, ⟨hI, fun g hg => (hG g hg).2⟩, hC, hU⟩

def SomeChain (w : World) (b C L : Nat) (wr : World) : Prop := ∃ f fp, Chain wr b C L f fp ∧ Upd w [] wr fp

theorem nodup_split {A A' B B' : List Nat} {x : Nat} (hd : (A ++ x :: B).Nodup) (h : A ++ x :: B = A' ++ x :: B') : A = A' ∧ B = B' := by
  rcases List.append_eq_append_iff.1 h with ⟨C, hA, hC⟩ | ⟨C, hA, hC⟩
  · cases C with
    | nil => simp at hA hC; exact ⟨hA.symm, hC⟩
    | cons y C =>
      simp only [List.cons_append, List.cons.injEq] at hC
      obtain ⟨rfl, rfl⟩ := hC
      rw [List.nodup_append] at hd
      exact absurd (show x ∈ C ++ x :: B' by simp) (List.nodup_cons.1 hd.2.1).1
  · cases C with
    | nil => simp at hA hC; exact ⟨hA, hC.symm⟩
    | cons y C =>
      simp only [List.cons_append, List.cons.injEq] at hC
      obtain ⟨rfl, rfl⟩ := hC
      subst hA
      rw [List.nodup_append] at hd
      exact absurd rfl (hd.2.2 x (by simp) x (by simp))

theorem undo_bad {C : Nat} {f f' : Nat → List Nat} {t x r r' : Int} (hb : Out t C ∨ ∀ n, t.toNat ∉ f n) (h : AskR C f t ofNext x r) (h' : RemoveR C f t r' f') : r' = r ∧ (r == 0) = false := by
  have hb' : ∀ n A B, ¬ Out t C → f n = A ++ t.toNat :: B → False := fun n A B h1 h2 => by
    rcases hb with hb | hb
    · exact h1 hb
    · exact hb n (by rw [h2]; simp)
  rcases h with ⟨h1, _, rfl⟩ | ⟨h1, h2, _, rfl⟩ | ⟨h1, n, A, B, h2, _⟩
  · rcases h' with ⟨_, rfl, _⟩ | ⟨h3, _⟩ | ⟨h3, _⟩
    · exact ⟨rfl, rfl⟩
    · exact absurd h1 h3
    · exact absurd h1 h3
  · rcases h' with ⟨h3, _⟩ | ⟨_, _, rfl, _⟩ | ⟨_, n, A, B, h3, _⟩
    · exact absurd h3 h1
    · exact ⟨rfl, rfl⟩
    · exact (hb' n A B h1 h3).elim
  · exact (hb' n A B h1 h2).elim

theorem undo_next {f : Nat → List Nat} {t x r : Int} {A B : List Nat} {w : World} {b C : Nat} {fp : List Nat} (hC : Chain w b C 1 f fp) (h0 : ¬ Out t C) (hf : f 0 = A ++ t.toNat :: B) (h : AskR C f t ofNext x r) : x = numOf B.head? ∧ r = 0 := by
  rcases h with ⟨h1, _⟩ | ⟨_, h2, _⟩ | ⟨_, n, A', B', h2, hx, hr⟩
  · exact absurd h1 h0
  · exact absurd (show t.toNat ∈ f 0 by rw [hf]; simp) (h2 0)
  · have hn : n < 1 := (hC.small (n := n) (c := t.toNat) (by rw [h2]; simp)).2
    obtain rfl : n = 0 := by omega
    rw [hf] at h2
    obtain ⟨rfl, rfl⟩ := nodup_split (hf ▸ hC.nodup 0) h2
    exact ⟨hx, hr⟩

theorem undo_remove {f f' : Nat → List Nat} {t r : Int} {A B : List Nat} {w : World} {b C : Nat} {fp : List Nat} (hC : Chain w b C 1 f fp) (h0 : ¬ Out t C) (hf : f 0 = A ++ t.toNat :: B) (h : RemoveR C f t r f') : r = 0 ∧ f' = put f 0 (A ++ B) := by
  rcases h with ⟨h1, _⟩ | ⟨_, h2, _⟩ | ⟨_, n, A', B', h2, hr, hf'⟩
  · exact absurd h1 h0
  · exact absurd (show t.toNat ∈ f 0 by rw [hf]; simp) (h2 0)
  · have hn : n < 1 := (hC.small (n := n) (c := t.toNat) (by rw [h2]; simp)).2
    obtain rfl : n = 0 := by omega
    rw [hf] at h2
    obtain ⟨rfl, rfl⟩ := nodup_split (hf ▸ hC.nodup 0) h2
    exact ⟨hr, hf'⟩

theorem gone_free {f : Nat → List Nat} {c : Nat} {A B : List Nat} {w : World} {b C : Nat} {fp : List Nat} (hC : Chain w b C 1 f fp) (hf : f 0 = A ++ c :: B) : ∀ n, c ∉ put f 0 (A ++ B) n := by
  intro n hn
  by_cases h0 : n = 0
  · subst h0
    rw [put_same] at hn
    have hd := hC.nodup 0
    rw [hf, List.nodup_append] at hd
    rcases List.mem_append.1 hn with hn | hn
    · exact hd.2.2 c hn c (by simp) rfl
    · exact (List.nodup_cons.1 hd.2.1).1 hn
  · rw [put_other h0] at hn
    exact h0 (hC.in_one hn (show c ∈ f 0 by rw [hf]; simp))

theorem undo_before {f f' : Nat → List Nat} {t y r : Int} {A B : List Nat} {w : World} {b C : Nat} {fp : List Nat} (hC : Chain w b C 1 f fp) (h0 : ¬ Out t C) (h1 : ¬ Out y C) (hfree : ∀ n, t.toNat ∉ f n) (hf : f 0 = A ++ y.toNat :: B) (h : BeforeR C f t y r f') :
    r = 0 ∧ f' = put f 0 (A ++ t.toNat :: y.toNat :: B) := by
  rcases h with ⟨h, _⟩ | ⟨_, _, ⟨n, h⟩, _⟩ | ⟨_, _, _, h, _⟩ | ⟨_, _, _, n, A', B', h2, hr, hf'⟩
  · exact (h.elim h0 h1).elim
  · exact absurd h (hfree n)
  · exact absurd (show y.toNat ∈ f 0 by rw [hf]; simp) (h 0)
  · have hn : n < 1 := (hC.small (n := n) (c := y.toNat) (by rw [h2]; simp)).2
    obtain rfl : n = 0 := by omega
    rw [hf] at h2
    obtain ⟨rfl, rfl⟩ := nodup_split (hf ▸ hC.nodup 0) h2
    exact ⟨hr, hf'⟩

set_option maxHeartbeats 2000000 in
theorem undoes_any (v : Value) (zs : List Int) (t : Int) (w : World) (hin : InInts w v zs) : Calls Try.prog 4 #[v, .int .i64 t] w (Quiet w (.bool true)) := by
  have q0 : ¬ Out 0 1 := by unfold Out; omega
  have Q0 := Lib.hid q0
  clear q0
  obtain ⟨av, cv, rfl, hmax⟩ := hin.len
  unfold maxLen at hmax
  go_enter Try.func4, Try.ntmps4
  go_wp2_with (go_at_call 10; refine (new_int 64 1 w (by omega)).mono ?_; rintro e w1 ⟨b, rfl, hb, hC1, hU1⟩)
  go_loopw [8, 28] (fun _ i wr => ∃ k : Nat, k ≤ zs.length ∧ i = .int .i64 k ∧ SomeChain w b 64 1 wr) (fun _ i _ => zs.length - (intOf i).toNat)
  case atStart => exact ⟨0, Nat.zero_le _, rfl, _, _, hC1, hU1⟩
  case round =>
    obtain ⟨k, hk, rfl, f, fp, hC, hU⟩ := hrel
    by_cases hlt : k < zs.length
    · obtain ⟨a, cap, hv, hcell⟩ := (hin.upd hU).at_ hlt
      injection hv with h1 h2 h3
      subst h1 h3
      clear h2
      go_wp2_with (go_at_call 15; refine (append_any 0 _ wr hC).mono ?_; rintro e w2 ⟨r, f2, fp2, rfl, hC2, hU2, hR⟩; clear hR)
      go_roundw
      case rel => exact ⟨k + 1, by omega, by go_num, _, _, hC2, hU.trans hU2⟩
      case measure => simp [intOf]; omega
    · go_wp2_with fail
      refine (forward_int 0 64 wr hC Q0.out (by omega) (by omega)).mono ?_
      rintro e w2 ⟨v1, fp2, rfl, hI1, hC2, hU2⟩
      by_cases hbad : Out t 64 ∨ ∀ n, t.toNat ∉ f n
      · have HB := Lib.hid hbad
        clear hbad
        go_wp2_with (first
          | (go_at_call 17; refine (next_any t w2 hC2).mono ?_; rintro e w3 ⟨x, r, rfl, hR, rfl⟩; have HR := Lib.hid hR; clear hR)
          | (go_at_call 18; refine (remove_any t w2 hC2).mono ?_; rintro e w4 ⟨r', f4, fp4, rfl, hC4, hU4, hR'⟩; obtain ⟨rfl, hr0⟩ := undo_bad HB.out HR.out hR'; clear hR')
          | (go_at_call 11; refine (awake_any w4).mono ?_; rintro e w5 ⟨rfl, hU5⟩))
        go_ret
        exact ⟨rfl, (hU.trans (hU2.trans (hU4.trans (hU5.weaken (T := fp4) (fun _ h => by cases h))))).to (by simp)⟩
      · simp only [not_or, Classical.not_forall, Classical.not_not] at hbad
        obtain ⟨h0, n, hn⟩ := hbad
        obtain rfl : n = 0 := by have := (hC.small hn).2; omega
        obtain ⟨A, B, hf⟩ := List.append_of_mem hn
        obtain ⟨N, hN⟩ : ∃ N, N = A.length + B.length := ⟨_, rfl⟩
        have hl1 : (ofNats (f (Int.toNat 0))).length = N + 1 := by rw [ofNats_length, hN]; show (f 0).length = _; rw [hf]; simp; omega
        have hl2 : (ofNats (put f 0 (A ++ B) (Int.toNat 0))).length = N := by rw [ofNats_length, hN]; show (put f 0 (A ++ B) 0).length = _; rw [put_same]; simp
        have hN2 : N ≤ 64 := by have := hC.length 0; rw [hf] at this; simp at this; omega
        obtain ⟨a1, c1, hv1, _⟩ := hI1.len
        rw [hl1] at hv1
        have H0 := Lib.hid h0
        have HF := Lib.hid hf
        have HL1 := Lib.hid hl1
        have HL2 := Lib.hid hl2
        have HN := Lib.hid hN
        have hfree := gone_free hC hf
        have HFREE := Lib.hid hfree
        subst hv1
        clear h0 hf hl1 hl2 hN hn hfree
        cases B with
        | nil =>
          go_wp2_with (first
            | (go_at_call 17; refine (next_any t w2 hC2).mono ?_; rintro e w3 ⟨x, r, rfl, hR, rfl⟩; obtain ⟨rfl, rfl⟩ : x = -1 ∧ r = 0 := undo_next hC H0.out HF.out hR; clear hR)
            | (go_at_call 18; refine (remove_any t w2 hC2).mono ?_; rintro e w4 ⟨r', f4, fp4, rfl, hC4, hU4, hR'⟩; obtain ⟨rfl, rfl⟩ := undo_remove hC H0.out HF.out hR'; clear hR'; have tok := hU4)
            | (go_at_call 16; clear tok; refine (forward_int 0 64 w4 hC4 Q0.out (by omega) (by omega)).mono ?_; rintro e w5 ⟨v2, fp5, rfl, hI2, hC5, hU5⟩; obtain ⟨a2, c2, hv2, _⟩ := hI2.len; rw [HL2.out] at hv2; subst hv2)
            | (go_at_call 15; refine (append_any 0 t w5 hC5).mono ?_; rintro e w6 ⟨r, f6, fp6, rfl, hC6, hU6, hR⟩; obtain ⟨rfl, rfl⟩ := hR.good Q0.out H0.out HFREE.out; clear hR))
          go_wp2_with fail
          refine (forward_int 0 64 w6 hC6 Q0.out (by omega) (by omega)).mono ?_
          rintro e w7 ⟨v3, fp7, rfl, hI3, hC7, hU7⟩
          rw [show (put (put f 0 (A ++ [])) (Int.toNat 0) ((put f 0 (A ++ [])) (Int.toNat 0) ++ [t.toNat])) (Int.toNat 0) = f (Int.toNat 0) from by show (put (put f 0 (A ++ [])) 0 ((put f 0 (A ++ [])) (Int.toNat 0) ++ [t.toNat])) 0 = f 0; rw [HF.out]; simp [put_same]] at hI3
          obtain ⟨a3, c3, hv3, _⟩ := hI3.len
          rw [HL1.out] at hv3
          subst hv3
          have hI4 := (((hI1.upd hU4).upd hU5).upd hU6).upd hU7
          have hU8 := hU.trans (hU2.trans (hU4.trans (hU5.trans (hU6.trans hU7))))
          generalize hxs : ofNats (f (Int.toNat 0)) = xs at *
          have HX := Lib.hid hxs
          clear hxs hI1 hI2
          go_wp2_with fail
          go_loopw [15, 105] (fun _ i wr => ∃ k : Nat, k ≤ N + 1 ∧ i = .int .i64 k ∧ Upd w7 [] wr []) (fun _ i _ => N + 1 - (intOf i).toNat)
          case atStart => exact ⟨0, Nat.zero_le _, rfl, Upd.refl _ _⟩
          case round =>
            obtain ⟨j, hj, rfl, hUr⟩ := hrel
            by_cases hjl : j < N + 1
            · have hxj : ∃ x, xs[j]? = some x := ⟨_, List.getElem?_eq_getElem (by rw [HL1.out]; exact hjl)⟩
              obtain ⟨x, hx⟩ := hxj
              have hD := hUr.weaken (T := fp7) (fun _ h => by cases h) |>.to (T := fp7) (fun _ h => .inl h)
              obtain ⟨g3, d3, hg3, hc3⟩ := (hI3.upd hD).at_ hx
              obtain ⟨g4, d4, hg4, hc4⟩ := (hI4.upd hD).at_ hx
              injection hg3 with e1 e2 e3
              injection hg4 with e4 e5 e6
              subst e1 e3 e4 e6
              clear hx e2 e5
              go_wp2
              go_quiet (fail)
              go_wp2
              go_roundw
              case rel => exact ⟨j + 1, by omega, by go_num, hUr.drewN nq⟩
              case measure => simp [intOf]; omega
            · go_wp2_with (go_at_call 11; refine (awake_any _).mono ?_; rintro e w9 ⟨rfl, hU9⟩)
              go_ret
              exact ⟨rfl, (hU8.trans (hUr.trans hU9 |>.weaken (T := fp7) (fun _ h => by cases h))).to (by simp)⟩
        | cons y B =>
          have hy : ¬ Out (y : Int) 64 := by have := (hC.small (n := 0) (c := y) (by rw [HF.out]; simp)).1; unfold Out; omega
          have hy1 : ((y : Int) == -1) = false := by rw [beq_eq_false_iff_ne]; omega
          have HY := Lib.hid hy
          clear hy
          go_wp2_with (first
            | (go_at_call 17; refine (next_any t w2 hC2).mono ?_; rintro e w3 ⟨x, r, rfl, hR, rfl⟩; obtain ⟨rfl, rfl⟩ : x = (y : Int) ∧ r = 0 := undo_next hC H0.out HF.out hR; clear hR)
            | (go_at_call 18; refine (remove_any t w2 hC2).mono ?_; rintro e w4 ⟨r', f4, fp4, rfl, hC4, hU4, hR'⟩; obtain ⟨rfl, rfl⟩ := undo_remove hC H0.out HF.out hR'; clear hR'; have tok := hU4)
            | (go_at_call 16; clear tok; refine (forward_int 0 64 w4 hC4 Q0.out (by omega) (by omega)).mono ?_; rintro e w5 ⟨v2, fp5, rfl, hI2, hC5, hU5⟩; obtain ⟨a2, c2, hv2, _⟩ := hI2.len; rw [HL2.out] at hv2; subst hv2)
            | (go_at_call 19; refine (before_any t y w5 hC5).mono ?_; rintro e w6 ⟨r, f6, fp6, rfl, hC6, hU6, hR⟩; obtain ⟨rfl, rfl⟩ := undo_before hC5 H0.out HY.out HFREE.out (put_same ..) hR; clear hR))
          go_wp2_with fail
          refine (forward_int 0 64 w6 hC6 Q0.out (by omega) (by omega)).mono ?_
          rintro e w7 ⟨v3, fp7, rfl, hI3, hC7, hU7⟩
          rw [show (put (put f 0 (A ++ y :: B)) 0 (A ++ t.toNat :: (Int.toNat y) :: B)) (Int.toNat 0) = f (Int.toNat 0) from by show (put (put f 0 (A ++ y :: B)) 0 (A ++ t.toNat :: (Int.toNat y) :: B)) 0 = f 0; rw [HF.out]; simp [put_same]] at hI3
          obtain ⟨a3, c3, hv3, _⟩ := hI3.len
          rw [HL1.out] at hv3
          subst hv3
          have hI4 := (((hI1.upd hU4).upd hU5).upd hU6).upd hU7
          have hU8 := hU.trans (hU2.trans (hU4.trans (hU5.trans (hU6.trans hU7))))
          generalize hxs : ofNats (f (Int.toNat 0)) = xs at *
          have HX := Lib.hid hxs
          clear hxs hI1 hI2
          go_wp2_with fail
          go_loopw [15, 105] (fun _ i wr => ∃ k : Nat, k ≤ N + 1 ∧ i = .int .i64 k ∧ Upd w7 [] wr []) (fun _ i _ => N + 1 - (intOf i).toNat)
          case atStart => exact ⟨0, Nat.zero_le _, rfl, Upd.refl _ _⟩
          case round =>
            obtain ⟨j, hj, rfl, hUr⟩ := hrel
            by_cases hjl : j < N + 1
            · have hxj : ∃ x, xs[j]? = some x := ⟨_, List.getElem?_eq_getElem (by rw [HL1.out]; exact hjl)⟩
              obtain ⟨x, hx⟩ := hxj
              have hD := hUr.weaken (T := fp7) (fun _ h => by cases h) |>.to (T := fp7) (fun _ h => .inl h)
              obtain ⟨g3, d3, hg3, hc3⟩ := (hI3.upd hD).at_ hx
              obtain ⟨g4, d4, hg4, hc4⟩ := (hI4.upd hD).at_ hx
              injection hg3 with e1 e2 e3
              injection hg4 with e4 e5 e6
              subst e1 e3 e4 e6
              clear hx e2 e5
              go_wp2
              go_quiet (fail)
              go_wp2
              go_roundw
              case rel => exact ⟨j + 1, by omega, by go_num, hUr.drewN nq⟩
              case measure => simp [intOf]; omega
            · go_wp2_with (go_at_call 11; refine (awake_any _).mono ?_; rintro e w9 ⟨rfl, hU9⟩)
              go_ret
              exact ⟨rfl, (hU8.trans (hUr.trans hU9 |>.weaken (T := fp7) (fun _ h => by cases h))).to (by simp)⟩

end Go.Proofs.Ytgcemlilfdjjlaa
