/- ChainBothWays returns true for every input: the walk. -/
import Derived.Test.YtgcemlilfdjjlaaJoins
import Derived.Test.YtgcemlilfdjjlaaOps
namespace Go.Proofs.Ytgcemlilfdjjlaa
open Go.RowKit

/-- How many cells stand in the k lists from j on. -/
def rest (f : Nat → List Nat) : Nat → Nat → Nat
  | 0, _ => 0
  | k + 1, j => (f j).length + rest f k (j + 1)

theorem rest_le {f : Nat → List Nat} {b : Nat} (h : ∀ n, (f n).length ≤ b) : ∀ k j, rest f k j ≤ k * b
  | 0, _ => by simp [rest]
  | k + 1, j => by have := rest_le h k (j + 1); have := h j; rw [Nat.succ_mul]; simp only [rest]; omega

theorem rest_put_out {f : Nat → List Nat} {n : Nat} {l : List Nat} : ∀ k j, n < j ∨ j + k ≤ n → rest (put f n l) k j = rest f k j
  | 0, _, _ => rfl
  | k + 1, j, h => by
    simp only [rest]
    rw [put_other (by omega), rest_put_out k (j + 1) (by omega)]

theorem rest_put {f : Nat → List Nat} {n : Nat} {l : List Nat} : ∀ k j, j ≤ n → n < j + k → rest (put f n l) k j + (f n).length = rest f k j + l.length
  | 0, j, h1, h2 => by omega
  | k + 1, j, h1, h2 => by
    simp only [rest]
    by_cases e : j = n
    · subst e
      rw [put_same, rest_put_out k (j + 1) (by omega)]
      omega
    · have := rest_put (f := f) (n := n) (l := l) k (j + 1) (by omega) (by omega)
      rw [put_other e]
      omega

theorem AppendR.tot {C L : Nat} {f f' : Nat → List Nat} {n c r : Int} (h : AppendR C L f n c r f') : (r = 0 ∧ rest f' L 0 = rest f L 0 + 1) ∨ ((r == 0) = false ∧ rest f' L 0 = rest f L 0) := by
  rcases h with ⟨_, rfl, rfl⟩ | ⟨_, _, rfl, rfl⟩ | ⟨_, _, _, rfl, rfl⟩ | ⟨hn, _, _, rfl, rfl⟩
  · exact .inr ⟨rfl, rfl⟩
  · exact .inr ⟨rfl, rfl⟩
  · exact .inr ⟨rfl, rfl⟩
  · refine .inl ⟨rfl, ?_⟩
    have := rest_put (f := f) (n := n.toNat) (l := f n.toNat ++ [c.toNat]) L 0 (Nat.zero_le _) (by unfold Out at hn; omega)
    simp at this
    omega

theorem BeforeR.tot {C L : Nat} {f f' : Nat → List Nat} {c k r : Int} (hs : ∀ n x, x ∈ f n → n < L) (h : BeforeR C f c k r f') : (r = 0 ∧ rest f' L 0 = rest f L 0 + 1) ∨ ((r == 0) = false ∧ rest f' L 0 = rest f L 0) := by
  rcases h with ⟨_, rfl, rfl⟩ | ⟨_, _, _, rfl, rfl⟩ | ⟨_, _, _, _, rfl, rfl⟩ | ⟨_, _, _, n, A, B, hf, rfl, rfl⟩
  · exact .inr ⟨rfl, rfl⟩
  · exact .inr ⟨rfl, rfl⟩
  · exact .inr ⟨rfl, rfl⟩
  · refine .inl ⟨rfl, ?_⟩
    have := rest_put (f := f) (n := n) (l := A ++ c.toNat :: k.toNat :: B) L 0 (Nat.zero_le _) (by have := hs n k.toNat (by rw [hf]; simp); omega)
    rw [hf] at this
    simp at this
    omega

theorem RemoveR.tot {C L : Nat} {f f' : Nat → List Nat} {c r : Int} (hs : ∀ n x, x ∈ f n → n < L) (h : RemoveR C f c r f') : (r = 0 ∧ rest f' L 0 + 1 = rest f L 0) ∨ ((r == 0) = false ∧ rest f' L 0 = rest f L 0) := by
  rcases h with ⟨_, rfl, rfl⟩ | ⟨_, _, rfl, rfl⟩ | ⟨_, n, A, B, hf, rfl, rfl⟩
  · exact .inr ⟨rfl, rfl⟩
  · exact .inr ⟨rfl, rfl⟩
  · refine .inl ⟨rfl, ?_⟩
    have := rest_put (f := f) (n := n) (l := A ++ B) L 0 (Nat.zero_le _) (by have := hs n c.toNat (by rw [hf]; simp); omega)
    rw [hf] at this
    simp at this
    omega

theorem JoinR.tot {L : Nat} {f f' : Nat → List Nat} {n k r : Int} (h : JoinR L f n k r f') : rest f' L 0 = rest f L 0 := by
  rcases h with ⟨_, _, rfl⟩ | ⟨_, _, _, _, rfl⟩ | ⟨hn, hk, hnk, _, rfl⟩
  · rfl
  · rfl
  · unfold Out at hn hk
    have h1 := rest_put (f := f) (n := k.toNat) (l := f k.toNat ++ f n.toNat) L 0 (Nat.zero_le _) (by omega)
    have h2 := rest_put (f := put f k.toNat (f k.toNat ++ f n.toNat)) (n := n.toNat) (l := []) L 0 (Nat.zero_le _) (by omega)
    rw [put_other (show n.toNat ≠ k.toNat by omega)] at h2
    simp at h1 h2
    omega

theorem AskR.at_ {C L : Nat} {f : Nat → List Nat} {c j : Nat} {what : Nat → List Nat → List Nat → Int} {x r : Int} {A B : List Nat} {w : World} {b : Nat} {fp : List Nat} (hC : Chain w b C L f fp) (hf : f j = A ++ c :: B) (h : AskR C f c what x r) : x = what j A B ∧ r = 0 := by
  have hm : c ∈ f j := by rw [hf]; simp
  rcases h with ⟨h1, _⟩ | ⟨_, h2, _⟩ | ⟨_, n, A', B', h2, hx, hr⟩
  · exact absurd h1 (by have := (hC.small hm).1; unfold Out; omega)
  · exact absurd hm (h2 j)
  · rw [Int.toNat_natCast] at h2
    obtain rfl : n = j := hC.in_one (c := c) (by rw [h2]; simp) hm
    rw [hf] at h2
    obtain ⟨rfl, rfl⟩ := nodup_split (hf ▸ hC.nodup n) h2
    exact ⟨hx, hr⟩

theorem cut_at {l : List Nat} {i c : Nat} (h : l[i]? = some c) : l = l.take i ++ c :: l.drop (i + 1) := by
  obtain ⟨hi, hc⟩ := List.getElem?_eq_some_iff.1 h
  rw [← hc, ← List.drop_eq_getElem_cons hi, List.take_append_drop]

set_option maxRecDepth 100000 in
set_option maxHeartbeats 4000000 in
theorem both_any (v : Value) (zs : List OpRec) (w : World) (hin : InOps w v zs) : Calls Try.prog 9 #[v] w (Quiet w (.bool true)) := by
  obtain ⟨av, cv, rfl, hmax⟩ := hin.len
  unfold maxLen at hmax
  go_enter Try.func9, Try.ntmps9
  go_wp2_with (go_at_call 10; refine (new_int 40 6 w (by omega)).mono ?_; rintro e w1 ⟨b, rfl, hb, hC1, hU1⟩)
  go_loopw [5, 7, 32] (fun p _ i wr => ∃ (k : Nat) (f : Nat → List Nat) (fp : List Nat), k ≤ zs.length ∧ i = .int .i64 k ∧ p = .int .i64 (rest f 6 0) ∧ Chain wr b 40 6 f fp ∧ Upd w [] wr fp) (fun _ _ i _ => zs.length - (intOf i).toNat)
  case atStart => exact ⟨0, _, _, Nat.zero_le _, rfl, rfl, hC1, hU1⟩
  case round =>
    obtain ⟨k, f, fp, hk, rfl, rfl, hC, hU⟩ := hrel
    have hle : rest f 6 0 ≤ 240 := rest_le (fun n => hC.length n) 6 0
    by_cases hlt : k < zs.length
    · obtain ⟨o, ho⟩ : ∃ o, zs[k]? = some o := ⟨_, List.getElem?_eq_getElem hlt⟩
      obtain ⟨a, cap, hv, hc0, hc1, hc2⟩ := (hin.upd hU).at_ ho
      injection hv with h1 h2 h3
      subst h1 h3
      clear h2 ho
      have hA : ∀ O, Chain (wr.alloc O) b 40 6 f fp := fun O => hC.upd ((Upd.refl wr []).alloc O) (fun _ _ h => by cases h)
      have HA := Lib.hid hA
      clear hA
      by_cases k1 : o.kind = 1
      · have b1 : (o.kind == 1) = true := by rw [beq_iff_eq]; exact k1
        clear k1
        go_wp2_with fail
        refine (append_any o.a o.b _ (HA.out _)).mono ?_
        rintro e w2 ⟨r, f2, fp2, rfl, hC2, hU2, hR⟩
        rcases hR.tot with ⟨rfl, ht⟩ | ⟨hr, ht⟩
        · have HT := Lib.hid ht
          clear ht hR
          go_wp2
          go_roundw
          case rel => exact ⟨k + 1, f2, fp2, by omega, by go_num, by have := HT.out; refine congrArg _ ?_; omega, hC2, hU.trans (((Upd.refl wr fp).alloc _).trans hU2)⟩
          case measure => simp [intOf]; omega
        · have HT := Lib.hid ht
          clear ht hR
          go_wp2
          go_roundw
          case rel => exact ⟨k + 1, f2, fp2, by omega, by go_num, by rw [HT.out], hC2, hU.trans (((Upd.refl wr fp).alloc _).trans hU2)⟩
          case measure => simp [intOf]; omega
      have b1 : (o.kind == 1) = false := by rw [beq_eq_false_iff_ne]; exact k1
      by_cases k2 : o.kind = 2
      · have b2 : (o.kind == 2) = true := by rw [beq_iff_eq]; exact k2
        clear k2
        go_wp2_with fail
        refine (before_any o.a o.b _ (HA.out _)).mono ?_
        rintro e w2 ⟨r, f2, fp2, rfl, hC2, hU2, hR⟩
        rcases hR.tot (f := f) (fun n x hx => (hC.small hx).2) with ⟨rfl, ht⟩ | ⟨hr, ht⟩
        · have HT := Lib.hid ht
          clear ht hR
          go_wp2
          go_roundw
          case rel => exact ⟨k + 1, f2, fp2, by omega, by go_num, by have := HT.out; refine congrArg _ ?_; omega, hC2, hU.trans (((Upd.refl wr fp).alloc _).trans hU2)⟩
          case measure => simp [intOf]; omega
        · have HT := Lib.hid ht
          clear ht hR
          go_wp2
          go_roundw
          case rel => exact ⟨k + 1, f2, fp2, by omega, by go_num, by rw [HT.out], hC2, hU.trans (((Upd.refl wr fp).alloc _).trans hU2)⟩
          case measure => simp [intOf]; omega
      have b2 : (o.kind == 2) = false := by rw [beq_eq_false_iff_ne]; exact k2
      by_cases k3 : o.kind = 3
      · have b3 : (o.kind == 3) = true := by rw [beq_iff_eq]; exact k3
        clear k3
        go_wp2_with fail
        refine (remove_any o.a _ (HA.out _)).mono ?_
        rintro e w2 ⟨r, f2, fp2, rfl, hC2, hU2, hR⟩
        rcases hR.tot (f := f) (fun n x hx => (hC.small hx).2) with ⟨rfl, ht⟩ | ⟨hr, ht⟩
        · have HT := Lib.hid ht
          clear ht hR
          go_wp2
          go_roundw
          case rel => exact ⟨k + 1, f2, fp2, by omega, by go_num, by have := HT.out; refine congrArg _ ?_; omega, hC2, hU.trans (((Upd.refl wr fp).alloc _).trans hU2)⟩
          case measure => simp [intOf]; omega
        · have HT := Lib.hid ht
          clear ht hR
          go_wp2
          go_roundw
          case rel => exact ⟨k + 1, f2, fp2, by omega, by go_num, by rw [HT.out], hC2, hU.trans (((Upd.refl wr fp).alloc _).trans hU2)⟩
          case measure => simp [intOf]; omega
      have b3 : (o.kind == 3) = false := by rw [beq_eq_false_iff_ne]; exact k3
      by_cases k4 : o.kind = 4
      · have b4 : (o.kind == 4) = true := by rw [beq_iff_eq]; exact k4
        clear k4
        go_wp2_with fail
        refine (join_any o.a o.b _ (HA.out _)).mono ?_
        rintro e w2 ⟨r, f2, fp2, rfl, hC2, hU2, hR⟩
        have ht := hR.tot
        have HT := Lib.hid ht
        clear ht hR
        go_wp2
        go_roundw
        case rel => exact ⟨k + 1, f2, fp2, by omega, by go_num, by rw [HT.out], hC2, hU.trans (((Upd.refl wr fp).alloc _).trans hU2)⟩
        case measure => simp [intOf]; omega
      have b4 : (o.kind == 4) = false := by rw [beq_eq_false_iff_ne]; exact k4
      clear k1 k2 k3 k4
      go_wp2
      go_roundw
      case rel => exact ⟨k + 1, f, fp, by omega, by go_num, rfl, HA.out _, hU.trans ((Upd.refl wr fp).alloc _)⟩
      case measure => simp [intOf]; omega
    · go_wp2_with fail
      obtain ⟨wo, rfl⟩ : ∃ wo : World, wo = wr := ⟨_, rfl⟩
      go_loopw [5, 8, 9, 10, 11, 12, 13, 14, 15, 16, 17, 18, 19, 78] (fun p i _ _ _ _ _ _ _ _ _ _ _ _ wr => ∃ (j : Nat) (fp : List Nat), j ≤ 6 ∧ i = .int .i64 j ∧ p = .int .i64 (rest f (6 - j) j) ∧ Chain wr b 40 6 f fp ∧ Upd w [] wr fp) (fun _ i _ _ _ _ _ _ _ _ _ _ _ _ _ => 6 - (intOf i).toNat)
      case atStart => exact ⟨0, fp, by omega, rfl, rfl, hC, hU⟩
      case round =>
        clear hC hU hle
        clear fp
        obtain ⟨j, fp, hj, rfl, rfl, hC, hU⟩ := hrel
        by_cases hjl : j < 6
        · have hout : ¬ Out (j : Int) 6 := by unfold Out; omega
          have HO := Lib.hid hout
          have hj6 : 6 - j = (5 - j) + 1 := by omega
          have hlen := hC.length j
          have hrest : rest f (6 - j) j = (f j).length + rest f (5 - j) (j + 1) := by rw [hj6]; rfl
          have hle : rest f (5 - j) (j + 1) ≤ 240 := Nat.le_trans (rest_le (fun n => hC.length n) _ _) (by omega)
          rw [hrest]
          obtain ⟨q, hq⟩ : ∃ q, (f j).length = q := ⟨_, rfl⟩
          rw [hq] at hlen ⊢
          have HQ := Lib.hid hq
          clear hout hj6 hrest hq
          go_wp2_with fail
          refine (forward_int j 40 wr hC HO.out (by omega) (by omega)).mono ?_
          rintro e w2 ⟨v1, fp2, rfl, hI1, hC2, hU2⟩
          rw [Int.toNat_natCast] at hI1
          go_wp2_with fail
          refine (len_any j w2 hC2).mono ?_
          rintro e w3 ⟨x, r, fp3, rfl, hC3, hU3, hR⟩
          obtain ⟨rfl, rfl⟩ : x = q ∧ r = 0 := by
            rcases hR with ⟨h, _⟩ | ⟨_, h1, h2⟩
            · exact absurd h HO.out
            · rw [Int.toNat_natCast, HQ.out] at h1; exact ⟨h1, h2⟩
          clear hR
          have hI2 := hI1.upd hU3
          obtain ⟨a1, c1, hv1, _⟩ := hI2.len
          rw [ofNats_length, HQ.out] at hv1
          subst hv1
          clear hI1
          have hUa := hU.trans (hU2.trans hU3)
          obtain ⟨wo2, rfl⟩ : ∃ wo2 : World, wo2 = wr := ⟨_, rfl⟩
          go_wp2_with fail
          go_loopw [13, 14, 15, 16, 17, 18, 19, 111] (fun _ _ _ _ _ _ _ i wr => ∃ k : Nat, k ≤ q ∧ i = .int .i64 k ∧ Upd w3 [] wr []) (fun _ _ _ _ _ _ _ i _ => q - (intOf i).toNat)
          case atStart => exact ⟨0, Nat.zero_le _, rfl, Upd.refl _ _⟩
          case round =>
            obtain ⟨i, hi, rfl, hUr⟩ := hrel
            have hD := hUr.weaken (T := fp3) (fun _ h => by cases h) |>.to (T := fp3) (fun _ h => .inl h)
            have hCr := hC3.upd hUr (fun _ _ h => by cases h)
            by_cases hil : i < q
            · obtain ⟨c, hc⟩ : ∃ c, (f j)[i]? = some c := ⟨_, List.getElem?_eq_getElem (by rw [HQ.out]; exact hil)⟩
              obtain ⟨g3, d3, hg3, hc3⟩ := (hI2.upd hD).at_ (i := i) (x := c) (ofNats_get hc)
              injection hg3 with e1 e2 e3
              subst e1 e3
              have hcut := cut_at hc
              have HCUT := Lib.hid hcut
              have HC := Lib.hid hc
              clear hc e2 hcut
              cases i with
              | zero =>
                go_wp2_with (first
                  | (go_at_call 14; refine (owner_any c wr hCr).mono ?_; rintro e w4 ⟨x, r, rfl, hR, rfl⟩; obtain ⟨rfl, rfl⟩ : x = j ∧ r = 0 := AskR.at_ hCr HCUT.out hR; clear hR)
                  | (go_at_call 26; refine (prev_any c wr hCr).mono ?_; rintro e w4 ⟨x, r, rfl, hR, rfl⟩; obtain ⟨rfl, rfl⟩ : x = (-1) ∧ r = 0 := ⟨(AskR.at_ hCr HCUT.out hR).1.trans rfl, (AskR.at_ hCr HCUT.out hR).2⟩; clear hR))
                go_roundw
                case rel => exact ⟨0 + 1, by omega, by go_num, hUr⟩
                case measure => simp [intOf]; omega
              | succ i =>
                obtain ⟨y, hy⟩ : ∃ y, (f j)[i]? = some y := ⟨_, List.getElem?_eq_getElem (by rw [HQ.out]; omega)⟩
                obtain ⟨g4, d4, hg4, hc4⟩ := (hI2.upd hD).at_ (i := i) (x := y) (ofNats_get hy)
                injection hg4 with e1 e2 e3
                injection e1 with e1
                injection e1 with e1
                subst e1
                have hyl : ofPrev j (List.take (i + 1) (f j)) (List.drop (i + 1 + 1) (f j)) = (y : Int) := by
                  show numOf (List.take (i + 1) (f j)).getLast? = y
                  rw [List.take_add_one, hy]; simp [numOf]
                have HY := Lib.hid hyl
                clear hy hyl e2 e3
                go_wp2_with (first
                  | (go_at_call 14; refine (owner_any c wr hCr).mono ?_; rintro e w4 ⟨x, r, rfl, hR, rfl⟩; obtain ⟨rfl, rfl⟩ : x = j ∧ r = 0 := AskR.at_ hCr HCUT.out hR; clear hR)
                  | (go_at_call 26; refine (prev_any c wr hCr).mono ?_; rintro e w4 ⟨x, r, rfl, hR, rfl⟩; obtain ⟨rfl, rfl⟩ : x = y ∧ r = 0 := ⟨(AskR.at_ hCr HCUT.out hR).1.trans HY.out, (AskR.at_ hCr HCUT.out hR).2⟩; clear hR))
                go_roundw
                case rel => exact ⟨(i + 1) + 1, by omega, by go_num, hUr⟩
                case measure => simp [intOf]; omega
            · go_wp2
              go_roundw
              case rel => exact ⟨j + 1, fp3, by omega, by go_num, by rw [show 6 - (j + 1) = 5 - j from by omega]; go_num, hCr, hUa.trans hD⟩
              case measure => simp [intOf]; omega
        · obtain rfl : j = 6 := by omega
          rw [show rest f (6 - 6) 6 = 0 from rfl]
          go_wp2_with (go_at_call 11; refine (awake_any _).mono ?_; rintro e w9 ⟨rfl, hU9⟩)
          go_ret
          exact ⟨rfl, (hU.trans (hU9.weaken (T := fp) (fun _ h => by cases h))).to (by simp)⟩

end Go.Proofs.Ytgcemlilfdjjlaa
