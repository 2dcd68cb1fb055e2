/- The law's helper 'forward': the cells of a list by Ends and Next. -/
import Derived.Test.YtgcemlilfdjjlaaChainH
import Derived.Test.YtgcemlilfdjjlaaInts
namespace Go.Proofs.Ytgcemlilfdjjlaa
open Go.RowKit

def ForwardIs (w : World) (b C L : Nat) (f : Nat → List Nat) (fp : List Nat) (n : Nat) (e : Ending) (w' : World) : Prop :=
  ∃ v fp', e = .returned (.tuple #[v, .bool true]) ∧ Ints w' v (ofNats (f n)) ∧ Chain w' b C L f fp' ∧ Upd w fp w' fp' ∧ (∀ g, v.ownBlock = some g → w.heap.size ≤ g ∧ g ∉ fp')

def FwdRel (w1 : World) (f : Nat → List Nat) (n : Nat) (v c : Value) (wr : World) : Prop :=
  ∃ A B, f n = A ++ B ∧ c = .int .i64 (numOf B.head?) ∧ Ints wr v (ofNats A) ∧ Upd w1 [] wr [] ∧ (∀ g, v.ownBlock = some g → w1.heap.size ≤ g)

theorem AskR.next {C : Nat} {f : Nat → List Nat} {m : M} (hW : WF m f) {n : Nat} {A B : List Nat} {x : Nat} {y r : Int} (hf : f n = A ++ x :: B) (hx : x < C) (h : AskR C f x ofNext y r) : y = numOf B.head? ∧ r = 0 := by
  rcases h with ⟨h, _⟩ | ⟨_, h, _⟩ | ⟨_, k, A', B', h, hy, hr⟩
  · exact absurd h (by unfold Out; omega)
  · exact absurd (show x ∈ f n by rw [hf]; simp) (h n)
  · rw [Int.toNat_natCast] at h
    have h1 := hW.link n A x B hf
    rw [hW.link k A' x B' h] at h1
    injection h1 with _ _ h1
    exact ⟨hy.trans h1, hr⟩

theorem EndsR.some_ {L : Nat} {f : Nat → List Nat} {n x y r : Int} (h : EndsR L f n x y r) (hn : ¬ Out n L) : x = numOf (f n.toNat).head? ∧ y = numOf (f n.toNat).getLast? ∧ r = 0 := by
  rcases h with ⟨h, _⟩ | ⟨_, h⟩
  · exact absurd h hn
  · exact h

theorem numOf_none : numOf none = -1 := rfl
theorem numOf_some (x : Nat) : numOf (some x) = x := rfl

def lenOfV : Value → Nat | .slice _ k _ => k | _ => 0

set_option maxHeartbeats 2000000 in
theorem forward_any {b C L : Nat} {f : Nat → List Nat} {fp : List Nat} (n most : Nat) (w : World) (h : Chain w b C L f fp) (hn : n < L) (hm : (f n).length ≤ most) (hm2 : most ≤ 1048576) :
    Calls Try.prog 16 #[.pointer (some ⟨b, 0, none⟩), .int .i64 n, .int .i64 most] w (ForwardIs w b C L f fp n) := by
  have hout : ¬ Out n L := by unfold Out; omega
  have HO := Lib.hid hout
  have h' := h
  obtain ⟨m, _, _, _, _, _, hW, hC, _⟩ := h'
  have HW := Lib.hid hW
  have HC := Lib.hid hC
  clear hout hW hC
  obtain ⟨i0, hi, hz0, hz1, hz2⟩ := info_parts infoInt
  go_enter Try.func16, Try.ntmps16
  go_wp2_with (go_at_call 13; refine (ends_any n w h).mono ?_; rintro e w1 ⟨x, y, r, fp1, rfl, hC1, hU1, hR⟩; obtain ⟨rfl, rfl, rfl⟩ := hR.some_ HO.out; clear hR)
  go_loopw [11, 12, 13, 14, 25] (fun v c _ _ _ wr => FwdRel w1 f n v c wr) (fun v _ _ _ _ _ => most + 1 - lenOfV v)
  case atStart => exact ⟨[], f n, rfl, rfl, Ints.nil _, Upd.refl _ _, fun g e => by simp [Value.ownBlock] at e⟩
  case round =>
    obtain ⟨A, B, hf, rfl, hI, hU, hG⟩ := hrel
    have hCr := hC1.upd hU (by simp)
    have hlen : A.length + B.length = (f n).length := by rw [hf]; simp
    obtain ⟨a, cap, rfl, hmax⟩ := hI.len
    rw [ofNats_length] at hmax
    have hsz := hU.size
    have HI := Lib.hid hI
    rw [ofNats_length]
    cases B with
    | nil =>
      rw [List.append_nil] at hf
      rw [hf]
      simp only [List.head?_nil, numOf_none]
      rcases List.eq_nil_or_concat A with rfl | ⟨A', z, rfl⟩
      · have HF := Lib.hid hf
        clear hlen hf
        simp only [List.getLast?_nil, List.length_nil, numOf_none]
        go_wp2
        go_quiet (fail)
        go_wp2
        go_ret2
        have hD := (hU.drewN nq)
        have hG' : ∀ g', Value.ownBlock (.slice a (ofNats []).length cap) = some g' → w.heap.size ≤ g' ∧ g' ∉ fp1 := fun g' e => ⟨by have := hG g' e; have := hU1.size; omega, fun hm => by have := hC1.lt g' hm; have := hG g' e; omega⟩
        exact ⟨_, fp1, rfl, (by rw [HF.out]; exact HI.out.upd ((Upd.refl wr []).drewN nq) (fun _ _ h => by cases h)), hC1.upd hD (fun _ _ h => by cases h), hU1.trans ((hD.weaken (T := fp1) (fun _ h => by cases h)).to (fun _ h => .inl h)), hG'⟩
      · rw [List.concat_eq_append] at *
        obtain ⟨g, cap', hv, hg, hcell⟩ := hI.at_ (i := A'.length) (x := z) (by simp [ofNats])
        have hg1 := hG g hg
        have hgC : g ∉ fp1 := fun e => by have := hC1.lt g e; omega
        have hgl := HI.out.lt g hg
        rw [ofNats_length, List.length_append, List.length_singleton] at hv
        have HF := Lib.hid hf
        simp only [List.getLast?_append, List.getLast?_singleton, List.length_append, List.length_singleton, Option.some_or, numOf_some]
        simp only [List.length_append, List.length_singleton] at hmax
        unfold maxLen at hmax
        obtain ⟨k, hk⟩ : ∃ k, k = A'.length + 1 := ⟨_, rfl⟩
        rw [← hk] at hv hmax ⊢
        rw [show A'.length = k - 1 from by omega] at hcell
        injection hv with h1 h2 h3
        subst h1 h3
        have k1 : 1 ≤ k := by omega
        have k2 : (k : Int) ≤ 9223372036854775807 := by omega
        have q1 : IntKind.i64.wrap ((k : Int) - 1) = ((k - 1 : Nat) : Int) := by rw [IntWalk.i64_in _ (by omega)]; omega
        have q2 : ((k : Int) == 0) = false := by rw [beq_eq_false_iff_ne]; omega
        have q3 : decide ((0 : Int) < k) = true := by simp; omega
        have q4 : k - 1 < k := by omega
        have q5 : 0 < k := by omega
        have q6 : decide (0 < k) = true := by simp; omega
        have q7 : (k == 0) = false := by rw [beq_eq_false_iff_ne]; omega
        have HQ1 := Lib.hid hk
        clear hlen hf h2 hk hI
        go_wp2
        go_quiet (fail)
        go_wp2
        go_ret2
        have hI2 := HI.out
        have hlk : (ofNats (A' ++ [z])).length = k := by rw [ofNats_length, List.length_append, List.length_singleton, ← HQ1.out]
        rw [hlk] at hI2 hG
        have hD := (hU.drewN nq)
        have hG' : ∀ g', Value.ownBlock (.slice (some ⟨g, 0, none⟩) k cap) = some g' → w.heap.size ≤ g' ∧ g' ∉ fp1 := fun g' e => ⟨by have := hG g' e; have := hU1.size; omega, fun hm => by have := hC1.lt g' hm; have := hG g' e; omega⟩
        exact ⟨_, fp1, rfl, (by rw [HF.out]; exact hI2.upd ((Upd.refl wr []).drewN nq) (fun _ _ h => by cases h)), hC1.upd hD (fun _ _ h => by cases h), hU1.trans ((hD.weaken (T := fp1) (fun _ h => by cases h)).to (fun _ h => .inl h)), hG'⟩
    | cons x B =>
      simp only [List.head?_cons, numOf_some]
      have hx : ((x : Int) == -1) = false := by rw [beq_eq_false_iff_ne]; omega
      have hx' : ((x : Int) != -1) = true := by rw [bne_iff_ne]; omega
      have hb1 : ((ofNats A).length + 1) * 8 ≤ 140737488355328 := by rw [ofNats_length]; simp at hlen; omega
      have hb2 : (ofNats A).length + 1 ≤ maxLen := by rw [ofNats_length]; simp at hlen; simp only [maxLen]; omega
      have hb3 : A.length ≤ most := by simp at hlen; omega
      have hmem : x ∈ f n := by rw [hf]; simp
      have hxC : x < C := by rw [← HC.out]; exact HW.out.small n x hmem
      have HLEN := Lib.hid hlen
      have HF := Lib.hid hf
      clear hlen hf
      go_wp2_with (first
        | (at_builtin; refine wpList_append_new wr rfl _ _ 38 rfl 3 i0 (.int .i64 0) 1 8 Try.underlying38 hi hz0 hz1 hz2 rfl _ (ofNats A).length _ HI.out (by rw [ofNats_length]; rfl) [.int .i64 x] (by rfl) rfl rfl hb1 hb2 ?_; rintro v' w2 ht hg hk ⟨g', cap', rfl⟩; have hU2 : Upd wr (Value.ownBlock (.slice a (ofNats A).length cap)).toList w2 [] := ((Upd.refl wr _).grown hg (fun k e => .inl (by rw [e]; simp))).to (by simp); have hC2 := hCr.upd hU2 (fun k hk' e => by have := hG k (by simpa using e); have := hC1.lt k hk'; omega))
        | (go_at_call 17; refine (next_any x w2 hC2).mono ?_; rintro e w3 ⟨y, r, rfl, hR, rfl⟩; obtain ⟨rfl, rfl⟩ := hR.next HW.out HF.out hxC; clear hR))
      go_roundw
      case rel =>
        refine ⟨A ++ [x], B, by rw [HF.out]; simp, rfl, ?_, ?_, fun g e => ?_⟩
        · rw [ofNats_append]; exact Ints.snoc ht
        · exact hU.grown hg (fun k e => .inr (hG k e))
        · rcases hk g e with h' | h'
          · exact hG g h'
          · omega
      case measure =>
        simp only [lenOfV, ofNats_length]
        omega

end Go.Proofs.Ytgcemlilfdjjlaa
