/- The document's answer: Owner, Beside, Ends, Len. -/
import Derived.Test.YtgcemlilfdjjlaaRefF
namespace Go.Proofs.Ytgcemlilfdjjlaa
open Go.RowKit

attribute [local go_sem] Oper.semAt_some

section
variable {b C L : Nat} {f : Nat → List Nat} {fp : List Nat}

theorem ofNats_at {l : List Nat} {i : Nat} {x : Nat} (h : l[i]? = some x) : (ofNats l)[i]? = some (x : Int) := by simp [ofNats, h]

theorem rowner_any (c : Int) (w : World) (h : Ref w b C L f fp) (hF : Fits L f) :
    Calls Try.prog 36 #[.pointer (some ⟨b, 0, none⟩), .int .i64 c] w (AskIs w (AskR C f c ofOwner)) := by
  have H := Lib.hid h
  clear h
  by_cases hc : Out c C
  · have HC := Lib.hid hc
    clear hc
    go_enter Try.func36, Try.ntmps36
    go_wp2_with fail
    refine (nocell_yes H.out HC.out).mono ?_
    rintro e w1 ⟨rfl, rfl⟩
    go_wp2_with fail
    go_ret2
    exact ⟨0, 42, rfl, .inl ⟨HC.out, rfl, rfl⟩, rfl⟩
  have h0 : 0 ≤ c := by unfold Out at hc; omega
  have HC := Lib.hid (And.intro hc h0)
  clear hc h0
  by_cases hm : ∃ j, c.toNat ∈ f j
  · have HM := Lib.hid hm
    clear hm
    go_enter Try.func36, Try.ntmps36
    go_wp2_with fail
    refine (nocell_no H.out HC.out.1).mono ?_
    rintro e w1 ⟨rfl, rfl⟩
    go_wp2_with fail
    refine (find_some H.out hF.lists HC.out.2 HM.out).mono ?_
    rintro e w1 ⟨m, A, B, rfl, rfl, hf⟩
    have HX := Lib.hid hf
    clear hf
    go_wp2_with fail
    go_ret2
    exact ⟨_, _, rfl, .inr (.inr ⟨HC.out.1, m, A, B, HX.out, rfl, rfl⟩), rfl⟩
  · have hm' : ∀ j, c.toNat ∉ f j := fun j hj => hm ⟨j, hj⟩
    have HM := Lib.hid hm'
    clear hm hm'
    go_enter Try.func36, Try.ntmps36
    go_wp2_with fail
    refine (nocell_no H.out HC.out.1).mono ?_
    rintro e w1 ⟨rfl, rfl⟩
    go_wp2_with fail
    refine (find_none H.out hF.lists HM.out).mono ?_
    rintro e w1 ⟨rfl, rfl⟩
    go_wp2_with fail
    go_ret2
    exact ⟨0, 44, rfl, .inr (.inl ⟨HC.out.1, HM.out, rfl, rfl⟩), rfl⟩

def besideOf (k : Int) : Nat → List Nat → List Nat → Int := if k = 1 then ofNext else ofPrev
theorem besideOf_next : besideOf 1 = ofNext := if_pos rfl
theorem besideOf_prev : besideOf (-1) = ofPrev := if_neg (by omega)

set_option maxHeartbeats 1000000 in
theorem rbeside_any (c by_ : Int) (hby : by_ = 1 ∨ by_ = -1) (w : World) (h : Ref w b C L f fp) (hF : Fits L f) :
    Calls Try.prog 37 #[.pointer (some ⟨b, 0, none⟩), .int .i64 c, .int .i64 by_] w (AskIs w (AskR C f c (besideOf by_))) := by
  have H := Lib.hid h
  clear h
  by_cases hc : Out c C
  · have HC := Lib.hid hc
    clear hc hby
    go_enter Try.func37, Try.ntmps37
    go_wp2_with fail
    refine (nocell_yes H.out HC.out).mono ?_
    rintro e w1 ⟨rfl, rfl⟩
    go_wp2_with fail
    go_ret2
    exact ⟨0, 42, rfl, .inl ⟨HC.out, rfl, rfl⟩, rfl⟩
  have h0 : 0 ≤ c := by unfold Out at hc; omega
  have HC := Lib.hid (And.intro hc h0)
  clear hc h0
  by_cases hm : ∃ j, c.toNat ∈ f j
  · have HM := Lib.hid hm
    have HBY := Lib.hid hby
    clear hm hby
    go_enter Try.func37, Try.ntmps37
    go_wp2_with fail
    refine (nocell_no H.out HC.out.1).mono ?_
    rintro e w1 ⟨rfl, rfl⟩
    go_wp2_with fail
    refine (find_some H.out hF.lists HC.out.2 HM.out).mono ?_
    rintro e w1 ⟨m, A, B, rfl, rfl, hf⟩
    have hcn : cellsOf f m = f m := by unfold cellsOf; rw [if_pos (by omega), Int.toNat_natCast]
    obtain ⟨p, hp⟩ : ∃ p, A.length = p := ⟨_, rfl⟩
    obtain ⟨q, hq⟩ : ∃ q, (f m).length = q := ⟨_, rfl⟩
    have hpq : q = p + 1 + B.length := by rw [← hp, ← hq, hf]; simp; omega
    have hlen := hF.len m
    rw [hq] at hlen
    rw [hp]
    have HX := Lib.hid (And.intro hf (And.intro hcn (And.intro hp (And.intro hq hpq))))
    have hpl : p < q := by omega
    clear hf hcn hp hq hpq
    go_wp2_with fail
    refine (of_any m w H.out hF.lists).mono ?_
    rintro e w1 ⟨x, rfl, rfl, hI, hxf⟩
    rw [HX.out.2.1] at hI
    obtain ⟨ax, cx, rfl, _⟩ := hI.len
    rw [ofNats_length, HX.out.2.2.2.1] at hI hxf
    rw [ofNats_length, HX.out.2.2.2.1]
    have HI := Lib.hid hI
    clear hI hxf
    rcases HBY.out with rfl | rfl
    · have d1 : decide ((p : Int) + 1 < 0) = false := by simp; omega
      cases B with
      | nil =>
        obtain rfl : q = p + 1 := by have := HX.out.2.2.2.2; simpa using this
        have d2 : decide (((p + 1 : Nat) : Int) ≤ (p : Int) + 1) = true := by simp
        go_wp2_with fail
        go_ret2
        exact ⟨_, _, rfl, .inr (.inr ⟨HC.out.1, m, A, [], HX.out.1, by rw [besideOf_next]; rfl, rfl⟩), rfl⟩
      | cons y B =>
        have hq2 : p + 1 < q := by have := HX.out.2.2.2.2; simp at this; omega
        have d2 : decide ((q : Int) ≤ (p : Int) + 1) = false := by simp; omega
        obtain ⟨g, cap, hv, _, hcell⟩ := HI.out.at_ (i := p + 1) (x := (y : Int)) (ofNats_at (by rw [HX.out.1, ← HX.out.2.2.1]; simp))
        injection hv with e1 e2 e3
        subst e1 e3
        clear e2
        go_wp2_with fail
        go_ret2
        exact ⟨_, _, rfl, .inr (.inr ⟨HC.out.1, m, A, y :: B, HX.out.1, by rw [besideOf_next]; rfl, rfl⟩), rfl⟩
    · rcases List.eq_nil_or_concat A with rfl | ⟨A', z, rfl⟩
      · obtain rfl : p = 0 := by have := HX.out.2.2.1; simpa using this.symm
        go_wp2_with fail
        go_ret2
        exact ⟨_, _, rfl, .inr (.inr ⟨HC.out.1, m, [], B, HX.out.1, by rw [besideOf_prev]; rfl, rfl⟩), rfl⟩
      · rw [List.concat_eq_append] at *
        have hp1 : p = A'.length + 1 := by have := HX.out.2.2.1; simpa using this.symm
        have k1 : 1 ≤ p := by omega
        have q1 : IntKind.i64.wrap ((p : Int) + -1) = ((p - 1 : Nat) : Int) := by rw [IntWalk.i64_in _ (by omega)]; omega
        have d1 : decide (((p - 1 : Nat) : Int) < 0) = false := by simp
        have d2 : decide ((q : Int) ≤ ((p - 1 : Nat) : Int)) = false := by simp; omega
        have q4 : p - 1 < q := by omega
        obtain ⟨g, cap, hv, _, hcell⟩ := HI.out.at_ (i := p - 1) (x := (z : Int)) (ofNats_at (by rw [HX.out.1, hp1]; simp))
        clear hp1
        injection hv with e1 e2 e3
        subst e1 e3
        clear e2
        go_wp2_with fail
        go_ret2
        exact ⟨_, _, rfl, .inr (.inr ⟨HC.out.1, m, A' ++ [z], B, HX.out.1, by rw [besideOf_prev]; simp [ofPrev, numOf], rfl⟩), rfl⟩
  · have hm' : ∀ j, c.toNat ∉ f j := fun j hj => hm ⟨j, hj⟩
    have HM := Lib.hid hm'
    clear hm hm' hby
    go_enter Try.func37, Try.ntmps37
    go_wp2_with fail
    refine (nocell_no H.out HC.out.1).mono ?_
    rintro e w1 ⟨rfl, rfl⟩
    go_wp2_with fail
    refine (find_none H.out hF.lists HM.out).mono ?_
    rintro e w1 ⟨rfl, rfl⟩
    go_wp2_with fail
    go_ret2
    exact ⟨0, 44, rfl, .inr (.inl ⟨HC.out.1, HM.out, rfl, rfl⟩), rfl⟩

theorem rlen_any (n : Int) (w : World) (h : Ref w b C L f fp) (hF : Fits L f) :
    Calls Try.prog 38 #[.pointer (some ⟨b, 0, none⟩), .int .i64 n] w (AskIs w (LenR L f n)) := by
  have H := Lib.hid h
  clear h
  by_cases hn : Out n L
  · have HN := Lib.hid hn
    clear hn
    go_enter Try.func38, Try.ntmps38
    go_wp2_with fail
    refine (nolist_yes H.out HN.out).mono ?_
    rintro e w1 ⟨rfl, rfl⟩
    go_wp2_with fail
    go_ret2
    exact ⟨0, 41, rfl, .inl ⟨HN.out, rfl, rfl⟩, rfl⟩
  have h0 : 0 ≤ n := by unfold Out at hn; omega
  have hcn : cellsOf f n = f n.toNat := by unfold cellsOf; rw [if_pos h0]
  have HN := Lib.hid (And.intro hn hcn)
  clear hn h0 hcn
  go_enter Try.func38, Try.ntmps38
  go_wp2_with fail
  refine (nolist_no H.out HN.out.1).mono ?_
  rintro e w1 ⟨rfl, rfl⟩
  go_wp2_with fail
  refine (of_any n w H.out hF.lists).mono ?_
  rintro e w1 ⟨x, rfl, rfl, hI, hxf⟩
  rw [HN.out.2] at hI
  obtain ⟨ax, cx, rfl, _⟩ := hI.len
  rw [ofNats_length]
  clear hI hxf
  go_wp2_with fail
  go_ret2
  exact ⟨_, _, rfl, .inr ⟨HN.out.1, rfl, rfl⟩, rfl⟩

def REndsIs (w : World) (L : Nat) (f : Nat → List Nat) (n : Int) (e : Ending) (w' : World) : Prop :=
  ∃ x y r, e = .returned (.tuple #[.int .i64 x, .int .i64 y, .int .i64 r]) ∧ Upd w [] w' [] ∧ EndsR L f n x y r

set_option maxHeartbeats 1000000 in
theorem rends_any (n : Int) (w : World) (h : Ref w b C L f fp) (hF : Fits L f) :
    Calls Try.prog 39 #[.pointer (some ⟨b, 0, none⟩), .int .i64 n] w (REndsIs w L f n) := by
  have H := Lib.hid h
  clear h
  by_cases hn : Out n L
  · have HN := Lib.hid hn
    clear hn
    go_enter Try.func39, Try.ntmps39
    go_wp2_with fail
    refine (nolist_yes H.out HN.out).mono ?_
    rintro e w1 ⟨rfl, rfl⟩
    go_wp2_with fail
    go_ret3
    exact ⟨_, _, _, rfl, Upd.refl _ _, .inl ⟨HN.out, rfl, rfl, rfl⟩⟩
  have h0 : 0 ≤ n := by unfold Out at hn; omega
  have hcn : cellsOf f n = f n.toNat := by unfold cellsOf; rw [if_pos h0]
  have HN := Lib.hid (And.intro hn hcn)
  clear hn h0 hcn
  go_enter Try.func39, Try.ntmps39
  go_wp2_with fail
  refine (nolist_no H.out HN.out.1).mono ?_
  rintro e w1 ⟨rfl, rfl⟩
  go_wp2_with fail
  refine (of_any n w H.out hF.lists).mono ?_
  rintro e w1 ⟨x, rfl, rfl, hI, hxf⟩
  rw [HN.out.2] at hI
  obtain ⟨ax, cx, rfl, _⟩ := hI.len
  have hlen := hF.len n.toNat
  rcases List.eq_nil_or_concat (f n.toNat) with hf | ⟨A, z, hf⟩
  · rw [hf]
    have HF := Lib.hid hf
    clear hI hxf hf hlen
    go_wp2_with fail
    go_ret3
    exact ⟨_, _, _, rfl, Upd.refl _ _, .inr ⟨HN.out.1, by rw [HF.out]; rfl, by rw [HF.out]; rfl, rfl⟩⟩
  · rw [List.concat_eq_append] at hf
    obtain ⟨y, B, hyB⟩ : ∃ y B, f n.toNat = y :: B := by
      rw [hf]
      cases A with
      | nil => exact ⟨z, [], rfl⟩
      | cons a A => exact ⟨a, A ++ [z], rfl⟩
    obtain ⟨g, cap, hv, _, hc0⟩ := hI.at_ (i := 0) (x := (y : Int)) (ofNats_at (by rw [hyB]; rfl))
    obtain ⟨g', cap', hv', _, hc1⟩ := hI.at_ (i := A.length) (x := (z : Int)) (ofNats_at (by rw [hf]; simp))
    have hk : (ofNats (f n.toNat)).length = A.length + 1 := by rw [ofNats_length, hf]; simp
    rw [ofNats_length] at hk
    rw [ofNats_length] at hv hv' ⊢
    obtain ⟨k, hkk⟩ : ∃ k, k = A.length + 1 := ⟨_, rfl⟩
    rw [hk, ← hkk] at hv hv' ⊢
    rw [hk, ← hkk] at hlen
    injection hv with e1 e2 e3
    injection hv' with e1' e2' e3'
    subst e1 e3
    injection e1' with e1'
    injection e1' with e1'
    subst e1' e3'
    rw [show A.length = k - 1 from by omega] at hc1
    have k1 : 1 ≤ k := by omega
    have k2 : (k : Int) ≤ 9223372036854775807 := by omega
    have q1 : IntKind.i64.wrap ((k : Int) - 1) = ((k - 1 : Nat) : Int) := by rw [IntWalk.i64_in _ (by omega)]; omega
    have q2 : ((k : Int) == 0) = false := by rw [beq_eq_false_iff_ne]; omega
    have q4 : k - 1 < k := by omega
    have q5 : 0 < k := by omega
    have q6 : decide (0 < k) = true := by simp; omega
    have q7 : (k == 0) = false := by rw [beq_eq_false_iff_ne]; omega
    have HF := Lib.hid (And.intro hf hyB)
    clear hI hxf hf hyB hk hkk e2 e2' hlen
    go_wp2
    go_quiet (fail)
    go_wp2
    go_ret3
    exact ⟨_, _, _, rfl, (Upd.refl _ _).drewN nq, .inr ⟨HN.out.1, by rw [HF.out.2]; rfl, by rw [HF.out.1]; simp [numOf], rfl⟩⟩

end

end Go.Proofs.Ytgcemlilfdjjlaa
