/- The document's answer: Append, Before. -/
import Derived.Test.YtgcemlilfdjjlaaRefD
namespace Go.Proofs.Ytgcemlilfdjjlaa
open Go.RowKit

attribute [local go_sem] Oper.semAt_some

section
variable {b C L : Nat} {f : Nat → List Nat} {fp : List Nat}

theorem nolist_yes {n : Int} {w : World} (h : Ref w b C L f fp) (hn : Out n L) :
    Calls Try.prog 41 #[.pointer (some ⟨b, 0, none⟩), .int .i64 n] w (fun e w' => e = .returned (.bool true) ∧ w = w') :=
  (nolist_any n w h).mono fun e w' ⟨t, he, hw, ht⟩ => ⟨by rw [he, ht.2 hn], hw⟩
theorem nolist_no {n : Int} {w : World} (h : Ref w b C L f fp) (hn : ¬ Out n L) :
    Calls Try.prog 41 #[.pointer (some ⟨b, 0, none⟩), .int .i64 n] w (fun e w' => e = .returned (.bool false) ∧ w = w') :=
  (nolist_any n w h).mono fun e w' ⟨t, he, hw, ht⟩ => ⟨by rw [he, Bool.eq_false_iff.2 (fun h => hn (ht.1 h))], hw⟩
theorem nocell_yes {n : Int} {w : World} (h : Ref w b C L f fp) (hn : Out n C) :
    Calls Try.prog 42 #[.pointer (some ⟨b, 0, none⟩), .int .i64 n] w (fun e w' => e = .returned (.bool true) ∧ w = w') :=
  (nocell_any n w h).mono fun e w' ⟨t, he, hw, ht⟩ => ⟨by rw [he, ht.2 hn], hw⟩
theorem nocell_no {n : Int} {w : World} (h : Ref w b C L f fp) (hn : ¬ Out n C) :
    Calls Try.prog 42 #[.pointer (some ⟨b, 0, none⟩), .int .i64 n] w (fun e w' => e = .returned (.bool false) ∧ w = w') :=
  (nocell_any n w h).mono fun e w' ⟨t, he, hw, ht⟩ => ⟨by rw [he, Bool.eq_false_iff.2 (fun h => hn (ht.1 h))], hw⟩

theorem find_none {c : Int} {w : World} (h : Ref w b C L f fp) (hL : L ≤ 1048577) (hc : ∀ k, c.toNat ∉ f k) :
    Calls Try.prog 43 #[.pointer (some ⟨b, 0, none⟩), .int .i64 c] w (fun e w' => e = .returned (.tuple #[.int .i64 (-1), .int .i64 (-1)]) ∧ w = w') :=
  (find_any c w h hL).mono fun e w' ⟨x, y, he, hw, hR⟩ => by
    rcases hR with ⟨_, rfl, rfl⟩ | ⟨_, n, A, B, hf, _⟩
    · exact ⟨he, hw⟩
    · exact absurd (show c.toNat ∈ f n by rw [hf]; simp) (hc n)
theorem find_some {c : Int} {w : World} (h : Ref w b C L f fp) (hL : L ≤ 1048577) (h0 : 0 ≤ c) (hc : ∃ k, c.toNat ∈ f k) :
    Calls Try.prog 43 #[.pointer (some ⟨b, 0, none⟩), .int .i64 c] w (fun e w' => ∃ (n : Nat) (A B : List Nat), e = .returned (.tuple #[.int .i64 n, .int .i64 A.length]) ∧ w = w' ∧ f n = A ++ c.toNat :: B) :=
  (find_any c w h hL).mono fun e w' ⟨x, y, he, hw, hR⟩ => by
    rcases hR with ⟨hno, rfl, rfl⟩ | ⟨_, n, A, B, hf, rfl, rfl⟩
    · obtain ⟨k, hk⟩ := hc
      exact absurd (show ((c.toNat : Nat) : Int) = c by omega) (hno k _ hk)
    · exact ⟨n, A, B, he, hw, hf⟩

theorem Ref.in_lt {w : World} (h : Ref w b C L f fp) {n : Nat} (hn : f n ≠ []) : n < L := by
  obtain ⟨a, v, h⟩ := h
  rw [h.told] at hn
  unfold look at hn
  cases hf : a.find? (fun e => e.num == n) with
  | none => rw [hf] at hn; exact absurd rfl hn
  | some e =>
    have h1 := h.lt e (List.mem_of_find?_eq_some hf)
    have h2 := List.find?_some hf
    simp only [beq_iff_eq] at h2
    omega

def RefIs (w : World) (b C L : Nat) (fp : List Nat) (R : Int → (Nat → List Nat) → Prop) (e : Ending) (w' : World) : Prop :=
  ∃ r f' fp', e = .returned (.int .i64 r) ∧ Ref w' b C L f' fp' ∧ Upd w fp w' fp' ∧ R r f'

/-- What the sizes must be. -/
structure Fits (L : Nat) (f : Nat → List Nat) : Prop where
  lists : L ≤ 1048577
  len : ∀ n, (f n).length ≤ 1048577

set_option maxHeartbeats 2000000 in
theorem rappend_any (n c : Int) (w : World) (h : Ref w b C L f fp) (hF : Fits L f) :
    Calls Try.prog 32 #[.pointer (some ⟨b, 0, none⟩), .int .i64 n, .int .i64 c] w (RefIs w b C L fp (AppendR C L f n c)) := by
  have H := Lib.hid h
  clear h
  by_cases hn : Out n L
  · have HN := Lib.hid hn
    clear hn
    go_enter Try.func32, Try.ntmps32
    go_wp2_with (go_at_call 41; refine (nolist_yes H.out HN.out).mono ?_; rintro e w1 ⟨rfl, rfl⟩)
    go_ret
    exact ⟨41, f, fp, rfl, H.out, Upd.refl _ _, .inl ⟨HN.out, rfl, rfl⟩⟩
  have HN := Lib.hid hn
  clear hn
  by_cases hc : Out c C
  · have HC := Lib.hid hc
    clear hc
    go_enter Try.func32, Try.ntmps32
    go_wp2_with (first
      | (go_at_call 41; refine (nolist_no H.out HN.out).mono ?_; rintro e w1 ⟨rfl, rfl⟩)
      | (go_at_call 42; refine (nocell_yes H.out HC.out).mono ?_; rintro e w1 ⟨rfl, rfl⟩))
    go_ret
    exact ⟨42, f, fp, rfl, H.out, Upd.refl _ _, .inr (.inl ⟨HN.out, HC.out, rfl, rfl⟩)⟩
  have h0 : 0 ≤ c := by unfold Out at hc; omega
  have HC := Lib.hid (And.intro hc h0)
  clear hc h0
  by_cases hm : ∃ k, c.toNat ∈ f k
  · have HM := Lib.hid hm
    clear hm
    go_enter Try.func32, Try.ntmps32
    go_wp2_with (first
      | (go_at_call 41; refine (nolist_no H.out HN.out).mono ?_; rintro e w1 ⟨rfl, rfl⟩)
      | (go_at_call 42; refine (nocell_no H.out HC.out.1).mono ?_; rintro e w1 ⟨rfl, rfl⟩)
      | (go_at_call 43; refine (find_some H.out hF.lists HC.out.2 HM.out).mono ?_; rintro e w1 ⟨m, A, B, rfl, rfl, hf⟩; clear hf))
    go_ret
    exact ⟨43, f, fp, rfl, H.out, Upd.refl _ _, .inr (.inr (.inl ⟨HN.out, HC.out.1, HM.out, rfl, rfl⟩))⟩
  · have hm' : ∀ k, c.toNat ∉ f k := fun k hk => hm ⟨k, hk⟩
    have HM := Lib.hid hm'
    clear hm hm'
    obtain ⟨p, rfl, hp⟩ := Out.no HN.out
    obtain ⟨d, rfl, hd⟩ := Out.no HC.out.1
    obtain ⟨q, hq⟩ : ∃ q, (f p).length = q := ⟨_, rfl⟩
    have hcn : cellsOf f p = f p := by unfold cellsOf; rw [if_pos (by omega), Int.toNat_natCast]
    have HQ := Lib.hid (And.intro hq hcn)
    clear hq hcn
    go_enter Try.func32, Try.ntmps32
    go_wp2_with (first
      | (go_at_call 41; refine (nolist_no H.out HN.out).mono ?_; rintro e w1 ⟨rfl, rfl⟩)
      | (go_at_call 42; refine (nocell_no H.out HC.out.1).mono ?_; rintro e w1 ⟨rfl, rfl⟩)
      | (go_at_call 43; refine (find_none H.out hF.lists HM.out).mono ?_; rintro e w1 ⟨rfl, rfl⟩)
      | (go_at_call 40; refine (of_any p w H.out hF.lists).mono ?_; rintro e w1 ⟨x, rfl, rfl, hI, hxf⟩; rw [HQ.out.2] at hI; obtain ⟨ax, cx, rfl, _⟩ := hI.len; rw [ofNats_length, HQ.out.1]; clear hI hxf)
      | (go_at_call 44; refine (put_any p q d w H.out hF.lists hp (Nat.le_of_eq HQ.out.1.symm) (hF.len p)).mono ?_; rintro e w1 ⟨fp', rfl, hR, hU⟩; have HR := Lib.hid (And.intro hR hU); clear hR hU))
    go_ret
    refine ⟨0, _, fp', rfl, HR.out.1, HR.out.2, .inr (.inr (.inr ⟨HN.out, HC.out.1, HM.out, rfl, ?_⟩))⟩
    rw [Int.toNat_natCast, Int.toNat_natCast, ← HQ.out.1, List.take_length, List.drop_length]

set_option maxHeartbeats 2000000 in
theorem rbefore_any (c k : Int) (w : World) (h : Ref w b C L f fp) (hF : Fits L f) :
    Calls Try.prog 33 #[.pointer (some ⟨b, 0, none⟩), .int .i64 c, .int .i64 k] w (RefIs w b C L fp (BeforeR C f c k)) := by
  have H := Lib.hid h
  clear h
  by_cases hc : Out c C
  · have HC := Lib.hid hc
    clear hc
    go_enter Try.func33, Try.ntmps33
    go_wp2_with (go_at_call 42; refine (nocell_yes H.out HC.out).mono ?_; rintro e w1 ⟨rfl, rfl⟩)
    go_ret
    exact ⟨42, f, fp, rfl, H.out, Upd.refl _ _, .inl ⟨.inl HC.out, rfl, rfl⟩⟩
  have h0 : 0 ≤ c := by unfold Out at hc; omega
  have HC := Lib.hid (And.intro hc h0)
  clear hc h0
  by_cases hk : Out k C
  · have HK := Lib.hid hk
    clear hk
    go_enter Try.func33, Try.ntmps33
    go_wp2_with fail
    refine (nocell_no H.out HC.out.1).mono ?_
    rintro e w1 ⟨rfl, rfl⟩
    go_wp2_with fail
    refine (nocell_yes H.out HK.out).mono ?_
    rintro e w1 ⟨rfl, rfl⟩
    go_wp2_with fail
    go_ret
    exact ⟨42, f, fp, rfl, H.out, Upd.refl _ _, .inl ⟨.inr HK.out, rfl, rfl⟩⟩
  have h0 : 0 ≤ k := by unfold Out at hk; omega
  have HK := Lib.hid (And.intro hk h0)
  clear hk h0
  by_cases hm : ∃ j, c.toNat ∈ f j
  · have HM := Lib.hid hm
    clear hm
    go_enter Try.func33, Try.ntmps33
    go_wp2_with fail
    refine (nocell_no H.out HC.out.1).mono ?_
    rintro e w1 ⟨rfl, rfl⟩
    go_wp2_with fail
    refine (nocell_no H.out HK.out.1).mono ?_
    rintro e w1 ⟨rfl, rfl⟩
    go_wp2_with fail
    refine (find_some H.out hF.lists HC.out.2 HM.out).mono ?_
    rintro e w1 ⟨m, A, B, rfl, rfl, hf⟩
    clear hf
    go_wp2_with fail
    go_ret
    exact ⟨43, f, fp, rfl, H.out, Upd.refl _ _, .inr (.inl ⟨HC.out.1, HK.out.1, HM.out, rfl, rfl⟩)⟩
  have hm' : ∀ j, c.toNat ∉ f j := fun j hj => hm ⟨j, hj⟩
  have HM := Lib.hid hm'
  clear hm hm'
  by_cases hq : ∃ j, k.toNat ∈ f j
  · have HX := Lib.hid hq
    clear hq
    obtain ⟨d, rfl, hd⟩ := Out.no HC.out.1
    go_enter Try.func33, Try.ntmps33
    go_wp2_with fail
    refine (nocell_no H.out HC.out.1).mono ?_
    rintro e w1 ⟨rfl, rfl⟩
    go_wp2_with fail
    refine (nocell_no H.out HK.out.1).mono ?_
    rintro e w1 ⟨rfl, rfl⟩
    go_wp2_with fail
    refine (find_none H.out hF.lists HM.out).mono ?_
    rintro e w1 ⟨rfl, rfl⟩
    go_wp2_with fail
    refine (find_some H.out hF.lists HK.out.2 HX.out).mono ?_
    rintro e w1 ⟨m, A, B, rfl, rfl, hf⟩
    have HFM := Lib.hid hf
    obtain ⟨q, hq⟩ : ∃ q, A.length = q := ⟨_, rfl⟩
    rw [hq]
    have HQ := Lib.hid hq
    clear hf hq
    go_wp2_with fail
    refine (put_any m q d w H.out hF.lists (H.out.in_lt (by rw [HFM.out]; simp)) (by rw [HFM.out, ← HQ.out]; simp) (hF.len m)).mono ?_
    rintro e w1 ⟨fp', rfl, hR, hU⟩
    have HR := Lib.hid (And.intro hR hU)
    clear hR hU
    go_wp2_with fail
    go_ret
    refine ⟨0, _, fp', rfl, HR.out.1, HR.out.2, .inr (.inr (.inr ⟨HC.out.1, HK.out.1, HM.out, m, A, B, HFM.out, rfl, ?_⟩))⟩
    rw [Int.toNat_natCast, HFM.out, ← HQ.out, List.take_left, List.drop_left]
  · have hq' : ∀ j, k.toNat ∉ f j := fun j hj => hq ⟨j, hj⟩
    have HX := Lib.hid hq'
    clear hq hq'
    go_enter Try.func33, Try.ntmps33
    go_wp2_with fail
    refine (nocell_no H.out HC.out.1).mono ?_
    rintro e w1 ⟨rfl, rfl⟩
    go_wp2_with fail
    refine (nocell_no H.out HK.out.1).mono ?_
    rintro e w1 ⟨rfl, rfl⟩
    go_wp2_with fail
    refine (find_none H.out hF.lists HM.out).mono ?_
    rintro e w1 ⟨rfl, rfl⟩
    go_wp2_with fail
    refine (find_none H.out hF.lists HX.out).mono ?_
    rintro e w1 ⟨rfl, rfl⟩
    go_wp2_with fail
    go_ret
    exact ⟨44, f, fp, rfl, H.out, Upd.refl _ _, .inr (.inr (.inl ⟨HC.out.1, HK.out.1, HM.out, HX.out, rfl, rfl⟩))⟩

end

end Go.Proofs.Ytgcemlilfdjjlaa
