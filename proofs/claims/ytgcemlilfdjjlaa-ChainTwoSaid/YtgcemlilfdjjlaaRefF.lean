/- The document's answer: Remove, Join. -/
import Derived.Test.YtgcemlilfdjjlaaRefE
namespace Go.Proofs.Ytgcemlilfdjjlaa
open Go.RowKit

attribute [local go_sem] Oper.semAt_some

section
variable {b C L : Nat} {f : Nat → List Nat} {fp : List Nat}

theorem cut_out {l A B : List Nat} {x : Nat} (h : l = A ++ x :: B) : ([] ++ (ofNats l).take A.length) ++ (ofNats l).drop (A.length + 1) = ofNats (A ++ B) := by
  subst h
  rw [← ofNats_take, ← ofNats_drop, List.take_left, List.nil_append, ← ofNats_append]
  congr 2
  rw [show A ++ x :: B = (A ++ [x]) ++ B from by simp, show A.length + 1 = (A ++ [x]).length from by simp, List.drop_left]

theorem Own.empty (w : World) : Own w (w.alloc (.cells #[] 3)) (.slice (some ⟨w.heap.size, 0, none⟩) 0 0) [] :=
  ⟨.inr ⟨w.heap.size, 0, #[], rfl, heap_alloc_new _ _, Nat.le_refl _, Nat.zero_le _, rfl, fun i j hi _ => absurd hi (Nat.not_lt_zero _)⟩, (Upd.refl w []).alloc _, fun g e => Nat.le_of_eq (by simpa [Value.ownBlock] using e)⟩

set_option maxHeartbeats 2000000 in
theorem rremove_any (c : Int) (w : World) (h : Ref w b C L f fp) (hF : Fits L f) :
    Calls Try.prog 34 #[.pointer (some ⟨b, 0, none⟩), .int .i64 c] w (RefIs w b C L fp (RemoveR C f c)) := by
  have H := Lib.hid h
  clear h
  by_cases hc : Out c C
  · have HC := Lib.hid hc
    clear hc
    go_enter Try.func34, Try.ntmps34
    go_wp2_with fail
    refine (nocell_yes H.out HC.out).mono ?_
    rintro e w1 ⟨rfl, rfl⟩
    go_wp2_with fail
    go_ret
    exact ⟨42, f, fp, rfl, H.out, Upd.refl _ _, .inl ⟨HC.out, rfl, rfl⟩⟩
  have h0 : 0 ≤ c := by unfold Out at hc; omega
  have HC := Lib.hid (And.intro hc h0)
  clear hc h0
  by_cases hm : ∃ j, c.toNat ∈ f j
  · have HM := Lib.hid hm
    clear hm
    obtain ⟨i0, hi, hz0, hz1, hz2⟩ := info_parts infoInt
    go_enter Try.func34, Try.ntmps34
    go_wp2_with fail
    refine (nocell_no H.out HC.out.1).mono ?_
    rintro e w1 ⟨rfl, rfl⟩
    go_wp2_with fail
    refine (find_some H.out hF.lists HC.out.2 HM.out).mono ?_
    rintro e w1 ⟨m, A, B, rfl, rfl, hf⟩
    have hcn : cellsOf f m = f m := by unfold cellsOf; rw [if_pos (by omega), Int.toNat_natCast]
    obtain ⟨p, hp⟩ : ∃ p, A.length = p := ⟨_, rfl⟩
    obtain ⟨q, hq⟩ : ∃ q, (f m).length = q := ⟨_, rfl⟩
    have hpq : p < q := by rw [← hp, ← hq, hf]; simp
    have hlen := hF.len m
    rw [hq] at hlen
    rw [hp]
    have HX := Lib.hid (And.intro hf (And.intro hcn (And.intro hp hq)))
    clear hf hcn hp hq
    have b2 : i0.bytes * q ≤ 281474976710656 := by rw [hz2]; omega
    have b3 : q ≤ maxLen := by simp only [maxLen]; omega
    go_wp2_with (first
      | (go_at_call 40; refine (of_any m w H.out hF.lists).mono ?_; rintro e w1 ⟨x, rfl, rfl, hI, hxf⟩; rw [HX.out.2.1] at hI; obtain ⟨ax, cx, rfl, _⟩ := hI.len; rw [ofNats_length, HX.out.2.2.2]; rw [ofNats_length, HX.out.2.2.2] at hI hxf; obtain ⟨y1, hy1, hs1⟩ := cut_to hI p (by rw [ofNats_length, HX.out.2.2.2]; omega); obtain ⟨y2, hy2, hs2⟩ := cut_from hI (p + 1) (by rw [ofNats_length, HX.out.2.2.2]; omega); have hy2' : ∀ W, (Instr.slice 38 (.slice ax q cx) (some (.int .i64 ((p : Int) + 1))) none none).run Try.prog W = .ok y2 W := hy2; have HS := Lib.hid (And.intro hI (And.intro hs1 hs2)); clear hI hs1 hs2 hxf hy2)
      | (at_make; (refine wpList_make_own _ rfl _ _ 38 rfl w.heap.size 3 i0 (.int .i64 0) 1 Try.underlying38 hi hz0 hz1 .i64 .i64 _ q (by rfl) (by rfl) rfl b2 b3 (Nat.le_refl _) ?_; intro w2 hown hgrow; have hO1 : Own w w2 _ [] := ⟨Ints.of_make hown, (Upd.refl w []).grown hgrow (fun k e => by cases e), fun g e => Nat.le_of_eq (by simpa [Value.ownBlock] using e)⟩; have HO1 := Lib.hid hO1; clear hown hgrow hO1))
      | (at_builtin; (refine wpList_append_ints _ rfl _ _ rfl (by rfl) (by rfl) HO2.out.ints ((HS.out.2.2).upd HO2.out.upd) (by have := HX.out.2.2.2; simp [ofNats_length]; omega) ?_; intro v4 w5 hI4 hg4 hk4; obtain ⟨a4, k4, c4, rfl, hkk4⟩ := hI4.len'; have HK4 := Lib.hid hkk4; clear hkk4; have hO4 := HO2.out.append hI4 hg4 (own_or hk4); have HO4 := Lib.hid hO4; clear hI4 hg4 hk4 hO4))
      | (at_builtin; (refine wpList_append_ints _ rfl _ _ rfl (by rfl) (by rfl) HO1.out.ints ((HS.out.2.1).upd HO1.out.upd) (by have := HX.out.2.2.2; simp [ofNats_length]; omega) ?_; intro v2 w3 hI2 hg2 hk2; obtain ⟨a2, k2, c2, rfl, hkk2⟩ := hI2.len'; have HK2 := Lib.hid hkk2; clear hkk2; have hO2 := HO1.out.append hI2 hg2 (own_or hk2); have HO2 := Lib.hid hO2; clear hI2 hg2 hk2 hO2))
      | (go_at_call 45; (refine (set_any m _ (A ++ B) w5 (H.out.upd HO4.out.upd (fun _ _ h => by cases h)) hF.lists (H.out.in_lt (by rw [HX.out.1]; simp)) (by rw [← cut_out HX.out.1, HX.out.2.2.1]; exact HO4.out.ints)).mono ?_; intro e w6 hS; have hP := hS.put HO4.out; obtain ⟨fp', rfl, hR, hU⟩ := hP; have HR := Lib.hid (And.intro hR hU); clear hS hR hU)))
    go_ret
    exact ⟨0, _, fp', rfl, HR.out.1, HR.out.2, .inr (.inr ⟨HC.out.1, m, A, B, HX.out.1, rfl, rfl⟩)⟩
  · have hm' : ∀ j, c.toNat ∉ f j := fun j hj => hm ⟨j, hj⟩
    have HM := Lib.hid hm'
    clear hm hm'
    go_enter Try.func34, Try.ntmps34
    go_wp2_with fail
    refine (nocell_no H.out HC.out.1).mono ?_
    rintro e w1 ⟨rfl, rfl⟩
    go_wp2_with fail
    refine (find_none H.out hF.lists HM.out).mono ?_
    rintro e w1 ⟨rfl, rfl⟩
    go_wp2_with fail
    go_ret
    exact ⟨44, f, fp, rfl, H.out, Upd.refl _ _, .inr (.inl ⟨HC.out.1, HM.out, rfl, rfl⟩)⟩

theorem SetIs.parts {w0 w w' : World} {b C L : Nat} {f : Nat → List Nat} {fp : List Nat} {x : Value} {e : Ending} {xs : List Int} (h : SetIs w b C L f fp x e w') (ho : Own w0 w x xs) : ∃ fp', e = .returned (.tuple #[]) ∧ Ref w' b C L f fp' ∧ Upd w0 fp w' fp' := h.put ho

set_option maxHeartbeats 2000000 in
theorem rjoin_any (n k : Int) (w : World) (h : Ref w b C L f fp) (hF : Fits L f) :
    Calls Try.prog 35 #[.pointer (some ⟨b, 0, none⟩), .int .i64 n, .int .i64 k] w (RefIs w b C L fp (JoinR L f n k)) := by
  have H := Lib.hid h
  clear h
  by_cases hn : Out n L
  · have HN := Lib.hid hn
    clear hn
    go_enter Try.func35, Try.ntmps35
    go_wp2_with fail
    refine (nolist_yes H.out HN.out).mono ?_
    rintro e w1 ⟨rfl, rfl⟩
    go_wp2_with fail
    go_ret
    exact ⟨41, f, fp, rfl, H.out, Upd.refl _ _, .inl ⟨.inl HN.out, rfl, rfl⟩⟩
  have HN := Lib.hid hn
  clear hn
  by_cases hk : Out k L
  · have HK := Lib.hid hk
    clear hk
    go_enter Try.func35, Try.ntmps35
    go_wp2_with fail
    refine (nolist_no H.out HN.out).mono ?_
    rintro e w1 ⟨rfl, rfl⟩
    go_wp2_with fail
    refine (nolist_yes H.out HK.out).mono ?_
    rintro e w1 ⟨rfl, rfl⟩
    go_wp2_with fail
    go_ret
    exact ⟨41, f, fp, rfl, H.out, Upd.refl _ _, .inl ⟨.inr HK.out, rfl, rfl⟩⟩
  have HK := Lib.hid hk
  clear hk
  by_cases hnk : n = k
  · subst hnk
    go_enter Try.func35, Try.ntmps35
    go_wp2_with fail
    refine (nolist_no H.out HN.out).mono ?_
    rintro e w1 ⟨rfl, rfl⟩
    go_wp2_with fail
    refine (nolist_no H.out HN.out).mono ?_
    rintro e w1 ⟨rfl, rfl⟩
    go_wp2_with fail
    go_ret
    exact ⟨0, f, fp, rfl, H.out, Upd.refl _ _, .inr (.inl ⟨HN.out, HN.out, rfl, rfl, rfl⟩)⟩
  obtain ⟨p, rfl, hp⟩ := Out.no HN.out
  obtain ⟨q, rfl, hq⟩ := Out.no HK.out
  have hbn : ((p : Int) == (q : Int)) = false := by rw [beq_eq_false_iff_ne]; exact hnk
  have hcp : cellsOf f p = f p := by unfold cellsOf; rw [if_pos (by omega), Int.toNat_natCast]
  have hcq : cellsOf f q = f q := by unfold cellsOf; rw [if_pos (by omega), Int.toNat_natCast]
  have HX := Lib.hid (And.intro hcp (And.intro hcq hnk))
  clear hcp hcq hnk
  go_enter Try.func35, Try.ntmps35
  go_wp2_with fail
  refine (nolist_no H.out HN.out).mono ?_
  rintro e w1 ⟨rfl, rfl⟩
  go_wp2_with fail
  refine (nolist_no H.out HK.out).mono ?_
  rintro e w1 ⟨rfl, rfl⟩
  have hO1 := Own.empty w
  have HO1 := Lib.hid hO1
  clear hO1
  go_wp2_with (first
    | (go_at_call 40; refine (of_any p w3 (H.out.upd HO2.out.upd (fun _ _ h => by cases h)) hF.lists).mono ?_; rintro e w4 ⟨x2, rfl, rfl, hI2, hxf2⟩; rw [HX.out.1] at hI2; obtain ⟨ax2, kx2, cx2, rfl, hkx⟩ := hI2.len'; clear hkx; have HS2 := Lib.hid hI2; clear hI2 hxf2)
    | (go_at_call 40; refine (of_any q _ (H.out.upd HO1.out.upd (fun _ _ h => by cases h)) hF.lists).mono ?_; rintro e w2 ⟨x1, rfl, rfl, hI1, hxf1⟩; rw [HX.out.2.1] at hI1; obtain ⟨ax1, kx1, cx1, rfl, hkx⟩ := hI1.len'; clear hkx; have HS1 := Lib.hid hI1; clear hI1 hxf1)
    | (at_builtin; (refine wpList_append_ints _ rfl _ _ rfl (by rfl) (by rfl) HO2.out.ints HS2.out.inInts (by have := hF.len p; have := hF.len q; simp [ofNats_length]; omega) ?_; intro v4 w5 hI4 hg4 hk4; obtain ⟨a4, k4, c4, rfl, hkk4⟩ := hI4.len'; have HK4 := Lib.hid hkk4; clear hkk4; have hO4 := HO2.out.append hI4 hg4 (own_or hk4); have HO4 := Lib.hid hO4; clear hI4 hg4 hk4 hO4))
    | (at_builtin; (refine wpList_append_ints _ rfl _ _ rfl (by rfl) (by rfl) HO1.out.ints HS1.out.inInts (by have := hF.len q; simp [ofNats_length]; omega) ?_; intro v2 w3 hI2 hg2 hk2; obtain ⟨a2, k2, c2, rfl, hkk2⟩ := hI2.len'; have HK2 := Lib.hid hkk2; clear hkk2; have hO2 := HO1.out.append hI2 hg2 (own_or hk2); have HO2 := Lib.hid hO2; clear hI2 hg2 hk2 hO2))
    | (go_at_call 45; (refine (set_any p (.slice none 0 0) [] w6 HR1.out.1 hF.lists hp (Ints.nil _)).mono ?_; rintro e w7 ⟨fp2, rfl, hU2, hR2⟩; have HR2 := Lib.hid (And.intro hR2 hU2); clear hR2 hU2))
    | (go_at_call 45; (refine (set_any q _ (f q ++ f p) w5 (H.out.upd HO4.out.upd (fun _ _ h => by cases h)) hF.lists hq (by rw [ofNats_append]; exact HO4.out.ints)).mono ?_; intro e w6 hS; have hP := hS.put HO4.out; obtain ⟨fp1, rfl, hR1, hU1⟩ := hP; have HR1 := Lib.hid (And.intro hR1 hU1); clear hS hR1 hU1)))
  go_ret
  exact ⟨0, _, _, rfl, HR2.out.1, HR1.out.2.trans HR2.out.2, .inr (.inr ⟨HN.out, HK.out, HX.out.2.2, rfl, rfl⟩)⟩

end

end Go.Proofs.Ytgcemlilfdjjlaa
