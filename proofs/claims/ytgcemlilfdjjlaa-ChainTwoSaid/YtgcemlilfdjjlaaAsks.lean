/- The law's helper 'asks'. -/
import Derived.Test.YtgcemlilfdjjlaaWalked
namespace Go.Proofs.Ytgcemlilfdjjlaa
open Go.RowKit

attribute [local go_sem] Oper.semAt_some

theorem box_plain (w : World) (k x y : Int) : (w.alloc (.cells #[.int .i64 k, .int .i64 x, .int .i64 y] 54)).cell? ⟨w.heap.size, 1, none⟩ = some (.int .i64 x) := by simp [go_sem]

set_option maxRecDepth 100000 in
set_option maxHeartbeats 4000000 in
theorem asks_any {b d C L : Nat} {f : Nat → List Nat} {fp fq : List Nat} (k x y : Int) (w : World) (h : Pair w b d C L f fp fq) (hC : C ≤ 1048577) (hL : L ≤ 1048577) :
    Calls Try.prog 23 #[.pointer (some ⟨b, 0, none⟩), .pointer (some ⟨d, 0, none⟩), .agg #[.int .i64 k, .int .i64 x, .int .i64 y]] w (WalksIs w b d C L f fp fq) := by
  have hF := h.fits hC hL
  have n1 : w.heap.size ∉ fp := fun hm => Nat.lt_irrefl _ (h.chain.lt _ hm)
  have n2 : w.heap.size ∉ fq := fun hm => Nat.lt_irrefl _ (h.ref.lt _ hm)
  have hA : ∀ O, Pair (w.alloc O).drew b d C L f fp fq ∧ Upd w (fp ++ fq) (w.alloc O).drew (fp ++ fq) := fun O => ⟨h.upd (((Upd.refl w []).alloc O).drew) (fun _ _ h => by cases h) (fun _ _ h => by cases h), ((Upd.refl w _).alloc O).drew⟩
  have hP : ∀ O, Pair (w.alloc O) b d C L f fp fq ∧ Upd w (fp ++ fq) (w.alloc O) (fp ++ fq) := fun O => ⟨h.upd ((Upd.refl w []).alloc O) (fun _ _ h => by cases h) (fun _ _ h => by cases h), (Upd.refl w _).alloc O⟩
  have HA := Lib.hid hA
  have HP := Lib.hid hP
  have HB := Lib.hid (fun k => box_cells w k x y)
  have HC := Lib.hid (fun k => box_plain w k x y)
  have HN := Lib.hid (And.intro n1 n2)
  clear hA hP n1 n2
  by_cases k5 : k = 5
  · subst k5
    clear h
    have hb1 := (HB.out 5).1
    go_enter Try.func23, Try.ntmps23
    go_wp2_with fail
    go_region_held3 (fun w' => w'.cell? ⟨w.heap.size, 1, none⟩ = some (.int .i64 x)) (go_keep)
      (first
        | (go_at_call 14; refine (owner_any x _ (HA.out _).1.chain).mono ?_; rintro e w2 ⟨x1, r1, rfl, hR1, rfl⟩; have HX := Lib.hid hR1; clear hR1))
    go_wp2_with fail
    refine (rowner_any x _ (HA.out _).1.ref hF).mono ?_
    rintro e w3 ⟨x2, r2, rfl, hR2, rfl⟩
    obtain ⟨rfl, rfl⟩ := AskR.det (HA.out (.cells #[] 0)).1.chain HX.out hR2
    clear hR2
    go_wp2_with fail
    go_ret
    exact ⟨fp, rfl, (HA.out _).1, (HA.out _).2⟩
  by_cases k6 : k = 6
  · subst k6
    clear h
    have hb1 := (HB.out 6).1
    go_enter Try.func23, Try.ntmps23
    go_wp2_with fail
    go_region_held3 (fun w' => w'.cell? ⟨w.heap.size, 1, none⟩ = some (.int .i64 x)) (go_keep)
      (first
        | (go_at_call 17; refine (next_any x _ (HA.out _).1.chain).mono ?_; rintro e w2 ⟨x1, r1, rfl, hR1, rfl⟩; have HX := Lib.hid hR1; clear hR1))
    go_wp2_with fail
    refine (rbeside_any x 1 (.inl rfl) _ (HA.out _).1.ref hF).mono ?_
    rintro e w3 ⟨x2, r2, rfl, hR2, rfl⟩
    obtain ⟨rfl, rfl⟩ := AskR.det (HA.out (.cells #[] 0)).1.chain HX.out (besideOf_next ▸ hR2)
    clear hR2
    go_wp2_with fail
    go_ret
    exact ⟨fp, rfl, (HA.out _).1, (HA.out _).2⟩
  by_cases k7 : k = 7
  · subst k7
    clear h
    have hb1 := (HB.out 7).1
    go_enter Try.func23, Try.ntmps23
    go_wp2_with fail
    go_region_held3 (fun w' => w'.cell? ⟨w.heap.size, 1, none⟩ = some (.int .i64 x)) (go_keep)
      (first
        | (go_at_call 26; refine (prev_any x _ (HA.out _).1.chain).mono ?_; rintro e w2 ⟨x1, r1, rfl, hR1, rfl⟩; have HX := Lib.hid hR1; clear hR1))
    go_wp2_with fail
    refine (rbeside_any x (-1) (.inr rfl) _ (HA.out _).1.ref hF).mono ?_
    rintro e w3 ⟨x2, r2, rfl, hR2, rfl⟩
    obtain ⟨rfl, rfl⟩ := AskR.det (HA.out (.cells #[] 0)).1.chain HX.out (besideOf_prev ▸ hR2)
    clear hR2
    go_wp2_with fail
    go_ret
    exact ⟨fp, rfl, (HA.out _).1, (HA.out _).2⟩
  by_cases k8 : k = 8
  · subst k8
    clear h
    have hb1 := HC.out 8
    go_enter Try.func23, Try.ntmps23
    go_wp2_with fail
    refine (ends_any x _ (HP.out _).1.chain).mono ?_
    rintro e w2 ⟨x1, y1, r1, fp2, rfl, hC2, hU2, hR1⟩
    have hb2 := hU2.cell hb1 HN.out.1
    have HX := Lib.hid (And.intro hC2 (And.intro hU2 hR1))
    clear hC2 hU2 hR1 hb1
    go_wp2_with fail
    refine (rends_any x _ ((HP.out _).1.chained HX.out.2.1).1 hF).mono ?_
    rintro e w3 ⟨x2, y2, r2, rfl, hU3, hR2⟩
    obtain ⟨rfl, rfl, rfl⟩ := HX.out.2.2.det hR2
    have HY := Lib.hid hU3
    clear hR2 hU3
    go_wp2_with fail
    go_ret
    have hd := (HP.out _).1.chained HX.out.2.1
    refine ⟨fp2, rfl, ⟨HX.out.1.upd HY.out (fun _ _ h => by cases h), hd.1.upd HY.out (fun _ _ h => by cases h), hd.2⟩, (HP.out _).2.trans ((HX.out.2.1.beside fq).trans ((HY.out.weaken (T := fp2 ++ fq) (fun _ h => by cases h)).to (fun _ h => .inl h)))⟩
  by_cases k9 : k = 9
  · subst k9
    clear h
    have hb1 := HC.out 9
    go_enter Try.func23, Try.ntmps23
    go_wp2_with fail
    refine (len_any x _ (HP.out _).1.chain).mono ?_
    rintro e w2 ⟨x1, r1, fp2, rfl, hC2, hU2, hR1⟩
    have hb2 := hU2.cell hb1 HN.out.1
    have HX := Lib.hid (And.intro hC2 (And.intro hU2 hR1))
    clear hC2 hU2 hR1 hb1
    go_wp2_with fail
    refine (rlen_any x _ ((HP.out _).1.chained HX.out.2.1).1 hF).mono ?_
    rintro e w3 ⟨x2, r2, rfl, hR2, rfl⟩
    obtain ⟨rfl, rfl⟩ := HX.out.2.2.det hR2
    clear hR2
    go_wp2_with fail
    go_ret
    have hd := (HP.out _).1.chained HX.out.2.1
    exact ⟨fp2, rfl, ⟨HX.out.1, hd.1, hd.2⟩, (HP.out _).2.trans (HX.out.2.1.beside fq)⟩
  by_cases k10 : k = 10
  · subst k10
    clear h
    have hb1 := HC.out 10
    go_enter Try.func23, Try.ntmps23
    go_wp2_with fail
    refine (walks_any x _ (HP.out _).1 hC hL).mono ?_
    rintro e w2 ⟨fp2, rfl, hP2, hU2, _⟩
    have HX := Lib.hid (And.intro hP2 hU2)
    clear hP2 hU2
    go_wp2_with fail
    go_ret
    exact ⟨fp2, rfl, HX.out.1, (HP.out _).2.trans HX.out.2⟩
  have b5 : (k == 5) = false := by rw [beq_eq_false_iff_ne]; exact k5
  have b6 : (k == 6) = false := by rw [beq_eq_false_iff_ne]; exact k6
  have b7 : (k == 7) = false := by rw [beq_eq_false_iff_ne]; exact k7
  have b8 : (k == 8) = false := by rw [beq_eq_false_iff_ne]; exact k8
  have b9 : (k == 9) = false := by rw [beq_eq_false_iff_ne]; exact k9
  have b10 : (k == 10) = false := by rw [beq_eq_false_iff_ne]; exact k10
  clear h k5 k6 k7 k8 k9 k10
  go_enter Try.func23, Try.ntmps23
  go_wp2_with fail
  go_ret
  exact ⟨fp, rfl, (HP.out _).1, (HP.out _).2⟩

end Go.Proofs.Ytgcemlilfdjjlaa
