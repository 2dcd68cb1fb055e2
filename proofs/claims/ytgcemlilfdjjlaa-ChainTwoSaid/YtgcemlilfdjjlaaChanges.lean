/- The law's helper 'changes'. -/
import Derived.Test.YtgcemlilfdjjlaaAgree
import Derived.Deep.RegionHeld3
namespace Go.Proofs.Ytgcemlilfdjjlaa
open Go.RowKit

attribute [local go_sem] Oper.semAt_some

def ChangesIs (w : World) (b d C L : Nat) (fp fq : List Nat) (e : Ending) (w' : World) : Prop :=
  ∃ f' fp' fq', e = .returned (.bool true) ∧ Pair w' b d C L f' fp' fq' ∧ Upd w (fp ++ fq) w' (fp' ++ fq')

theorem box_cells (w : World) (k x y : Int) : (w.alloc (.cells #[.int .i64 k, .int .i64 x, .int .i64 y] 54)).drew.cell? ⟨w.heap.size, 1, none⟩ = some (.int .i64 x) ∧ (w.alloc (.cells #[.int .i64 k, .int .i64 x, .int .i64 y] 54)).drew.cell? ⟨w.heap.size, 2, none⟩ = some (.int .i64 y) := by
  constructor <;> simp [go_sem]

set_option maxHeartbeats 2000000 in
theorem changes_any {b d C L : Nat} {f : Nat → List Nat} {fp fq : List Nat} (k x y : Int) (w : World) (h : Pair w b d C L f fp fq) (hC : C ≤ 1048577) (hL : L ≤ 1048577) :
    Calls Try.prog 22 #[.pointer (some ⟨b, 0, none⟩), .pointer (some ⟨d, 0, none⟩), .agg #[.int .i64 k, .int .i64 x, .int .i64 y]] w (ChangesIs w b d C L fp fq) := by
  have hF := h.fits hC hL
  have n1 : w.heap.size ∉ fp := fun hm => Nat.lt_irrefl _ (h.chain.lt _ hm)
  have n2 : w.heap.size ∉ fq := fun hm => Nat.lt_irrefl _ (h.ref.lt _ hm)
  have hA : ∀ O, Pair (w.alloc O).drew b d C L f fp fq ∧ Upd w (fp ++ fq) (w.alloc O).drew (fp ++ fq) := fun O => ⟨h.upd (((Upd.refl w []).alloc O).drew) (fun _ _ h => by cases h) (fun _ _ h => by cases h), ((Upd.refl w _).alloc O).drew⟩
  have HA := Lib.hid hA
  have HB := Lib.hid (fun k => box_cells w k x y)
  have HN := Lib.hid (And.intro n1 n2)
  clear hA n1 n2
  by_cases k1 : k = 1
  · subst k1
    clear h
    go_enter Try.func22, Try.ntmps22
    go_wp2_with fail
    go_region_held3 (fun w' => w'.cell? ⟨w.heap.size, 1, none⟩ = some (.int .i64 x) ∧ w'.cell? ⟨w.heap.size, 2, none⟩ = some (.int .i64 y)) (go_keep)
      (first
        | (go_at_call 15; refine (append_any x y _ (HA.out _).1.chain).mono ?_; rintro e w2 ⟨r, f2, fp2, rfl, hC2, hU2, hR2⟩; have s1 := hU2.cell (HB.out _).1 HN.out.1; have s2 := hU2.cell (HB.out _).2 HN.out.1; have HX := Lib.hid (And.intro hC2 (And.intro hU2 hR2)); have hn2 := hU2.size; clear hC2 hU2 hR2)
        | (go_at_call 32; refine (rappend_any x y _ ((HA.out _).1.chained HX.out.2.1).1 hF).mono ?_; rintro e w3 ⟨r3, f3, fq3, rfl, hC3, hU3, hR3⟩; obtain ⟨rfl, rfl⟩ := HX.out.2.2.det hR3; have s3 := hU3.cell s1 HN.out.2; have s4 := hU3.cell s2 HN.out.2; have HY := Lib.hid ((HA.out _).1.both HX.out.1 HX.out.2.1 hC3 hU3); clear hC3 hU3 hR3))
    go_wp2_with fail
    go_ret
    exact ⟨_, fp2, fq3, rfl, HY.out.1, (HA.out _).2.trans HY.out.2⟩
  by_cases k2 : k = 2
  · subst k2
    clear h
    go_enter Try.func22, Try.ntmps22
    go_wp2_with fail
    go_region_held3 (fun w' => w'.cell? ⟨w.heap.size, 1, none⟩ = some (.int .i64 x) ∧ w'.cell? ⟨w.heap.size, 2, none⟩ = some (.int .i64 y)) (go_keep)
      (first
        | (go_at_call 19; refine (before_any x y _ (HA.out _).1.chain).mono ?_; rintro e w2 ⟨r, f2, fp2, rfl, hC2, hU2, hR2⟩; have s1 := hU2.cell (HB.out _).1 HN.out.1; have s2 := hU2.cell (HB.out _).2 HN.out.1; have HX := Lib.hid (And.intro hC2 (And.intro hU2 hR2)); have hn2 := hU2.size; clear hC2 hU2 hR2)
        | (go_at_call 33; refine (rbefore_any x y _ ((HA.out _).1.chained HX.out.2.1).1 hF).mono ?_; rintro e w3 ⟨r3, f3, fq3, rfl, hC3, hU3, hR3⟩; obtain ⟨rfl, rfl⟩ := BeforeR.det (HA.out (.cells #[] 0)).1.chain HX.out.2.2 hR3; have s3 := hU3.cell s1 HN.out.2; have s4 := hU3.cell s2 HN.out.2; have HY := Lib.hid ((HA.out _).1.both HX.out.1 HX.out.2.1 hC3 hU3); clear hC3 hU3 hR3))
    go_wp2_with fail
    go_ret
    exact ⟨_, fp2, fq3, rfl, HY.out.1, (HA.out _).2.trans HY.out.2⟩
  by_cases k3 : k = 3
  · subst k3
    clear h
    go_enter Try.func22, Try.ntmps22
    go_wp2_with fail
    go_region_held3 (fun w' => w'.cell? ⟨w.heap.size, 1, none⟩ = some (.int .i64 x) ∧ w'.cell? ⟨w.heap.size, 2, none⟩ = some (.int .i64 y)) (go_keep)
      (first
        | (go_at_call 18; refine (remove_any x _ (HA.out _).1.chain).mono ?_; rintro e w2 ⟨r, f2, fp2, rfl, hC2, hU2, hR2⟩; have s1 := hU2.cell (HB.out _).1 HN.out.1; have s2 := hU2.cell (HB.out _).2 HN.out.1; have HX := Lib.hid (And.intro hC2 (And.intro hU2 hR2)); have hn2 := hU2.size; clear hC2 hU2 hR2)
        | (go_at_call 34; refine (rremove_any x _ ((HA.out _).1.chained HX.out.2.1).1 hF).mono ?_; rintro e w3 ⟨r3, f3, fq3, rfl, hC3, hU3, hR3⟩; obtain ⟨rfl, rfl⟩ := RemoveR.det (HA.out (.cells #[] 0)).1.chain HX.out.2.2 hR3; have s3 := hU3.cell s1 HN.out.2; have s4 := hU3.cell s2 HN.out.2; have HY := Lib.hid ((HA.out _).1.both HX.out.1 HX.out.2.1 hC3 hU3); clear hC3 hU3 hR3))
    go_wp2_with fail
    go_ret
    exact ⟨_, fp2, fq3, rfl, HY.out.1, (HA.out _).2.trans HY.out.2⟩
  by_cases k4 : k = 4
  · subst k4
    clear h
    go_enter Try.func22, Try.ntmps22
    go_wp2_with fail
    go_region_held3 (fun w' => w'.cell? ⟨w.heap.size, 1, none⟩ = some (.int .i64 x) ∧ w'.cell? ⟨w.heap.size, 2, none⟩ = some (.int .i64 y)) (go_keep)
      (first
        | (go_at_call 21; refine (join_any x y _ (HA.out _).1.chain).mono ?_; rintro e w2 ⟨r, f2, fp2, rfl, hC2, hU2, hR2⟩; have s1 := hU2.cell (HB.out _).1 HN.out.1; have s2 := hU2.cell (HB.out _).2 HN.out.1; have HX := Lib.hid (And.intro hC2 (And.intro hU2 hR2)); have hn2 := hU2.size; clear hC2 hU2 hR2)
        | (go_at_call 35; refine (rjoin_any x y _ ((HA.out _).1.chained HX.out.2.1).1 hF).mono ?_; rintro e w3 ⟨r3, f3, fq3, rfl, hC3, hU3, hR3⟩; obtain ⟨rfl, rfl⟩ := HX.out.2.2.det hR3; have s3 := hU3.cell s1 HN.out.2; have s4 := hU3.cell s2 HN.out.2; have HY := Lib.hid ((HA.out _).1.both HX.out.1 HX.out.2.1 hC3 hU3); clear hC3 hU3 hR3))
    go_wp2_with fail
    go_ret
    exact ⟨_, fp2, fq3, rfl, HY.out.1, (HA.out _).2.trans HY.out.2⟩
  have b1 : (k == 1) = false := by rw [beq_eq_false_iff_ne]; exact k1
  have b2 : (k == 2) = false := by rw [beq_eq_false_iff_ne]; exact k2
  have b3 : (k == 3) = false := by rw [beq_eq_false_iff_ne]; exact k3
  have b4 : (k == 4) = false := by rw [beq_eq_false_iff_ne]; exact k4
  have H := Lib.hid (fun O => h.upd ((Upd.refl w []).alloc O) (fun _ _ h => by cases h) (fun _ _ h => by cases h))
  clear h k1 k2 k3 k4
  go_enter Try.func22, Try.ntmps22
  go_wp2_with fail
  go_ret
  exact ⟨f, fp, fq, rfl, H.out _, (Upd.refl w _).alloc _⟩

end Go.Proofs.Ytgcemlilfdjjlaa
