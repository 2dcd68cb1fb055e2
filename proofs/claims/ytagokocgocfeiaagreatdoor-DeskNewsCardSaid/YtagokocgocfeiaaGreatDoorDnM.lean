/- The law DeskNews walked: desk.New at every number, List of an empty desk, awake. -/
import Derived.Test.YtagokocgocfeiaaGreatDoorDnL
import Derived.Test.YtagokocgocfeiaaGreatDoorAwakeD
namespace Go.Proofs.YtagokocgocfeiaaGreatDoor
open Go.RowKit

theorem cell0_upd {w w' : World} (h0 : w.cell? ⟨0, 0, none⟩ = some (.int .u8 0)) (hU : Upd w [] w' []) : w'.cell? ⟨0, 0, none⟩ = some (.int .u8 0) := hU.cell h0 (fun h => by cases h)

/-- Nothing to sort. -/
theorem sort_nil (w : World) (h0 : w.cell? ⟨0, 0, none⟩ = some (.int .u8 0)) : Calls Tryz.prog 34 #[.slice none 0 0] w fun e w' => e = .returned (.tuple #[]) ∧ Upd w [] w' [] := by
  have hrun : (match callF Tryz.prog 100 20 34 #[.slice none 0 0] firstS with | some (v, _) => same v (.tuple #[]) | none => false) = true := by kernel_rfl
  split at hrun
  case h_2 => cases hrun
  rename_i v σ1 hr
  rw [same_eq _ _ hrun] at hr
  refine Calls.mono (callF_sound zeros mixed 100 20 _ _ _ _ _ hr firstR w #[.slice none 0 0] (firstW h0) (VsRel.cons (.sliceNil 0 0 (by decide)) .nil)) fun e w' he => ?_
  cases e with
  | returned v' =>
    obtain ⟨ρ', _, hf, hv⟩ := he
    generalize hu : Value.tuple #[] = u at hv
    cases hv <;> first | (cases hu; done) | skip
    rename_i c c' hc
    injection hu with hu
    subst hu
    have : c' = #[] := by
      rcases c' with ⟨l⟩
      cases hc
      rfl
    subst this
    exact ⟨rfl, hf.upd⟩
  | panicked _ => exact he.elim
  | outgrown => exact he.elim

theorem sorted_empty (M B k : Nat) (w : World) (h0 : w.cell? ⟨0, 0, none⟩ = some (.int .u8 0)) (hM : w.heap[M]? = some (.map #[] k)) (hB : w.heap[B]? = some (.cells #[.map (some M)] 30 (0, 0))) :
    Calls Tryz.prog 12 #[.func (.func 35) #[] #[.pointer (some ⟨B, 0, none⟩)]] w fun e w' => e = .returned (.slice none 0 0) ∧ Upd w [] w' [] := by
  have H0 := Lib.hid h0
  clear h0
  go_enter Tryz.func12, Tryz.ntmps12
  go_wp2_with (first
    | (go_at_call 33; refine (collect_empty M B k w hM hB).mono ?_; rintro e w1 ⟨rfl, hU1⟩)
    | (go_at_call 34; refine (sort_nil w1 (cell0_upd H0.out hU1)).mono ?_; rintro e w2 ⟨rfl, hU2⟩))
  go_ret
  exact ⟨rfl, hU1.trans hU2⟩

theorem list_empty (D M k : Nat) (m t : Int) (w : World) (h0 : w.cell? ⟨0, 0, none⟩ = some (.int .u8 0)) (hM : w.heap[M]? = some (.map #[] k)) (hD : w.heap[D]? = some (.cells #[.int .i64 m, .int .i64 t, .map (some M)] 32 (0, 0))) :
    Calls Tryz.prog 6 #[.pointer (some ⟨D, 0, none⟩)] w fun e w' => e = .returned (.slice none 0 0) ∧ Upd w [] w' [] := by
  have H0 := Lib.hid h0
  have HM := Lib.hid hM
  have c2 : w.cell? ⟨D, 2, none⟩ = some (.map (some M)) := by unfold World.cell?; simp only [hD]; rfl
  clear h0 hM
  go_enter Tryz.func6, Tryz.ntmps6
  go_wp2_with (first
    | (go_at_call 13; refine (keys_any M w).mono ?_; rintro e w1 ⟨rfl, hw1⟩; have hU1 : Upd w [] w1 [] := hw1 ▸ (Upd.refl w []).alloc _; have hB1 : w1.heap[w.heap.size]? = some (.cells #[.map (some M)] 30 (0, 0)) := hw1 ▸ World.alloc_heap_new w _; clear hw1)
    | (go_at_call 12; refine (sorted_empty M w.heap.size k w1 (cell0_upd H0.out hU1) (hU1.keeps HM.out (fun h => by cases h)) hB1).mono ?_; rintro e w2 ⟨rfl, hU2⟩))
  refine wp_loop_rounds 1 ?_
  rw [rounds_succ]
  go_wp2
  go_ret
  exact ⟨rfl, hU1.trans hU2⟩

theorem desk_bad (m : Int) (w : World) (h : m < 1 ∨ 64 < m) : Calls Tryz.prog 4 #[.int .i64 m] w fun e w' => e = .returned (.tuple #[.pointer none, .int .i64 50]) ∧ w = w' := by
  go_enter Tryz.func4, Tryz.ntmps4
  by_cases h1 : m < 1
  · go_wp2
    go_ret2
    exact ⟨rfl, rfl⟩
  · have h2 : 64 < m := by omega
    go_wp2
    go_ret2
    exact ⟨rfl, rfl⟩

theorem desk_ok (m : Int) (w : World) (h : 1 ≤ m ∧ m ≤ 64) : Calls Tryz.prog 4 #[.int .i64 m] w fun e w' => e = .returned (.tuple #[.pointer (some ⟨w.heap.size + 1, 0, none⟩), .int .i64 0]) ∧
    w' = (w.alloc (.map #[] 0)).alloc (.cells #[.int .i64 m, .int .i64 0, .map (some w.heap.size)] 32) := by
  have h1 : ¬ m < 1 := by omega
  have h2 : ¬ 64 < m := by omega
  have hmk : ∀ w : World, (Instr.makeMap 30 none).run Tryz.prog w = .ok (.map (some w.heap.size)) (w.alloc (.map #[] 0)) := fun _ => rfl
  go_enter Tryz.func4, Tryz.ntmps4
  go_wp2
  go_ret2
  exact ⟨rfl, rfl⟩

set_option maxHeartbeats 1000000 in
theorem deskNews_any (m : Int) (w : World) (h0 : w.cell? ⟨0, 0, none⟩ = some (.int .u8 0)) : Calls Tryz.prog 3 #[.int .i64 m] w fun e w' => e = .returned (.bool true) ∧ Upd w [] w' [] := by
  have H0 := Lib.hid h0
  clear h0
  by_cases h : m < 1 ∨ 64 < m
  · by_cases h1 : m < 1
    · go_enter Tryz.func3, Tryz.ntmps3
      go_wp2_with (first
        | (go_at_call 4; refine (desk_bad m w h).mono ?_; rintro e w1 ⟨rfl, rfl⟩)
        | (go_at_call 5; refine (awake_any w H0.out).mono ?_; rintro e w2 ⟨rfl, hU2⟩))
      go_ret
      exact ⟨rfl, hU2⟩
    · have h2 : 64 < m := by omega
      go_enter Tryz.func3, Tryz.ntmps3
      go_wp2_with (first
        | (go_at_call 4; refine (desk_bad m w h).mono ?_; rintro e w1 ⟨rfl, rfl⟩)
        | (go_at_call 5; refine (awake_any w H0.out).mono ?_; rintro e w2 ⟨rfl, hU2⟩))
      go_ret
      exact ⟨rfl, hU2⟩
  · have h1 : ¬ m < 1 := by omega
    have h2 : ¬ 64 < m := by omega
    have h3 : 1 ≤ m ∧ m ≤ 64 := by omega
    have H3 := Lib.hid h3
    clear h h3
    go_enter Tryz.func3, Tryz.ntmps3
    go_wp2_with (first
      | (go_at_call 4; refine (desk_ok m w H3.out).mono ?_; rintro e w1 ⟨rfl, hw1⟩; have hU1 : Upd w [] w1 [] := hw1 ▸ ((Upd.refl w []).alloc _).alloc _; have hM1 : w1.heap[w.heap.size]? = some (.map #[] 0) := hw1 ▸ heap_alloc2_old _ _ _; have hD1 : w1.heap[w.heap.size + 1]? = some (.cells #[.int .i64 m, .int .i64 0, .map (some w.heap.size)] 32 (0, 0)) := hw1 ▸ heap_alloc2_new _ _ _; clear hw1)
      | (go_at_call 6; refine (list_empty _ _ 0 m 0 w1 (cell0_upd H0.out hU1) hM1 hD1).mono ?_; rintro e w2 ⟨rfl, hU2⟩)
      | (go_at_call 5; refine (awake_any w2 (cell0_upd (cell0_upd H0.out hU1) hU2)).mono ?_; rintro e w3 ⟨rfl, hU3⟩))
    go_ret
    exact ⟨rfl, hU1.trans (hU2.trans hU3)⟩

end Go.Proofs.YtagokocgocfeiaaGreatDoor
