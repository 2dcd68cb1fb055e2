/- DeskNumbers: the walk. -/
import Derived.Test.YtlnhacbdbhmgkaaGreatDoorNuG
namespace Go.Proofs.YtlnhacbdbhmgkaaGreatDoor
open Go.RowKit Go.Maps

set_option maxRecDepth 100000 in
set_option maxHeartbeats 3200000 in
theorem numbers_bad (most : Int) (v : Value) (w : World) (h0 : w.cell? ⟨0, 0, none⟩ = some (.int .u8 0)) (h : most < 1 ∨ 64 < most) :
    Calls Tryz.prog 3 #[.int .i64 most, v] w fun e w' => e = .returned (.bool true) ∧ Upd w [] w' [] := by
  have H0 := Lib.hid h0
  clear h0
  by_cases h1 : most < 1
  · go_enter Tryz.func3, Tryz.ntmps3
    go_wp2_with (first
      | (go_at_call 4; refine (desk_bad most w h).mono ?_; rintro e w1 ⟨rfl, rfl⟩)
      | (go_at_call 5; refine (awake_any w H0.out).mono ?_; rintro e w2 ⟨rfl, hU2⟩))
    go_ret
    exact ⟨rfl, hU2⟩
  · have h2 : 64 < most := by omega
    go_enter Tryz.func3, Tryz.ntmps3
    go_wp2_with (first
      | (go_at_call 4; refine (desk_bad most w h).mono ?_; rintro e w1 ⟨rfl, rfl⟩)
      | (go_at_call 5; refine (awake_any w H0.out).mono ?_; rintro e w2 ⟨rfl, hU2⟩))
    go_ret
    exact ⟨rfl, hU2⟩

theorem size_alloc2 (w : World) (a b : Obj) : ((w.alloc a).alloc b).heap.size = w.heap.size + 2 := by rw [World.size_alloc, World.size_alloc]
/-- The state at the loop's beginning. -/
theorem start_of {w w1 w2 : World} {tb : Nat} {most : Int} (h0 : w.cell? ⟨0, 0, none⟩ = some (.int .u8 0)) (h : 1 ≤ most ∧ most ≤ 64) (hU1 : Upd w [] w1 []) (hM1 : w1.heap[w.heap.size]? = some (.map #[] 0))
    (hD1 : w1.heap[w.heap.size + 1]? = some (.cells #[.int .i64 most, .int .i64 0, .map (some w.heap.size)] 49 (0, 0))) (hs1 : w1.heap.size = w.heap.size + 2) {o : Obj}
    (hT2 : TreeAt st1Out 91 w2 w1.heap.size w2.heap.size (.pointer (some ⟨tb, 0, none⟩))) (hU2 : Upd (w1.alloc o) [w1.heap.size] w2 [w1.heap.size]) :
    St w (w.heap.size + 1) w.heap.size w1.heap.size w2.heap.size w2.heap.size most (.pointer (some ⟨tb, 0, none⟩)) (w2.alloc (.cells Tryz.zeroCells38 38)) 0 (.map []) := by
  have hs2 := hU2.size
  rw [World.size_alloc] at hs2
  have hUa : Upd w1 [] (w1.alloc o) [] := (Upd.refl w1 []).alloc _
  have hU12 : Upd w [] w2 [] := (((hU1.trans hUa).to (T := [w1.heap.size]) (fun b hb => .inr (by simp at hb; omega))).trans hU2).to (fun b hb => by cases hb)
  have hp := lt_of_cell h0
  exact St.start hT2 (hU2.keeps (hUa.keeps hM1 (fun h => by cases h)) (by simp; omega)) (hU2.keeps (hUa.keeps hD1 (fun h => by cases h)) (by simp; omega)) rfl hU12 h (by omega)

set_option maxRecDepth 100000 in
set_option maxHeartbeats 3200000 in
theorem numbers_good (most : Int) (v : Value) (zs : List Int) (w : World) (h0 : w.cell? ⟨0, 0, none⟩ = some (.int .u8 0)) (hin : InInts w v zs) (hwf : ∀ x ∈ zs, (Lit.int .i64 x).wf = true) (h : 1 ≤ most ∧ most ≤ 64) :
    Calls Tryz.prog 3 #[.int .i64 most, v] w fun e w' => e = .returned (.bool true) ∧ Upd w [] w' [] := by
  have H0 := Lib.hid h0
  have HIn := Lib.hid hin
  have HWf := Lib.hid hwf
  have H := Lib.hid h
  have g1 : ¬ most < 1 := by omega
  have g2 : ¬ 64 < most := by omega
  obtain ⟨sa, cap, rfl, hlen⟩ := hin.len
  unfold maxLen at hlen
  clear h0 hin hwf h
  go_enter Tryz.func3, Tryz.ntmps3
  go_wp2_with (first
    | (go_at_call 4; refine (desk_ok most w H.out).mono ?_; rintro e w1 ⟨rfl, hw1⟩; have hU1 : Upd w [] w1 [] := hw1 ▸ ((Upd.refl w []).alloc _).alloc _; have hM1 : w1.heap[w.heap.size]? = some (.map #[] 0) := hw1 ▸ heap_alloc2_old _ _ _; have hD1 : w1.heap[w.heap.size + 1]? = some (.cells #[.int .i64 most, .int .i64 0, .map (some w.heap.size)] 49 (0, 0)) := hw1 ▸ heap_alloc2_new _ _ _; have hs1 := Lib.hid (show w1.heap.size = w.heap.size + 2 from hw1 ▸ size_alloc2 _ _ _); clear hw1)
    | (go_at_call 6; refine (tree_new (B := w1.heap.size) ((hU1.alloc _).cell H0.out (fun h => by cases h)) (heap_alloc_new _ _) (by have h1 := lt_of_cell H0.out; have h2 := hU1.size; omega)).mono ?_; rintro e w2 ⟨tb, rfl, hT2, hU2⟩))
  have hSt := start_of H0.out H.out hU1 hM1 hD1 hs1.out hT2 hU2
  have HSt := Lib.hid hSt
  clear hSt hU2 hT2 hM1 hD1 hU1 hs1
  go_loopw [10, 59] (fun n j wr => ∃ (q : Nat) (k : Nat) (D : DataW Unit), q ≤ zs.length ∧ k ≤ q ∧ j = .int .i64 q ∧ n = .int .i64 (Maps.size D) ∧ St w (w.heap.size + 1) w.heap.size w1.heap.size w2.heap.size w2.heap.size most (.pointer (some ⟨tb, 0, none⟩)) wr k D) (fun _ j _ => zs.length - natOfV j)
  case atStart => exact ⟨0, 0, .map [], Nat.zero_le _, Nat.le_refl _, rfl, rfl, HSt.out⟩
  case round =>
    obtain ⟨q, k, D, hq, hkq, rfl, rfl, hS⟩ := hrel
    have HS := Lib.hid hS
    have hsD : (Maps.size D : Int) ≤ 64 := by have := hS.small; omega
    clear hS
    by_cases hql : q < zs.length
    · obtain ⟨a, cap', hv, f0⟩ := (HIn.out.upd HS.out.upd).at_ hql
      cases hv
      obtain ⟨c, hc⟩ : ∃ c, zs[q] = c := ⟨_, rfl⟩
      rw [hc] at f0
      have HC := Lib.hid (show (Lit.int .i64 c).wf = true from HWf.out c (hc ▸ List.getElem_mem hql))
      have HQ := Lib.hid (And.intro hql hkq)
      clear hc hkq hq
      go_wp2
      go_loopw [13] (fun l wr' => ∃ id : Nat, l = .int .i64 id ∧ 1 ≤ id ∧ (∀ j : Nat, 1 ≤ j → j < id → hasI D j = true) ∧ wr' = wr) (fun l _ => 70 - natOfV l)
      case atStart => exact ⟨1, rfl, by omega, fun j h1 h2 => by omega, rfl⟩
      case round =>
        obtain ⟨id, rfl, h1, hall, rfl⟩ := hrel
        have hid : id ≤ 65 := by
          have := size_ge (id - 1) HS.out.desk.opens.tidy fun j h2 h3 => hall j h2 (by omega)
          have := HS.out.small
          omega
        have g0 : wr.cell? ⟨w2.heap.size, id, none⟩ = some (.bool (hasI D id)) := HS.out.arr.cell (by omega)
        cases hh : hasI D id with
        | true =>
          rw [hh] at g0
          have HA := Lib.hid (And.intro hh hall)
          clear hh hall
          go_wp2
          go_roundw
          case rel => exact ⟨id + 1, congrArg (Value.int .i64) (by omega), by omega, fun j h2 h3 => by
            by_cases e : j = id
            · rw [e]; exact HA.out.1
            · exact HA.out.2 j h2 (by omega), trivial⟩
          case measure =>
            simp only [natOfV]
            omega
        | false =>
          rw [hh] at g0
          have HA := Lib.hid (And.intro hh hall)
          clear hh hall
          have hsize := HS.out.low.2.2.2.2.1
          have hk1 := HQ.out
          by_cases hfull : (Maps.size D : Int) = most
          · have d1 : ((Maps.size D : Int) == most) = true := by simpa using hfull
            have HFull := Lib.hid hfull
            clear hfull hsize hk1
            go_upto_region 23 with (fail)
            go_at_call 7
            refine (open_full (σ := st1Out) (n := 91) HS.out.desk HFull.out _).mono ?_
            rintro e w3 ⟨rfl, m3, rfl⟩
            dsimp only
            go_upto_region 23 with (fail)
            obtain ⟨W4, hW4⟩ : ∃ W4, wr.drewN m3 = W4 := ⟨_, rfl⟩
            obtain ⟨D4, hD4⟩ : ∃ D4, D = D4 := ⟨_, rfl⟩
            obtain ⟨k4, hk4'⟩ : ∃ k4, k = k4 := ⟨_, rfl⟩
            have hk4 : k4 ≤ k + 1 := by omega
            have hS4 := HS.out.drewN m3
            rw [hW4]
            rw [hW4, hk4', hD4] at hS4
            have hsz4 : Maps.size D = Maps.size D4 := by rw [hD4]
            have HS4 := Lib.hid hS4
            clear hS4 hW4 hD4 hk4'
            have HSq := Lib.hid hsz4
            clear hsz4
            by_cases c1 : c < 1
            · have hno : hasI D4 c = false := by
                cases e : hasI D4 c
                · rfl
                · have := HS4.out.keys c e
                  omega
              have HNo := Lib.hid hno
              clear hno
              go_wp2_with (first
                | (go_at_call 8; refine (close_none HS4.out.desk HC.out HNo.out).mono ?_; rintro e w5 ⟨rfl, rfl⟩))
              go_roundw
              case rel => exact ⟨q + 1, k4, D4, by have := HQ.out.1; omega, by have := HQ.out.2; have := hk4; omega, congrArg (Value.int .i64) (by omega), congrArg (Value.int .i64) (by have := HSq.out; omega), HS4.out⟩
              case measure =>
                have := HQ.out.1
                simp only [natOfV]
                omega
            · by_cases c2 : 64 < c
              · have hno : hasI D4 c = false := by
                  cases e : hasI D4 c
                  · rfl
                  · have := HS4.out.keys c e
                    omega
                have HNo := Lib.hid hno
                clear hno
                go_wp2_with (first
                  | (go_at_call 8; refine (close_none HS4.out.desk HC.out HNo.out).mono ?_; rintro e w5 ⟨rfl, rfl⟩))
                go_roundw
                case rel => exact ⟨q + 1, k4, D4, by have := HQ.out.1; omega, by have := HQ.out.2; have := hk4; omega, congrArg (Value.int .i64) (by omega), congrArg (Value.int .i64) (by have := HSq.out; omega), HS4.out⟩
                case measure =>
                  have := HQ.out.1
                  simp only [natOfV]
                  omega
              · obtain ⟨j, rfl⟩ : ∃ j : Nat, c = (j : Int) := ⟨c.toNat, by omega⟩
                have gj : W4.cell? ⟨w2.heap.size, j, none⟩ = some (.bool (hasI D4 j)) := HS4.out.arr.cell (by omega)
                cases hj : hasI D4 j with
                | false =>
                  rw [hj] at gj
                  have HNo := Lib.hid hj
                  clear hj
                  go_wp2_with (first
                    | (go_at_call 8; refine (close_none HS4.out.desk HC.out HNo.out).mono ?_; rintro e w5 ⟨rfl, rfl⟩))
                  go_roundw
                  case rel => exact ⟨q + 1, k4, D4, by have := HQ.out.1; omega, by have := HQ.out.2; have := hk4; omega, congrArg (Value.int .i64) (by omega), congrArg (Value.int .i64) (by have := HSq.out; omega), HS4.out⟩
                  case measure =>
                    have := HQ.out.1
                    simp only [natOfV]
                    omega
                | true =>
                  rw [hj] at gj
                  have HNo := Lib.hid hj
                  clear hj
                  go_wp2_with (first
                    | (go_at_call 8; refine (close_some HS4.out.tree (Nat.le_succ _) HS4.out.desk HC.out HNo.out).mono ?_
                       rintro e w5 ⟨rfl, hC5⟩
                       obtain ⟨j', hjj, hj64, cA, fA, hdel, hS5, hsz5⟩ := HS4.out.closed HNo.out hC5
                       obtain rfl : j' = j := by omega
                       have HS5 := Lib.hid (And.intro hC5.1 (And.intro hdel (And.intro hS5 hsz5)))
                       clear hC5 hjj hdel hS5 hsz5)
                    | (go_at_call 8; refine (close_none HS5.out.1 HC.out HS5.out.2.1).mono ?_; rintro e w5b ⟨rfl, rfl⟩))
                  go_roundw
                  case rel => exact ⟨q + 1, k4, _, by have := HQ.out.1; omega, by have := HQ.out.2; have := hk4; omega, congrArg (Value.int .i64) (by omega), congrArg (Value.int .i64) (by have := HSq.out; have := HS5.out.2.2.2; omega), HS5.out.2.2.1⟩
                  case measure =>
                    have := HQ.out.1
                    simp only [natOfV]
                    omega
          · have d1 : ((Maps.size D : Int) == most) = false := by simpa using hfull
            have HFull := Lib.hid hfull
            have HB := Lib.hid (show k < maxLen ∧ w2.heap.size ≤ wr.heap.size ∧ (w2.heap.size ≤ w2.heap.size + 1 ∧ w2.heap.size + 1 ≤ wr.heap.size) ∧ Maps.size D ≤ 1000 from ⟨by simp only [maxLen]; omega, by omega, ⟨by omega, by omega⟩, by have := HS.out.small; omega⟩)
            clear hfull hsize hk1
            go_upto_region 23 with (fail)
            go_at_call 7
            refine (open_some curOpens tree_state HS.out.tree HB.out.2.1 HB.out.2.2.1 HS.out.desk HB.out.1 HB.out.2.2.2 HFull.out _).mono ?_
            rintro e w6 ⟨id', rfl, hO⟩
            obtain rfl : id' = id := by
              rcases Nat.lt_trichotomy id' id with h | h | h
              · have := HA.out.2 id' hO.one h
                rw [hO.free] at this
                cases this
              · exact h
              · have := hO.least id h1 h
                rw [HA.out.1] at this
                cases this
            obtain ⟨hid64, cA, fA, D4, hS4, hsz4⟩ := HS.out.opened HFull.out hO
            have HS4a := Lib.hid (And.intro hS4 hsz4)
            clear hS4 hsz4 hO
            dsimp only
            go_upto_region 23 with (fail)
            obtain ⟨W4, hW4⟩ : ∃ W4, w6.setCell ⟨w2.heap.size, id', none⟩ (.bool true) = W4 := ⟨_, rfl⟩
            obtain ⟨k4, hk4'⟩ : ∃ k4, k + 1 = k4 := ⟨_, rfl⟩
            have hk4 : k4 ≤ k + 1 := by omega
            have hS4 := HS4a.out.1
            rw [hW4]
            rw [hW4, hk4'] at hS4
            have hsz4 : Maps.size D + 1 = Maps.size D4 := HS4a.out.2.symm
            have HS4 := Lib.hid hS4
            clear hS4 hW4 hk4' HS4a
            have HSq := Lib.hid hsz4
            clear hsz4
            by_cases c1 : c < 1
            · have hno : hasI D4 c = false := by
                cases e : hasI D4 c
                · rfl
                · have := HS4.out.keys c e
                  omega
              have HNo := Lib.hid hno
              clear hno
              go_wp2_with (first
                | (go_at_call 8; refine (close_none HS4.out.desk HC.out HNo.out).mono ?_; rintro e w5 ⟨rfl, rfl⟩))
              go_roundw
              case rel => exact ⟨q + 1, k4, D4, by have := HQ.out.1; omega, by have := HQ.out.2; have := hk4; omega, congrArg (Value.int .i64) (by omega), congrArg (Value.int .i64) (by have := HSq.out; omega), HS4.out⟩
              case measure =>
                have := HQ.out.1
                simp only [natOfV]
                omega
            · by_cases c2 : 64 < c
              · have hno : hasI D4 c = false := by
                  cases e : hasI D4 c
                  · rfl
                  · have := HS4.out.keys c e
                    omega
                have HNo := Lib.hid hno
                clear hno
                go_wp2_with (first
                  | (go_at_call 8; refine (close_none HS4.out.desk HC.out HNo.out).mono ?_; rintro e w5 ⟨rfl, rfl⟩))
                go_roundw
                case rel => exact ⟨q + 1, k4, D4, by have := HQ.out.1; omega, by have := HQ.out.2; have := hk4; omega, congrArg (Value.int .i64) (by omega), congrArg (Value.int .i64) (by have := HSq.out; omega), HS4.out⟩
                case measure =>
                  have := HQ.out.1
                  simp only [natOfV]
                  omega
              · obtain ⟨j, rfl⟩ : ∃ j : Nat, c = (j : Int) := ⟨c.toNat, by omega⟩
                have gj : W4.cell? ⟨w2.heap.size, j, none⟩ = some (.bool (hasI D4 j)) := HS4.out.arr.cell (by omega)
                cases hj : hasI D4 j with
                | false =>
                  rw [hj] at gj
                  have HNo := Lib.hid hj
                  clear hj
                  go_wp2_with (first
                    | (go_at_call 8; refine (close_none HS4.out.desk HC.out HNo.out).mono ?_; rintro e w5 ⟨rfl, rfl⟩))
                  go_roundw
                  case rel => exact ⟨q + 1, k4, D4, by have := HQ.out.1; omega, by have := HQ.out.2; have := hk4; omega, congrArg (Value.int .i64) (by omega), congrArg (Value.int .i64) (by have := HSq.out; omega), HS4.out⟩
                  case measure =>
                    have := HQ.out.1
                    simp only [natOfV]
                    omega
                | true =>
                  rw [hj] at gj
                  have HNo := Lib.hid hj
                  clear hj
                  go_wp2_with (first
                    | (go_at_call 8; refine (close_some HS4.out.tree (Nat.le_succ _) HS4.out.desk HC.out HNo.out).mono ?_
                       rintro e w5 ⟨rfl, hC5⟩
                       obtain ⟨j', hjj, hj64, cA, fA, hdel, hS5, hsz5⟩ := HS4.out.closed HNo.out hC5
                       obtain rfl : j' = j := by omega
                       have HS5 := Lib.hid (And.intro hC5.1 (And.intro hdel (And.intro hS5 hsz5)))
                       clear hC5 hjj hdel hS5 hsz5)
                    | (go_at_call 8; refine (close_none HS5.out.1 HC.out HS5.out.2.1).mono ?_; rintro e w5b ⟨rfl, rfl⟩))
                  go_roundw
                  case rel => exact ⟨q + 1, k4, _, by have := HQ.out.1; omega, by have := HQ.out.2; have := hk4; omega, congrArg (Value.int .i64) (by omega), congrArg (Value.int .i64) (by have := HSq.out; have := HS5.out.2.2.2; omega), HS5.out.2.2.1⟩
                  case measure =>
                    have := HQ.out.1
                    simp only [natOfV]
                    omega
    · obtain rfl : q = zs.length := by omega
      have hsz := HS.out.low.2.2.2.2.1
      have HZ := Lib.hid (show w2.heap.size ≤ wr.heap.size ∧ Maps.size D ≤ 1000 from ⟨by omega, by omega⟩)
      clear hsz hkq hql hq
      go_upto_region 31 with (fail)
      go_at_call 9
      refine (list_any tree_state HS.out.tree HZ.out.1 HS.out.desk HZ.out.2).mono ?_
      rintro e w7 ⟨v7, L, cf, rfl, hids, htab, hinfo, hU7⟩
      have hl := hids.1
      have hL64 : L.length ≤ 64 := by omega
      have HL := Lib.hid (And.intro hids (And.intro htab (And.intro hinfo hU7)))
      have hArr7 : Arr w7 w2.heap.size D := HS.out.arr.keeps (hU7.block _ HS.out.low.2.2.2.2.1 (fun h => by cases h))
      have HArr7 := Lib.hid hArr7
      have HU7 := Lib.hid (show Upd w [] w7 [] from HS.out.upd.trans hU7)
      rw [← hl] at hsD
      rw [← hl]
      clear hids hinfo hU7 hArr7 hl
      rcases htab with ⟨rfl, h0⟩ | ⟨gi, capi, cur, rfl, hgb, hcap, hcm, hcs, hcells⟩
      · obtain rfl : L = [] := List.length_eq_zero_iff.1 h0
        clear h0
        dsimp only
        simp only [List.length_nil]
        go_wp2
        refine wp_loop_rounds 1 ?_
        rw [rounds_succ]
        go_wp2_with (first
          | (go_at_call 5; refine (awake_any w7 (cell0_upd H0.out HU7.out)).mono ?_; rintro e w8 ⟨rfl, hU8⟩))
        go_ret
        exact ⟨rfl, HU7.out.trans hU8⟩
      · clear hgb hcap hcm hcs hcells
        dsimp only
        go_wp2
        go_loopw [131] (fun i wr' => ∃ r : Nat, r ≤ L.length ∧ i = .int .i64 r ∧ Upd w7 [] wr' []) (fun i _ => L.length - natOfV i)
        case atStart => exact ⟨0, Nat.zero_le _, rfl, Upd.refl _ _⟩
        case round =>
          obtain ⟨r, hr, rfl, hUr⟩ := hrel
          have HUr := Lib.hid hUr
          clear hUr
          by_cases hrl : r < L.length
          · obtain ⟨g', capg, hv, -, -, hcell, -⟩ := (HL.out.2.1.upd HUr.out (fun _ _ h => by cases h)).block (by omega)
            obtain ⟨⟨x, hx, e0⟩, ⟨s1, e1⟩, ⟨m2, e2⟩, ⟨b3, e3⟩⟩ := HL.out.2.2.1 r hrl
            have k0 : wr.cell? ⟨g', r * 4, none⟩ = some (cf r 0) := hcell r 0 hrl (by decide)
            have k1 := hcell r 1 hrl (by decide)
            have k2 := hcell r 2 hrl (by decide)
            have k3 := hcell r 3 hrl (by decide)
            rw [e0] at k0
            rw [e1] at k1
            rw [e2] at k2
            rw [e3] at k3
            injection hv with hv1 hv2 hv3
            injection hv1 with hv1
            injection hv1 with hv1
            subst hv1 hv3
            have HX := Lib.hid hx
            have hxD := (HL.out.1.2.1 x).1 (List.mem_of_getElem? hx)
            have hx64 := HS.out.keys x hxD
            obtain ⟨xn, rfl⟩ : ∃ xn : Nat, x = (xn : Int) := ⟨x.toNat, by omega⟩
            have x2 : xn < 66 := by omega
            have d1 : decide ((xn : Int) < 1) = false := by simp; omega
            have d2 : decide ((64 : Int) < (xn : Int)) = false := by simp; omega
            have HXD := Lib.hid hxD
            clear hx e0 e1 e2 e3 hcell hv2 hxD
            go_wp2
            obtain ⟨w5, hw5⟩ : ∃ w5, wr.alloc (Obj.cells #[Value.int IntKind.i64 xn, Value.string s1, Value.int IntKind.i64 m2, Value.bool b3] 45) = w5 := ⟨_, rfl⟩
            have hU5 : Upd w7 [] w5 [] := hw5 ▸ HUr.out.alloc _
            have y0 : w5.cell? ⟨wr.heap.size, 0, none⟩ = some (.int .i64 xn) := by rw [← hw5]; exact World.cell?_alloc_new ..
            have y1 : w5.cell? ⟨w2.heap.size, xn, none⟩ = some (.bool true) := by
              rw [← HXD.out]
              exact hU5.cell (HArr7.out.cell x2) (fun h => by cases h)
            rw [hw5]
            have HU5 := Lib.hid hU5
            clear hw5 hU5 k0 k1 k2 k3
            by_cases hr0 : r = 0
            · subst hr0
              have d3 : decide ((0 : Int) < ((0 : Nat) : Int)) = false := by decide
              go_quiet (fail)
              go_wp2
              go_roundw
              case rel => exact ⟨1, hrl, rfl, HU5.out.drewN _⟩
              case measure =>
                simp only [natOfV]
                omega
            · have d3 : decide ((0 : Int) < (r : Int)) = true := by simp; omega
              obtain ⟨g', capg, hv, -, -, hcell, -⟩ := (HL.out.2.1.upd HU5.out (fun _ _ h => by cases h)).block (by omega)
              have hp : r - 1 < L.length := by omega
              obtain ⟨⟨y, hy, ey⟩, -⟩ := HL.out.2.2.1 (r - 1) hp
              have yp : w5.cell? ⟨g', (r - 1) * 4, none⟩ = some (cf (r - 1) 0) := hcell (r - 1) 0 hp (by decide)
              rw [ey] at yp
              injection hv with hv1 hv2 hv3
              injection hv1 with hv1
              injection hv1 with hv1
              subst hv1 hv3
              have hlt : y < (xn : Int) := by
                have hx := HX.out
                have h1 := (List.getElem?_eq_some_iff.1 hy)
                have h2 := (List.getElem?_eq_some_iff.1 hx)
                have := List.pairwise_iff_getElem.1 HL.out.1.2.2 (r - 1) r hp hrl (by omega)
                rw [h1.2, h2.2] at this
                exact this
              have d4 : decide ((xn : Int) ≤ y) = false := by simp; omega
              have q1 : IntKind.i64.wrap ((r : Int) - 1) = ((r - 1 : Nat) : Int) := by rw [IntWalk.i64_in _ (by omega)]; omega
              clear hy ey hcell hv2 hlt
              have q5 : 0 < r := by omega
              have q6 : decide (0 < r) = true := by simp; omega
              clear hr0
              go_quiet (fail)
              go_wp2
              go_roundw
              case rel => exact ⟨r + 1, hrl, congrArg (Value.int .i64) (by omega), HU5.out.drewN _⟩
              case measure =>
                simp only [natOfV]
                omega
          · obtain rfl : r = L.length := by omega
            clear hr hrl
            go_wp2_with (first
              | (go_at_call 5; refine (awake_any wr (cell0_upd (cell0_upd H0.out HU7.out) HUr.out)).mono ?_; rintro e w8 ⟨rfl, hU8⟩))
            go_ret
            exact ⟨rfl, HU7.out.trans (HUr.out.trans hU8)⟩

theorem numbers_any (most : Int) (v : Value) (zs : List Int) (w : World) (h0 : w.cell? ⟨0, 0, none⟩ = some (.int .u8 0)) (hin : InInts w v zs) (hwf : ∀ x ∈ zs, (Lit.int .i64 x).wf = true) :
    Calls Tryz.prog 3 #[.int .i64 most, v] w fun e w' => e = .returned (.bool true) ∧ Upd w [] w' [] := by
  by_cases h : 1 ≤ most ∧ most ≤ 64
  · exact numbers_good most v zs w h0 hin hwf h
  · exact numbers_bad most v w h0 (by omega)

end Go.Proofs.YtlnhacbdbhmgkaaGreatDoor
