/- ChainPlays returns true for every input: the walk. -/
import Derived.Test.YtgcemlilfdjjlaaAsks
import Derived.Test.YtgcemlilfdjjlaaNews
namespace Go.Proofs.Ytgcemlilfdjjlaa
open Go.RowKit

attribute [local go_sem] Oper.semAt_some

theorem Ref.new (w : World) (C L : Nat) : Ref (w.alloc (.cells #[.int .i64 C, .int .i64 L, .slice none 0 0] 52)) w.heap.size C L (fun _ => []) [w.heap.size] :=
  ⟨[], .slice none 0 0, ⟨heap_alloc_new _ _, Tab.nil _ _ _ _, (fun _ h => by cases h), by simp, (fun _ h => by cases h), rfl, by simp, (fun _ h => by cases h), (fun _ h => by cases h), fun x hx => by simp at hx; simp [hx]⟩⟩

theorem op_cells (w : World) (k x y : Int) : (w.alloc (.cells #[.int .i64 k, .int .i64 x, .int .i64 y] 54)).cell? ⟨w.heap.size, 0, none⟩ = some (.int .i64 k) ∧ (w.alloc (.cells #[.int .i64 k, .int .i64 x, .int .i64 y] 54)).cell? ⟨w.heap.size, 1, none⟩ = some (.int .i64 x) ∧
    (w.alloc (.cells #[.int .i64 k, .int .i64 x, .int .i64 y] 54)).cell? ⟨w.heap.size, 2, none⟩ = some (.int .i64 y) := by
  refine ⟨?_, ?_, ?_⟩ <;> simp [go_sem]

set_option maxRecDepth 100000 in
set_option maxHeartbeats 4000000 in
theorem plays_any (c l : Int) (v : Value) (zs : List OpRec) (w : World) (hin : InOps w v zs) : Calls Try.prog 7 #[.int .i64 c, .int .i64 l, v] w (Quiet w (.bool true)) := by
  obtain ⟨av, cv, rfl, hmax⟩ := hin.len
  unfold maxLen at hmax
  by_cases hg : 1 ≤ c ∧ c ≤ 1048576 ∧ 1 ≤ l ∧ l ≤ 1048576
  · obtain ⟨cn, rfl⟩ := Int.eq_ofNat_of_zero_le (show 0 ≤ c by omega)
    obtain ⟨ln, rfl⟩ := Int.eq_ofNat_of_zero_le (show 0 ≤ l by omega)
    have hC : cn ≤ 1048577 := by omega
    have hL : ln ≤ 1048577 := by omega
    have HG := Lib.hid hg
    clear hg
    go_enter Try.func7, Try.ntmps7
    go_wp2_with (first
      | (go_at_call 12; refine (good_yes _ _ w HG.out).mono ?_; rintro e w' ⟨rfl, rfl⟩)
      | (go_at_call 10; refine (new_int cn ln w HG.out).mono ?_; rintro e w1 ⟨b, rfl, hb, hC1, hU1⟩; rw [Int.toNat_natCast, Int.toNat_natCast] at hC1))
    have hR2 := Ref.new w1 cn ln
    obtain ⟨d, hd⟩ : ∃ d, d = w1.heap.size := ⟨_, rfl⟩
    rw [← hd] at hR2
    rw [← hd]
    generalize hw2 : w1.alloc (.cells #[.int .i64 cn, .int .i64 ln, .slice none 0 0] 52) = w2 at hR2
    have hV2 : Upd w1 [] w2 [] := by rw [← hw2]; exact (Upd.refl _ _).alloc _
    have hbl := hC1.lt b (by simp)
    have hP2 : Pair w2 b d cn ln (fun _ => []) [b] [d] := ⟨hC1.upd hV2 (fun _ _ h => by cases h), hR2, fun x hx hm => by simp at hx hm; omega⟩
    have hU2 : Upd w [] w2 ([b] ++ [d]) := hU1.trans ((hV2.weaken (T := [b]) (fun _ h => by cases h)).to (fun x hx => by
      simp at hx
      rcases hx with rfl | rfl
      · exact .inl (by simp)
      · exact .inr (by omega)))
    have HD := Lib.hid hd
    clear hw2 hd hV2 hR2 hC1 hU1 hb hbl
    go_loopw [11, 36] (fun _ i wr => ∃ (k : Nat) (f : Nat → List Nat) (fp fq : List Nat), k ≤ zs.length ∧ i = .int .i64 k ∧ Pair wr b d cn ln f fp fq ∧ Upd w [] wr (fp ++ fq)) (fun _ i _ => zs.length - (intOf i).toNat)
    case atStart => exact ⟨0, _, _, _, Nat.zero_le _, rfl, hP2, hU2⟩
    case round =>
      clear hP2 hU2
      obtain ⟨k, f, fp, fq, hk, rfl, hP, hU⟩ := hrel
      by_cases hlt : k < zs.length
      · obtain ⟨o, ho⟩ : ∃ o, zs[k]? = some o := ⟨_, List.getElem?_eq_getElem hlt⟩
        obtain ⟨a, cap, hv, hc0, hc1, hc2⟩ := (hin.upd hU).at_ ho
        injection hv with h1 h2 h3
        subst h1 h3
        have hA : ∀ O, Pair (wr.alloc O) b d cn ln f fp fq ∧ Upd w [] (wr.alloc O) (fp ++ fq) := fun O => ⟨hP.upd ((Upd.refl wr []).alloc O) (fun _ _ h => by cases h) (fun _ _ h => by cases h), hU.alloc O⟩
        have n1 : wr.heap.size ∉ fp ++ fq := fun hm => by
          rcases List.mem_append.1 hm with hm | hm
          · exact Nat.lt_irrefl _ (hP.chain.lt _ hm)
          · exact Nat.lt_irrefl _ (hP.ref.lt _ hm)
        have HA := Lib.hid (And.intro hA n1)
        clear h2 ho hA n1 hP hU
        go_wp2_with (first
          | (go_at_call 22; refine (changes_any o.kind o.a o.b _ (HA.out.1 _).1 hC hL).mono ?_; rintro e w2 ⟨f2, fp2, fq2, rfl, hP2, hU2⟩; have s0 := hU2.cell (op_cells wr o.kind o.a o.b).1 HA.out.2; have s1 := hU2.cell (op_cells wr o.kind o.a o.b).2.1 HA.out.2; have s2 := hU2.cell (op_cells wr o.kind o.a o.b).2.2 HA.out.2; have HX := Lib.hid (And.intro hP2 ((HA.out.1 _).2.trans hU2)); clear hP2 hU2)
          | (go_at_call 23; refine (asks_any o.kind o.a o.b _ HX.out.1 hC hL).mono ?_; rintro e w3 ⟨fp3, rfl, hP3, hU3⟩; have HY := Lib.hid (And.intro hP3 (HX.out.2.trans hU3)); clear hP3 hU3))
        go_roundw
        case rel => exact ⟨k + 1, _, _, _, by omega, by go_num, HY.out.1, HY.out.2⟩
        case measure => simp [intOf]; omega
      · go_wp2_with fail
        obtain ⟨a, x, hr⟩ := hP.ref
        have hsz := hr.size
        obtain ⟨ax, cx, rfl, hmax2⟩ := hr.tab.len
        unfold maxLen at hmax2
        have HU := Lib.hid (And.intro hP (And.intro hU hr))
        clear hP hU hr
        obtain ⟨wo, rfl⟩ : ∃ wo : World, wo = wr := ⟨_, rfl⟩
        go_loopw [12] (fun i wr => ∃ (j : Nat) (fp : List Nat), j ≤ a.length ∧ i = .int .i64 j ∧ Pair wr b d cn ln f fp fq ∧ RefAt wr d cn ln f fq a (.slice ax a.length cx) ∧ Upd w [] wr (fp ++ fq)) (fun i _ => a.length - (intOf i).toNat)
        case atStart => exact ⟨0, _, Nat.zero_le _, rfl, HU.out.1, HU.out.2.2, HU.out.2.1⟩
        case round =>
          obtain ⟨j, fp1, hj, rfl, hP, hr, hU⟩ := hrel
          have c2 := cell_at hr.blk (j := 2) rfl
          by_cases hjl : j < a.length
          · obtain ⟨e, he⟩ : ∃ e, a[j]? = some e := ⟨_, List.getElem?_eq_getElem hjl⟩
            obtain ⟨g, cap, hv, hg, e0, e1⟩ := hr.at_ he
            injection hv with h1 h2 h3
            subst h1 h3
            have HX := Lib.hid (And.intro hP (And.intro hr hU))
            clear h2 he hP hr hU
            go_wp2_with (go_at_call 24; refine (walks_any e.num _ HX.out.1 hC hL).mono ?_; rintro e2 w3 ⟨fp3, rfl, hP3, hU3, hr3⟩; have HY := Lib.hid (And.intro hP3 (And.intro (hr3 _ _ HX.out.2.1) (HX.out.2.2.trans hU3))); clear hP3 hU3 hr3)
            go_roundw
            case rel => exact ⟨j + 1, _, by omega, by go_num, HY.out.1, HY.out.2.1, HY.out.2.2⟩
            case measure => simp [intOf]; omega
          · have hja : j = a.length := by omega
            have HX := Lib.hid hU
            clear hP hr hU
            go_wp2_with (go_at_call 11; refine (awake_any _).mono ?_; rintro e w9 ⟨rfl, hU9⟩)
            go_ret
            exact ⟨rfl, (HX.out.trans (hU9.weaken (T := fp1 ++ fq) (fun _ h => by cases h))).to (by simp)⟩
  · have HG := Lib.hid hg
    clear hg
    go_enter Try.func7, Try.ntmps7
    go_wp2_with (first
      | (go_at_call 12; refine (good_no _ _ w HG.out).mono ?_; rintro e w' ⟨rfl, rfl⟩)
      | (go_at_call 11; refine (awake_any w).mono ?_; rintro e w9 ⟨rfl, hU9⟩))
    go_ret
    exact ⟨rfl, hU9⟩

end Go.Proofs.Ytgcemlilfdjjlaa
