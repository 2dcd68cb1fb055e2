/- The chain's Walk: its iterator's contract, for any loop body. -/
import Derived.Test.YtgcemlilfdjjlaaChainI
import Derived.Test.YtgcemlilfdjjlaaRange
import Derived.Test.YtgcemlilfdjjlaaArgs
namespace Go.Proofs.Ytgcemlilfdjjlaa
open Go.RowKit

attribute [local go_sem] Oper.semAt_some

/-- The cells that Walk tells. -/
noncomputable def told (f : Nat → List Nat) (n : Int) (L : Nat) : List Nat := open Classical in if Out n L then [] else f n.toNat

theorem walk_any (b : Nat) (n : Int) (w : World) : Calls Try.prog 20 #[.pointer (some ⟨b, 0, none⟩), .int .i64 n] w fun e w' =>
    e = .returned (.func (.func 31) #[] #[.pointer (some ⟨w.heap.size, 0, none⟩), .pointer (some ⟨w.heap.size + 1, 0, none⟩)]) ∧
    w' = (w.alloc (.cells #[.pointer (some ⟨b, 0, none⟩)] 22)).alloc (.cells #[.int .i64 n] 3) := by
  go_enter Try.func20, Try.ntmps20
  go_wp2
  go_ret
  exact ⟨rfl, rfl⟩

/-- What a round owes the iterator: it goes on, and the iterator's own block g is as it was; or it has said 'no more'. -/
def Round (l : Nat) (J Jx : Nat → Nat → World → Prop) (g k c : Nat) (W : World) : Prop :=
  YieldAt Fence.wide 0 Try.prog l #[.int .i64 c] W fun e W' => (e = .returned (.bool true) ∧ J g (k + 1) W' ∧ W'.heap[g]? = W.heap[g]?) ∨ (e = .returned (.bool false) ∧ Jx g (k + 1) W')

def IterIs (f : Nat → List Nat) (n : Int) (L : Nat) (J Jx : Nat → Nat → World → Prop) (e : Ending) (W' : World) : Prop :=
  (∃ v, e = .returned v) ∧ ∃ g, J g (told f n L).length W' ∨ ∃ k, k ≤ (told f n L).length ∧ Jx g k W'

theorem own_eq {g n c k : Nat} (h : Value.ownBlock (.slice (some ⟨g, 0, none⟩) n c) = some k) : g = k := by simpa [Value.ownBlock] using h

def GatherRel (f : Nat → List Nat) (W1 : World) (n : Nat) (v c : Value) (wr : World) : Prop :=
  ∃ A B, f n = A ++ B ∧ c = .int .i64 (numOf B.head?) ∧ Ints wr v (ofNats A) ∧ Upd W1 [] wr [] ∧ (∃ g cap, v = .slice (some ⟨g, 0, none⟩) A.length cap ∧ W1.heap.size ≤ g)

set_option maxRecDepth 100000 in
set_option maxHeartbeats 2000000 in
theorem iter_any {b C L : Nat} {f : Nat → List Nat} {fp : List Nat} (l B0 B1 : Nat) (n : Int) (W : World) (J Jx : Nat → Nat → World → Prop) (hC : Chain W b C L f fp)
    (hB0 : W.heap[B0]? = some (.cells #[.pointer (some ⟨b, 0, none⟩)] 22 (0, 0))) (hB1 : W.heap[B1]? = some (.cells #[.int .i64 n] 3 (0, 0)))
    (hn0 : B0 ∉ fp) (hn1 : B1 ∉ fp)
    (h0 : ∀ g W1 fp1, Chain W1 b C L f fp1 → Upd W fp W1 fp1 → W.heap.size ≤ g → g ∉ fp1 → (0 < (told f n L).length → g < W1.heap.size) → J g 0 W1)
    (hR : ∀ g k c W1, J g k W1 → (told f n L)[k]? = some c → Round l J Jx g k c W1) :
    CallsIn Fence.wide 0 Try.prog 31 #[.func (.yield l) #[] #[], .pointer (some ⟨B0, 0, none⟩), .pointer (some ⟨B1, 0, none⟩)] W (IterIs f n L J Jx) := by
  have c0 : W.cell? ⟨B0, 0, none⟩ = some (.pointer (some ⟨b, 0, none⟩)) := cell_of_one hB0
  have c1 : W.cell? ⟨B1, 0, none⟩ = some (.int .i64 n) := cell_of_one hB1
  by_cases hn : Out n L
  · have ht : told f n L = [] := if_pos hn
    have HT := Lib.hid ht
    have hJ := h0 W.heap.size W fp hC (Upd.refl _ _) (Nat.le_refl _) (fun hm => by have := hC.lt _ hm; omega) (fun h => by rw [ht] at h; exact absurd h (by simp))
    obtain ⟨m, na, ne, va, ve, hL, hW, rfl, rfl, rfl⟩ := hC
    clear ht
    refine callsIn_of_wp Try.func31 rfl trivial ?_ rfl
    simp only [Try.ntmps31, List.size_toArray, List.length_cons, List.length_nil, Nat.reduceAdd, Nat.reduceSub, Array.replicate_succ, Array.replicate_zero, List.push_toArray, List.append_toArray, List.nil_append, List.cons_append]
    gi_wp2_with (refine ⟨trivial, rfl, ?_⟩; gi_at_call 27; refine (callsIn_wide.2 (list_none n W hL hn)).mono ?_; rintro e w' ⟨rfl, rfl⟩)
    refine bodyPost_ret (results_none rfl _ _ _) rfl ?_
    exact ⟨⟨_, rfl⟩, _, .inl (by rw [HT.out]; exact hJ)⟩
  · obtain ⟨n, rfl, hlt⟩ := Out.no hn
    have ht : told f n L = f n := if_neg hn
    have HT := Lib.hid ht
    have HR := Lib.hid hR
    have H0 := Lib.hid h0
    clear hn ht hR h0
    obtain ⟨m, na, ne, va, ve, hL, hW, rfl, rfl, rfl⟩ := hC
    obtain ⟨i0, hi, hz0, hz1, hz2⟩ := info_parts infoInt
    have hlen := hW.length n
    have hcc := hL.hc
    refine callsIn_of_wp Try.func31 rfl trivial ?_ rfl
    simp only [Try.ntmps31, List.size_toArray, List.length_cons, List.length_nil, Nat.reduceAdd, Nat.reduceSub, Array.replicate_succ, Array.replicate_zero, List.push_toArray, List.append_toArray, List.nil_append, List.cons_append]
    have b2 : i0.bytes * (f n).length ≤ 281474976710656 := by rw [hz2]; omega
    have b3 : (f n).length ≤ maxLen := by simp only [maxLen]; omega
    gi_wp2_with (first
      | (gi_at_make; (refine wpListIn_make_own _ rfl _ _ 38 rfl W1.heap.size 3 i0 (.int .i64 0) 1 Try.underlying38 hi hz0 hz1 .i64 .i64 _ (f n).length (by rfl) (by rfl) rfl b2 b3 (Nat.le_refl _) ?_; intro W2 hown hgrow; have e0 : W2.cell? ⟨g, n * 3, none⟩ = _ := hgrow.cell hx0 (by simp)))
      | (refine ⟨trivial, rfl, ?_⟩; gi_at_call 27; refine (callsIn_wide.2 (list_ok n W hL hlt)).mono ?_; rintro e W1 ⟨ne', ve', g, rfl, hlt1, hg1, hL1, hU1⟩; have hx := hL1.end_cells hg1 hlt1; rw [hW.ends n] at hx; obtain ⟨hx0, hx1, hx2⟩ := hx; have d0 := hU1.cell c0 hn0; have d1 := hU1.cell c1 hn1; have HG := Lib.hid hg1; clear hg1))
    clear b2 b3
    have hU2 : Upd W1 [] W2 [] := (Upd.refl W1 []).grown hgrow (fun k e => by cases e)
    have hI2 := Ints.of_make hown
    clear hx0 hx1 hx2 e0 hgrow hown
    gi_loopw [6, 7, 27] (fun v c _ wr => GatherRel f W1 n v c wr) (fun v _ _ _ => (f n).length + 1 - lenOfV v)
    case atStart => exact ⟨[], f n, rfl, rfl, hI2, hU2, _, _, rfl, Nat.le_refl _⟩
    case round =>
      obtain ⟨A, B, hf, rfl, hI, hU, g3, cap3, rfl, hg3⟩ := hrel
      have hLr := hL1.upd hU (fun _ _ h => by cases h)
      have hlen2 : A.length + B.length = (f n).length := by rw [hf]; simp
      have hd0 := hU.cell d0 (fun h => by cases h)
      cases B with
      | nil =>
        simp only [List.head?_nil, numOf_none]
        rw [List.append_nil] at hf
        subst hf
        have hCr : Chain wr b m.cells m.lists f (feet b va ve') := ⟨m, _, _, _, _, hLr, hW, rfl, rfl, rfl⟩
        have hUr : Upd W (feet b va ve) wr (feet b va ve') := hU1.trans ((hU.weaken (T := feet b va ve') (fun _ h => by cases h)).to (fun _ h => .inl h))
        have hJ := H0.out g3 wr _ hCr hUr (by have := hU1.size; omega) (fun hm => by have := hL1.lt g3 hm; omega) (fun _ => hI.lt g3 rfl)
        have HJ := Lib.hid hJ
        clear hJ
        obtain ⟨wo, rfl⟩ : ∃ wo : World, wo = wr := ⟨_, rfl⟩
        gi_wp2
        gi_loopw [9, 44] (fun _ i wr => ∃ k : Nat, k ≤ (f n).length ∧ i = .int .i64 k ∧ J g3 k wr ∧ wr.heap[g3]? = wo.heap[g3]?) (fun _ i _ => (f n).length - (intOf i).toNat)
        case atStart => exact ⟨0, Nat.zero_le _, rfl, HJ.out, rfl⟩
        case round =>
          obtain ⟨k, hk, rfl, hJ, hkeep⟩ := hrel
          have HK := Lib.hid hkeep
          have HJ2 := Lib.hid hJ
          clear hkeep hJ
          by_cases hkl : k < (f n).length
          · obtain ⟨x, hx⟩ : ∃ x, (f n)[k]? = some x := ⟨_, List.getElem?_eq_getElem hkl⟩
            have hI3 : Ints wr _ _ := hI.keeps (fun g' e => by rw [← own_eq e]; exact HK.out)
            obtain ⟨g4, d4, hg4, _, hc4⟩ := hI3.at_ (i := k) (x := (x : Int)) (by simp [ofNats, hx])
            injection hg4 with e1 e2 e3
            injection e1 with e1
            injection e1 with e1
            subst e1
            obtain ⟨fn, tmps, assign, body, hy, hRnd⟩ := HR.out g3 k x wr HJ2.out (by rw [HT.out]; exact hx)
            have HX := Lib.hid hx
            clear hx e2 e3
            gi_wp2
            refine ⟨rfl, hRnd.mono ?_⟩
            rintro e W4 (⟨rfl, hJ4, hk4⟩ | ⟨rfl, hJx4⟩)
            · gi_wp2
              go_roundw
              case rel => exact ⟨k + 1, by omega, by go_num, hJ4, hk4.trans HK.out⟩
              case measure => simp [intOf]; omega
            · gi_wp2
              refine bodyPost_ret (results_none rfl _ _ _) rfl ?_
              exact ⟨⟨_, rfl⟩, g3, .inr ⟨k + 1, by rw [HT.out]; omega, hJx4⟩⟩
          · gi_wp2
            refine bodyPost_end (results_none rfl _ _ _) rfl ?_
            exact ⟨⟨_, rfl⟩, g3, .inl (by rw [HT.out, show (f n).length = k from by omega]; exact HJ2.out)⟩
      | cons x B =>
        simp only [List.head?_cons, numOf_some]
        have hmem : x ∈ f n := by rw [hf]; simp
        have hxa := hLr.linked_lt (hW.linked_ne hmem)
        obtain ⟨ga, capa, hva, hga⟩ := hLr.slice_a hxa
        obtain ⟨hy0, hy1, hy2⟩ := cells_are (hLr.link_cells hga hxa) (hW.link n A x B hf)
        have hc1 := hLr.c1
        rw [hva] at hc1
        have hb1 : ((ofNats A).length + 1) * 8 ≤ 140737488355328 := by rw [ofNats_length]; simp at hlen2; omega
        have hb2 : (ofNats A).length + 1 ≤ maxLen := by rw [ofNats_length]; simp at hlen2; simp only [maxLen]; omega
        have HF := Lib.hid hf
        have HL2 := Lib.hid hlen2
        clear hf hlen2 hva
        have hBg : B0 ≠ g3 := fun e => by have := lt_of_block hB0; have := hU1.size; omega
        have hbg : b ≠ g3 := fun e => by have := lt_of_block hL1.blk; omega
        have hag : ga ≠ g3 := fun e => by have := hL1.tabA.lt ga hga; omega
        clear hga
        gi_wp2_with (gi_at_builtin; refine wpListIn_append_new wr rfl _ _ 38 rfl 3 i0 (.int .i64 0) 1 8 Try.underlying38 hi hz0 hz1 hz2 rfl _ (ofNats A).length _ hI (by rfl) [.int .i64 x] (by rfl) rfl rfl hb1 hb2 ?_; rintro v' w2 ht hg hk ⟨g', cap', rfl⟩; have hd2 := hg.cell hd0 (fun e => by injection e with e; exact hBg e); have hc2 := hg.cell hc1 (fun e => by injection e with e; exact hbg e); have hy3 := hg.cell hy2 (fun e => by injection e with e; exact hag e))
        go_roundw
        case rel =>
          refine ⟨A ++ [x], B, by rw [HF.out]; simp, rfl, ?_, hU.grown hg (fun k e => .inr (by have := own_eq e; omega)), g', cap', by rw [ofNats_length, List.length_append, List.length_singleton], ?_⟩
          · rw [ofNats_append]; exact Ints.snoc ht
          · rcases hk g' rfl with h' | h'
            · have := own_eq h'; omega
            · have := hU.size; omega
        case measure =>
          have := HL2.out
          simp only [lenOfV, ofNats_length, List.length_cons] at this ⊢
          omega

/-- What holds behind Walk's own first steps. -/
def WalkStart (b C L : Nat) (f : Nat → List Nat) (fp : List Nat) (n : Int) (W : World) (g : Nat) (W1 : World) : Prop :=
  ∃ fp1, Chain W1 b C L f fp1 ∧ Upd W fp W1 fp1 ∧ W.heap.size ≤ g ∧ g ∉ fp1 ∧ (0 < (told f n L).length → g < W1.heap.size)

theorem walk_spec {b C L : Nat} {f : Nat → List Nat} {fp : List Nat} (B0 B1 : Nat) (n : Int) (W : World) (hC : Chain W b C L f fp)
    (hB0 : W.heap[B0]? = some (.cells #[.pointer (some ⟨b, 0, none⟩)] 22 (0, 0))) (hB1 : W.heap[B1]? = some (.cells #[.int .i64 n] 3 (0, 0))) (hn0 : B0 ∉ fp) (hn1 : B1 ∉ fp) :
    IterSpec Try.prog 31 #[.pointer (some ⟨B0, 0, none⟩), .pointer (some ⟨B1, 0, none⟩)] (fun c : Nat => #[.int .i64 c]) (told f n L) (WalkStart b C L f fp n) W :=
  fun l J Jx h0 hR => iter_any l B0 B1 n W J Jx hC hB0 hB1 hn0 hn1 (fun g W1 fp1 h1 h2 h3 h4 h5 => h0 g W1 ⟨fp1, h1, h2, h3, h4, h5⟩) (fun g k c W1 hJ hx => hR g k c W1 hJ hx)

/-- A range's own blocks (its record, its deferred calls, the iterator's block g) beside blocks fp that may turn. w0: the world in which the range begins; N: how many rounds. -/
def Beside (w0 : World) (g N : Nat) (W : World) (fp : List Nat) : Prop :=
  (w0.heap.size + 1 ∉ fp ∧ w0.heap.size ∉ fp) ∧ w0.heap.size + 2 ≤ W.heap.size ∧ w0.heap.size + 2 ≤ g ∧ g ∉ fp ∧ (0 < N → g < W.heap.size)

theorem Beside.upd {w0 W W' : World} {g N : Nat} {fp fp' : List Nat} (h : Beside w0 g N W fp) (hu : Upd W fp W' fp') (hN : 0 < N) :
    ((W'.heap[w0.heap.size + 1]? = W.heap[w0.heap.size + 1]? ∧ W'.heap[w0.heap.size]? = W.heap[w0.heap.size]?) ∧ W'.heap[g]? = W.heap[g]?) ∧ Beside w0 g N W' fp' := by
  obtain ⟨⟨h1, h2⟩, h3, h4, h5, h6⟩ := h
  have h7 := h6 hN
  have := hu.size
  exact ⟨⟨⟨hu.block _ (by omega) h1, hu.block _ (by omega) h2⟩, hu.block _ h7 h5⟩, ⟨hu.notIn (by omega) h1, hu.notIn (by omega) h2⟩, by omega, h4, hu.notIn h7 h5, fun _ => by omega⟩
theorem Beside.putObj {w0 W : World} {g N : Nat} {fp : List Nat} (h : Beside w0 g N W fp) (l : Nat) (o : Obj) : Beside w0 g N (W.putObj l o) fp := by
  obtain ⟨h1, h3, h4, h5, h6⟩ := h
  exact ⟨h1, by rw [World.putObj_size]; exact h3, h4, h5, by rw [World.putObj_size]; exact h6⟩
theorem Beside.ne {w0 W : World} {g N : Nat} {fp : List Nat} (h : Beside w0 g N W fp) : g ≠ w0.heap.size + 1 := by have := h.2.2.1; omega

theorem WalkStart.beside {b C L : Nat} {f : Nat → List Nat} {fp : List Nat} {n : Int} {w0 W W1 : World} {g : Nat} (h : WalkStart b C L f fp n W g W1) (hs : W.heap.size = w0.heap.size + 2) (hf : ∀ k, k ∈ fp → k < w0.heap.size) :
    ∃ fp1, Chain W1 b C L f fp1 ∧ Upd W fp W1 fp1 ∧ Beside w0 g (told f n L).length W1 fp1 := by
  obtain ⟨fp1, h1, h2, h3, h4, h5⟩ := h
  have := h2.size
  refine ⟨fp1, h1, h2, ⟨h2.notIn (by omega) (fun h => by have := hf _ h; omega), h2.notIn (by omega) (fun h => by have := hf _ h; omega)⟩, by omega, by omega, h4, h5⟩

theorem WalkStart.keeps {b C L : Nat} {f : Nat → List Nat} {fp : List Nat} {n : Int} {w0 W W1 : World} {g : Nat} (h : WalkStart b C L f fp n W g W1) (hs : W.heap.size = w0.heap.size + 2) (hf : ∀ k, k ∈ fp → k < w0.heap.size) :
    W1.heap[w0.heap.size + 1]? = W.heap[w0.heap.size + 1]? ∧ W1.heap[w0.heap.size]? = W.heap[w0.heap.size]? := by
  obtain ⟨fp1, h1, h2, _⟩ := h
  exact ⟨h2.block _ (by omega) (fun h => by have := hf _ h; omega), h2.block _ (by omega) (fun h => by have := hf _ h; omega)⟩

end Go.Proofs.Ytgcemlilfdjjlaa
