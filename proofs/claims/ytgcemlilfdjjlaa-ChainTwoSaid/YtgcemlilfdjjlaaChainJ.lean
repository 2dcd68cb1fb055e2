/- The chain's Join. -/
import Derived.Test.YtgcemlilfdjjlaaChainW
import Derived.Test.YtgcemlilfdjjlaaUndoes
namespace Go.Proofs.Ytgcemlilfdjjlaa
open Go.RowKit

attribute [local go_sem] Oper.semAt_some

def JoinR (L : Nat) (f : Nat → List Nat) (n k r : Int) (f' : Nat → List Nat) : Prop :=
  ((Out n L ∨ Out k L) ∧ r = 41 ∧ f' = f) ∨ (¬ Out n L ∧ ¬ Out k L ∧ n = k ∧ r = 0 ∧ f' = f) ∨
  (¬ Out n L ∧ ¬ Out k L ∧ n ≠ k ∧ r = 0 ∧ f' = put (put f k.toNat (f k.toNat ++ f n.toNat)) n.toNat [])

/-- The lists when i cells have been moved from n to k. -/
def moved (f : Nat → List Nat) (n k i : Nat) : Nat → List Nat := put (put f k (f k ++ (f n).take i)) n ((f n).drop i)

theorem moved_zero (f : Nat → List Nat) {n k : Nat} (h : n ≠ k) : moved f n k 0 = f := by
  funext j
  unfold moved put
  by_cases hj : j = n
  · subst hj; simp
  · by_cases hj2 : j = k
    · subst hj2; simp [hj]
    · simp [hj, hj2]

theorem moved_end (f : Nat → List Nat) (n k : Nat) : moved f n k (f n).length = put (put f k (f k ++ f n)) n [] := by
  unfold moved
  rw [List.take_length, List.drop_length]

theorem moved_cut {f : Nat → List Nat} {n k i : Nat} {c : Nat} (hc : (f n)[i]? = some c) : moved f n k i n = [] ++ c :: (f n).drop (i + 1) := by
  unfold moved
  rw [put_same]
  have hi : i < (f n).length := (List.getElem?_eq_some_iff.1 hc).1
  rw [List.drop_eq_getElem_cons hi, List.nil_append]
  rw [List.getElem?_eq_getElem hi] at hc
  injection hc with hc
  rw [hc]

theorem moved_step {f : Nat → List Nat} {n k i c : Nat} (h : n ≠ k) (hc : (f n)[i]? = some c) :
    put (put (moved f n k i) n ([] ++ (f n).drop (i + 1))) k (put (moved f n k i) n ([] ++ (f n).drop (i + 1)) k ++ [c]) = moved f n k (i + 1) := by
  have hi : i < (f n).length := (List.getElem?_eq_some_iff.1 hc).1
  have ht : (f n).take (i + 1) = (f n).take i ++ [c] := by
    rw [List.take_add_one, hc]; rfl
  funext j
  unfold moved put
  rw [ht]
  by_cases hj : j = k
  · subst hj; simp [Ne.symm h]
  · by_cases hj2 : j = n
    · subst hj2; simp [hj]
    · simp [hj, hj2]

theorem remove_first {f f' : Nat → List Nat} {c n : Nat} {r : Int} {A B : List Nat} {w : World} {b C L : Nat} {fp : List Nat} (hC : Chain w b C L f fp) (hf : f n = A ++ c :: B) (h : RemoveR C f c r f') : r = 0 ∧ f' = put f n (A ++ B) := by
  have hm : c ∈ f n := by rw [hf]; simp
  rcases h with ⟨h1, _⟩ | ⟨_, h2, _⟩ | ⟨_, j, A', B', h2, hr, hf'⟩
  · exact absurd h1 (by have := (hC.small hm).1; unfold Out; omega)
  · exact absurd hm (h2 n)
  · rw [Int.toNat_natCast] at h2
    obtain rfl : j = n := hC.in_one (c := c) (by rw [h2]; simp) hm
    rw [hf] at h2
    obtain ⟨rfl, rfl⟩ := nodup_split (hf ▸ hC.nodup j) h2
    exact ⟨hr, hf'⟩

theorem gone_free' {f : Nat → List Nat} {c j : Nat} {A B : List Nat} {w : World} {b C L : Nat} {fp : List Nat} (hC : Chain w b C L f fp) (hf : f j = A ++ c :: B) : ∀ n, c ∉ put f j (A ++ B) n := by
  intro n hn
  by_cases h0 : n = j
  · subst h0
    rw [put_same] at hn
    have hd := hC.nodup n
    rw [hf, List.nodup_append] at hd
    rcases List.mem_append.1 hn with hn | hn
    · exact hd.2.2 c hn c (by simp) rfl
    · exact (List.nodup_cons.1 hd.2.1).1 hn
  · rw [put_other h0] at hn
    exact h0 (hC.in_one hn (show c ∈ f j by rw [hf]; simp))

/-- 'list', told by the chain: whatever the number. -/
theorem list_some {b C L : Nat} {f : Nat → List Nat} {fp : List Nat} (n : Int) (w : World) (h : Chain w b C L f fp) (hn : ¬ Out n L) :
    Calls Try.prog 27 #[.pointer (some ⟨b, 0, none⟩), .int .i64 n] w fun e w' => ∃ a fp', e = .returned (.tuple #[.pointer (some a), .int .i64 0]) ∧ Chain w' b C L f fp' ∧ Upd w fp w' fp' := by
  obtain ⟨m, na, ne, va, ve, hL, hW, rfl, rfl, rfl⟩ := h
  obtain ⟨n, rfl, hlt⟩ := Out.no hn
  refine (list_ok n w hL hlt).mono ?_
  rintro e w' ⟨ne', ve', g, rfl, _, _, hL', hU'⟩
  exact ⟨_, _, rfl, ⟨m, _, _, _, _, hL', hW, rfl, rfl, rfl⟩, hU'⟩
theorem list_no {b C L : Nat} {f : Nat → List Nat} {fp : List Nat} (n : Int) (w : World) (h : Chain w b C L f fp) (hn : Out n L) :
    Calls Try.prog 27 #[.pointer (some ⟨b, 0, none⟩), .int .i64 n] w fun e w' => e = .returned (.tuple #[.pointer none, .int .i64 41]) ∧ w = w' := by
  obtain ⟨m, na, ne, va, ve, hL, hW, rfl, rfl, rfl⟩ := h
  exact list_none n w hL hn

theorem Upd.boxes {w : World} (A B : Obj) (fp : List Nat) : Upd w fp ((w.alloc A).alloc B) fp := ((Upd.refl w fp).alloc A).alloc B

set_option maxHeartbeats 2000000 in
theorem join_bad {b C L : Nat} {f : Nat → List Nat} {fp : List Nat} (n k : Int) (w : World) (h : Chain w b C L f fp) (hbad : Out n L ∨ Out k L ∨ n = k) :
    Calls Try.prog 21 #[.pointer (some ⟨b, 0, none⟩), .int .i64 n, .int .i64 k] w (ChangeIs w b C L fp (JoinR L f n k)) := by
  have h1 := h.upd (Upd.boxes (.cells #[.pointer (some ⟨b, 0, none⟩)] 22) (.cells #[.int .i64 k] 3) []) (fun _ _ h => by cases h)
  have hU1 := Upd.boxes (w := w) (.cells #[.pointer (some ⟨b, 0, none⟩)] 22) (.cells #[.int .i64 k] 3) fp
  have hs : ∀ x, x ∈ fp → x < w.heap.size := h.lt
  refine (callsIn_wide (n := 0)).1 ?_
  refine callsIn_of_wp_marks Try.func21 rfl trivial ?_ rfl
  simp only [Try.ntmps21, List.size_toArray, List.length_cons, List.length_nil, Nat.reduceAdd, Nat.reduceSub, Array.replicate_succ, Array.replicate_zero, List.push_toArray, List.append_toArray, List.nil_append, List.cons_append]
  have hb0 : ((w.alloc (.cells #[.pointer (some ⟨b, 0, none⟩)] 22)).alloc (.cells #[.int .i64 k] 3)).cell? ⟨w.heap.size, 0, none⟩ = some (.pointer (some ⟨b, 0, none⟩)) := by simp [go_sem]
  have hb1 : ((w.alloc (.cells #[.pointer (some ⟨b, 0, none⟩)] 22)).alloc (.cells #[.int .i64 k] 3)).cell? ⟨w.heap.size + 1, 0, none⟩ = some (.int .i64 k) := by simp [go_sem]
  have hm0 : w.heap.size ∉ fp := fun h => by have := hs _ h; omega
  have hm1 : w.heap.size + 1 ∉ fp := fun h => by have := hs _ h; omega
  by_cases hn : Out n L
  · gi_wp2_with fail
    refine ⟨trivial, rfl, ?_⟩
    refine (callsIn_wide.2 (list_no n _ h1 hn)).mono ?_
    rintro e w' ⟨rfl, rfl⟩
    by_cases hk : Out k L
    · gi_wp2_with fail
      refine ⟨trivial, rfl, ?_⟩
      refine (callsIn_wide.2 (list_no k _ h1 hk)).mono ?_
      rintro e w' ⟨rfl, rfl⟩
      gi_wp2_with fail
      refine ⟨_, results_tmp rfl _ _ _, ?_⟩
      exact ⟨41, f, _, rfl, h1, hU1, .inl ⟨.inl hn, rfl, rfl⟩⟩
    · gi_wp2_with fail
      refine ⟨trivial, rfl, ?_⟩
      refine (callsIn_wide.2 (list_some k _ h1 hk)).mono ?_
      rintro e w2 ⟨a2, fp2, rfl, hC2, hV2⟩
      gi_wp2_with fail
      refine ⟨_, results_tmp rfl _ _ _, ?_⟩
      exact ⟨41, f, _, rfl, hC2, hU1.trans hV2, .inl ⟨.inl hn, rfl, rfl⟩⟩
  · by_cases hk : Out k L
    · gi_wp2_with fail
      refine ⟨trivial, rfl, ?_⟩
      refine (callsIn_wide.2 (list_some n _ h1 hn)).mono ?_
      rintro e w1 ⟨a1, fp1, rfl, hC1, hV1⟩
      have e0 := hV1.cell hb0 hm0
      have e1 := hV1.cell hb1 hm1
      have hm2 := hV1.notIn (by simp; omega) hm0
      have hm3 := hV1.notIn (by simp) hm1
      gi_wp2_with fail
      refine ⟨trivial, rfl, ?_⟩
      refine (callsIn_wide.2 (list_no k _ hC1 hk)).mono ?_
      rintro e w' ⟨rfl, rfl⟩
      gi_wp2_with fail
      refine ⟨_, results_tmp rfl _ _ _, ?_⟩
      exact ⟨41, f, _, rfl, hC1, hU1.trans hV1, .inl ⟨.inr hk, rfl, rfl⟩⟩
    · have hnk : n = k := by
        rcases hbad with h | h | h
        · exact absurd h hn
        · exact absurd h hk
        · exact h
      subst hnk
      clear hbad
      gi_wp2_with fail
      refine ⟨trivial, rfl, ?_⟩
      refine (callsIn_wide.2 (list_some n _ h1 hn)).mono ?_
      rintro e w1 ⟨a1, fp1, rfl, hC1, hV1⟩
      have e0 := hV1.cell hb0 hm0
      have e1 := hV1.cell hb1 hm1
      have hm2 := hV1.notIn (by simp; omega) hm0
      have hm3 := hV1.notIn (by simp) hm1
      gi_wp2_with fail
      refine ⟨trivial, rfl, ?_⟩
      refine (callsIn_wide.2 (list_some n _ hC1 hk)).mono ?_
      rintro e w2 ⟨a2, fp2, rfl, hC2, hV2⟩
      have e2 := hV2.cell e0 hm2
      have e3 := hV2.cell e1 hm3
      gi_wp2_with fail
      refine ⟨_, results_tmp rfl _ _ _, ?_⟩
      exact ⟨0, f, _, rfl, hC2, hU1.trans (hV1.trans hV2), .inr (.inl ⟨hn, hk, rfl, rfl, rfl⟩)⟩

theorem told_in {f : Nat → List Nat} {n : Int} {L : Nat} (h : ¬ Out n L) : told f n L = f n.toNat := if_neg h

set_option maxRecDepth 100000 in
set_option maxHeartbeats 2000000 in
theorem join_move {b C L : Nat} {f : Nat → List Nat} {fp : List Nat} (n k : Int) (w : World) (h : Chain w b C L f fp) (hn : ¬ Out n L) (hk : ¬ Out k L) (hnk : n ≠ k) :
    Calls Try.prog 21 #[.pointer (some ⟨b, 0, none⟩), .int .i64 n, .int .i64 k] w (ChangeIs w b C L fp (JoinR L f n k)) := by
  have h1 := h.upd (Upd.boxes (.cells #[.pointer (some ⟨b, 0, none⟩)] 22) (.cells #[.int .i64 k] 3) []) (fun _ _ h => by cases h)
  have hU1 := Upd.boxes (w := w) (.cells #[.pointer (some ⟨b, 0, none⟩)] 22) (.cells #[.int .i64 k] 3) fp
  have hs : ∀ x, x ∈ fp → x < w.heap.size := h.lt
  have hne : (n == k) = false := by rw [beq_eq_false_iff_ne]; exact hnk
  have hnat : n.toNat ≠ k.toNat := by unfold Out at hn hk; omega
  have ht : told f n L = f n.toNat := told_in hn
  have HT := Lib.hid ht
  have HN := Lib.hid (And.intro hn (And.intro hk (And.intro hnk hnat)))
  clear ht hnk hnat
  refine (callsIn_wide (n := 0)).1 ?_
  refine callsIn_of_wp_marks Try.func21 rfl trivial ?_ rfl
  simp only [Try.ntmps21, List.size_toArray, List.length_cons, List.length_nil, Nat.reduceAdd, Nat.reduceSub, Array.replicate_succ, Array.replicate_zero, List.push_toArray, List.append_toArray, List.nil_append, List.cons_append]
  have hb0 : ((w.alloc (.cells #[.pointer (some ⟨b, 0, none⟩)] 22)).alloc (.cells #[.int .i64 k] 3)).cell? ⟨w.heap.size, 0, none⟩ = some (.pointer (some ⟨b, 0, none⟩)) := by simp [go_sem]
  have hb1 : ((w.alloc (.cells #[.pointer (some ⟨b, 0, none⟩)] 22)).alloc (.cells #[.int .i64 k] 3)).cell? ⟨w.heap.size + 1, 0, none⟩ = some (.int .i64 k) := by simp [go_sem]
  have hm0 : w.heap.size ∉ fp := fun h => by have := hs _ h; omega
  have hm1 : w.heap.size + 1 ∉ fp := fun h => by have := hs _ h; omega
  gi_wp2_with fail
  refine ⟨trivial, rfl, ?_⟩
  refine (callsIn_wide.2 (list_some n _ h1 hn)).mono ?_
  rintro e w1 ⟨a1, fp1, rfl, hC1, hV1⟩
  have e0 := hV1.cell hb0 hm0
  have e1 := hV1.cell hb1 hm1
  have hm2 := hV1.notIn (by simp; omega) hm0
  have hm3 := hV1.notIn (by simp) hm1
  gi_wp2_with fail
  refine ⟨trivial, rfl, ?_⟩
  refine (callsIn_wide.2 (list_some k _ hC1 hk)).mono ?_
  rintro e w2 ⟨a2, fp2, rfl, hC2, hV2⟩
  have e2 := hV2.cell e0 hm2
  have e3 := hV2.cell e1 hm3
  have hsz1 := hV1.size
  have hsz2 := hV2.size
  simp only [World.size_alloc] at hsz1
  have hm4 := hV2.notIn (by omega) hm2
  have hm5 := hV2.notIn (by omega) hm3
  clear hb0 hb1 e0 e1
  gi_wp2_with fail
  refine ⟨trivial, rfl, ?_⟩
  refine (callsIn_wide.2 (walk_any b n w2)).mono ?_
  rintro e w3 ⟨rfl, hw3⟩
  have hs2 := hC2.lt
  have hV3 : Upd w2 fp2 w3 fp2 := by rw [hw3]; exact Upd.boxes _ _ _
  have hC3 := hC2.upd (show Upd w2 [] w3 [] by rw [hw3]; exact Upd.boxes _ _ _) (fun _ _ h => by cases h)
  have hB0 : w3.heap[w2.heap.size]? = some (.cells #[.pointer (some ⟨b, 0, none⟩)] 22 (0, 0)) := by rw [hw3]; exact heap_alloc2_old _ _ _
  have hB1 : w3.heap[w2.heap.size + 1]? = some (.cells #[.int .i64 n] 3 (0, 0)) := by rw [hw3]; exact heap_alloc2_new _ _ _
  have hsz3 : w3.heap.size = w2.heap.size + 2 := by rw [hw3]; simp
  have f2 := hV3.cell e2 hm4
  have f3 := hV3.cell e3 hm5
  clear hw3 e2 e3
  gi_wp2_with fail
  refine range_law rfl (enters_of Try.func31 (by kernel_rfl) rfl) (fun _ => rfl)
    (fun fn => walk_spec w2.heap.size (w2.heap.size + 1) n _ (hC3.upd entered_upd (fun _ _ h => by cases h)) (entered_upd.keeps hB0 (fun h => by cases h)) (entered_upd.keeps hB1 (fun h => by cases h)) (fun h => by have := hs2 _ h; omega) (fun h => by have := hs2 _ h; omega))
    (fun fn g W1 hS => hS.keeps entered_size (fun x hx => by have := hs2 _ hx; omega))
    (fun g i W => ∃ fp', Chain W b C L (moved f n.toNat k.toNat i) fp' ∧ Upd w3 fp2 W fp' ∧ Beside w3 g (told f n L).length W fp') (fun _ _ _ _ => False)
    (fun g i W ⟨fp', _, _, hB⟩ => hB.ne) ?stab (fun _ _ _ _ _ h => h) ?start ?a1 ?assign ?body ?done (fun _ _ _ _ _ h => h.elim)
  case stab =>
    rintro g i W o ⟨fp', hC, hU, hB⟩
    have hl : w3.heap.size + 1 ∉ fp' := hB.1.1
    exact ⟨fp', hC.upd ((Upd.refl W [w3.heap.size + 1]).putObj (l := w3.heap.size + 1) (.inl (by simp)) o) (fun x hx => by simp; intro e; exact hl (e ▸ hx)), hU.putObj (.inr (by omega)) o, hB.putObj _ o⟩
  case start =>
    rintro fn g W1 hS
    obtain ⟨fp', hC, hU, hB⟩ := hS.beside entered_size (fun x hx => by have := hs2 _ hx; omega)
    exact ⟨fp', by rw [moved_zero f HN.out.2.2.2]; exact hC, (entered_upd.weaken (T := fp2) (fun _ h => by cases h) |>.to (T := fp2) (fun _ h => .inl h)).trans hU, hB⟩
  case assign =>
    intro x W K hK
    gi_wp2
    exact hK
  case body =>
    rintro g i c W ⟨fp', hC, hU, hB⟩ hx
    have hpos : 0 < (told f n L).length := by have := (List.getElem?_eq_some_iff.1 hx).1; omega
    rw [HT.out] at hx
    have g2 := hU.cell f2 hm4
    have g3 := hU.cell f3 hm5
    have hw3s := hU.size
    have n2 := hU.notIn (by omega) hm4
    have n3 := hU.notIn (by omega) hm5
    have HX := Lib.hid hx
    have HC := Lib.hid hC
    clear hx
    gi_wp2_with (first
      | (refine ⟨trivial, rfl, ?_⟩; gi_at_call 18; refine (CallsIn.inRound _ (callsIn_wide.2 (remove_any c W HC.out))).mono ?_; rintro e W2 ⟨r, f', fp4, rfl, hC4, hU4, hR⟩; obtain ⟨rfl, rfl⟩ := remove_first HC.out (moved_cut HX.out) hR; have g4 := hU4.cell g2 n2; have g5 := hU4.cell g3 n3; clear hR)
      | (refine ⟨trivial, rfl, ?_⟩; gi_at_call 15; refine (CallsIn.inRound _ (callsIn_wide.2 (append_any k c W2 hC4))).mono ?_; rintro e W3 ⟨r, f', fp5, rfl, hC5, hU5, hR⟩; obtain ⟨rfl, rfl⟩ := hR.good HN.out.2.1 (by have := (HC.out.small (n := n.toNat) (c := c) (by rw [moved_cut HX.out]; simp)).1; unfold Out; omega) (gone_free' HC.out (moved_cut HX.out)); clear hR))
    obtain ⟨⟨⟨h1', h2'⟩, h3'⟩, h4'⟩ := hB.upd (hU4.trans hU5) hpos
    refine ⟨⟨h1', h2'⟩, h3', fp5, ?_, hU.trans (hU4.trans hU5), h4'⟩
    rw [← moved_step HN.out.2.2.2 HX.out]
    exact hC5
  case done =>
    rintro g W ⟨fp', hC, hU, hB⟩ hK
    gi_wp2
    refine ⟨by simp, .inl ⟨_, _, rfl, run_takeDeferred hK, ?_⟩⟩
    refine ⟨_, results_tmp rfl _ _ _, ?_⟩
    have hUa := hU1.trans (hV1.trans (hV2.trans (hV3.trans hU)))
    have hD := hB.1.2
    refine ⟨0, _, fp', rfl, hC.upd ((Upd.refl W [w3.heap.size]).putObj (l := w3.heap.size) (.inl (by simp)) _) (fun x hx => by simp; intro e; exact hD (e ▸ hx)), hUa.putObj (.inr (by omega)) _, .inr (.inr ⟨HN.out.1, HN.out.2.1, HN.out.2.2.1, rfl, ?_⟩)⟩
    rw [HT.out, moved_end]

theorem join_any {b C L : Nat} {f : Nat → List Nat} {fp : List Nat} (n k : Int) (w : World) (h : Chain w b C L f fp) :
    Calls Try.prog 21 #[.pointer (some ⟨b, 0, none⟩), .int .i64 n, .int .i64 k] w (ChangeIs w b C L fp (JoinR L f n k)) := by
  by_cases hn : Out n L
  · exact join_bad n k w h (.inl hn)
  · by_cases hk : Out k L
    · exact join_bad n k w h (.inr (.inl hk))
    · by_cases e : n = k
      · exact join_bad n k w h (.inr (.inr e))
      · exact join_move n k w h hn hk e

end Go.Proofs.Ytgcemlilfdjjlaa
