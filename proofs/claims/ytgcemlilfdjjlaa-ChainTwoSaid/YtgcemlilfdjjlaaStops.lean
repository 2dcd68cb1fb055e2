/- ChainStops returns true for every input: the walk. -/
import Derived.Test.YtgcemlilfdjjlaaJoins
namespace Go.Proofs.Ytgcemlilfdjjlaa
open Go.RowKit

attribute [local go_sem] Oper.semAt_some

theorem Chain.putObj {W : World} {b C L : Nat} {f : Nat → List Nat} {fp : List Nat} (h : Chain W b C L f fp) {l : Nat} (hl : l ∉ fp) (o : Obj) : Chain (W.putObj l o) b C L f fp :=
  h.upd ((Upd.refl W [l]).putObj (l := l) (.inl (by simp)) o) (fun x hx => by simp; intro e; exact hl (e ▸ hx))

theorem Upd.also {w w' : World} {S S' : List Nat} (h : Upd w S w' S') (x : Nat) : Upd w (x :: S) w' (x :: S') :=
  ⟨h.os, h.tape, h.output, h.size, fun k hk hn => h.block k hk (fun hm => hn (List.mem_cons_of_mem _ hm)), fun k hk => by
    rcases List.mem_cons.1 hk with rfl | hk
    · exact .inl (by simp)
    · exact (h.fresh k hk).imp (List.mem_cons_of_mem _) id⟩

theorem moved_linked {f' : Nat → List Nat} {c n j : Nat} {A B : List Nat} {l : List Nat} (hall : ∀ x, x ∈ l → ∃ n, x ∈ f' n) (hf : f' n = A ++ c :: B) :
    ∀ x, x ∈ l → ∃ k, x ∈ put (put f' n (A ++ B)) j (put f' n (A ++ B) j ++ [c]) k := by
  intro x hx
  by_cases hxc : x = c
  · exact ⟨j, by rw [put_same]; simp [hxc]⟩
  · obtain ⟨k, hk⟩ := hall x hx
    have h1 : x ∈ put f' n (A ++ B) k := by
      by_cases hkn : k = n
      · subst hkn
        rw [put_same]
        rw [hf] at hk
        rcases List.mem_append.1 hk with hk | hk
        · exact List.mem_append.2 (.inl hk)
        · rcases List.mem_cons.1 hk with hk | hk
          · exact absurd hk hxc
          · exact List.mem_append.2 (.inr hk)
      · rw [put_other hkn]; exact hk
    refine ⟨k, ?_⟩
    by_cases hkj : k = j
    · subst hkj; rw [put_same]; exact List.mem_append.2 (.inl h1)
    · rw [put_other hkj]; exact h1

/-- What a boxed bool result reads. -/
theorem results_bool {fn : Func} {p : Tmp} (h : fn.results = #[.cell p 4]) (tmps : Array Value) (w : World) (g : Nat) (v : Bool)
    (hp : tmps.getD p undef = .pointer (some ⟨g, 0, none⟩)) (hg : w.heap[g]? = some (.cells #[.bool v] 4 (0, 0))) :
    (results fn tmps).run Try.prog w = .ok (.bool v) w := by
  have hp' : tmps[p]?.getD undef = .pointer (some ⟨g, 0, none⟩) := by simpa using hp
  have hc := cell_of_one hg
  simp [results, h, hp', go_sem, hc]

set_option maxRecDepth 100000 in
set_option maxHeartbeats 4000000 in
theorem stops_any (v : Value) (zs : List Int) (stop : Int) (w : World) (hin : InInts w v zs) : Calls Try.prog 5 #[v, .int .i64 stop] w (Quiet w (.bool true)) := by
  have q1 : ¬ Out 1 2 := by unfold Out; omega
  have Q1 := Lib.hid q1
  clear q1
  obtain ⟨av, cv, rfl, hmax⟩ := hin.len
  unfold maxLen at hmax
  refine (callsIn_wide (n := 0)).1 ?_
  refine callsIn_of_wp_marks Try.func5 rfl trivial ?_ rfl
  simp only [Try.ntmps5, List.size_toArray, List.length_cons, List.length_nil, Nat.reduceAdd, Nat.reduceSub, Array.replicate_succ, Array.replicate_zero, List.push_toArray, List.append_toArray, List.nil_append, List.cons_append]
  gi_wp2_with fail
  refine ⟨trivial, rfl, ?_⟩
  refine (callsIn_wide.2 (new_int 64 2 _ (by omega))).mono ?_
  rintro e w1 ⟨b, rfl, hb, hC1, hU1⟩
  generalize hw0 : (w.alloc _).alloc _ = w0 at hU1 hb
  have d0 : w0.cell? ⟨w.heap.size, 0, none⟩ = some (.int .i64 stop) := by rw [← hw0]; simp [go_sem]
  have d1 : w0.heap[w.heap.size + 1]? = some (.cells #[.bool false] 4 (0, 0)) := by rw [← hw0]; exact heap_alloc2_new _ _ _
  have hs0 : w0.heap.size = w.heap.size + 2 := by rw [← hw0]; simp
  have hU0 : Upd w [] w0 [] := by rw [← hw0]; exact Upd.boxes _ _ _
  have e0 := hU1.cell d0 (by simp)
  have e1 := hU1.keeps d1 (by simp)
  clear hw0 d0 d1
  have hbl := hC1.lt b (by simp)
  have hs1 := hU1.size
  gi_wp2_with fail
  generalize hw2 : w1.alloc (.cells #[.pointer (some ⟨b, 0, none⟩)] 22) = w2
  have hU2 : Upd w1 [b] w2 [b] := by rw [← hw2]; exact (Upd.refl _ _).alloc _
  have hC2 := hC1.upd (show Upd w1 [] w2 [] by rw [← hw2]; exact (Upd.refl _ _).alloc _) (fun _ _ h => by cases h)
  have f0 := hU2.cell e0 (by simp; omega)
  have f1 := hU2.keeps e1 (by simp; omega)
  have f2 : w2.cell? ⟨w1.heap.size, 0, none⟩ = some (.pointer (some ⟨b, 0, none⟩)) := by rw [← hw2]; simp [go_sem]
  have hs2 : w2.heap.size = w1.heap.size + 1 := by rw [← hw2]; simp
  have hUw2 : Upd w [] w2 [b] := hU0.trans (hU1.trans hU2)
  clear hw2 e0 e1
  gi_loopw [8, 25] (fun _ i wr => ∃ (k : Nat) (f : Nat → List Nat) (fp : List Nat), k ≤ zs.length ∧ i = .int .i64 k ∧ Chain wr b 64 2 f fp ∧ Upd w2 [b] wr fp) (fun _ i _ => zs.length - (intOf i).toNat)
  case atStart => exact ⟨0, _, _, Nat.zero_le _, rfl, hC2, Upd.refl _ _⟩
  case round =>
    obtain ⟨k, f, fp, hk, rfl, hC, hU⟩ := hrel
    have g2 := hU.cell f2 (by simp; omega)
    by_cases hlt : k < zs.length
    · obtain ⟨a, cap, hv, hcell⟩ := (hin.upd (hUw2.trans hU)).at_ hlt
      injection hv with h1 h2 h3
      subst h1 h3
      clear h2
      gi_wp2_with (refine ⟨trivial, rfl, ?_⟩; gi_at_call 15; refine (callsIn_wide.2 (append_any 1 _ wr hC)).mono ?_; rintro e w3 ⟨r, f3, fp3, rfl, hC3, hU3, hR⟩; clear hR)
      go_roundw
      case rel => exact ⟨k + 1, _, _, by omega, by go_num, hC3, hU.trans hU3⟩
      case measure => simp [intOf]; omega
    · gi_wp2_with fail
      refine ⟨trivial, rfl, ?_⟩
      refine (callsIn_wide.2 (forward_int 1 64 wr hC Q1.out (by omega) (by omega))).mono ?_
      rintro e w3 ⟨v1, fp3, rfl, hI3, hC3, hU3⟩
      have hUw3 := hUw2.trans (hU.trans hU3)
      have hU3' := hU.trans hU3
      have h0 := hU3'.cell f0 (by simp; omega)
      have h1 := hU3'.keeps f1 (by simp; omega)
      have h2 := hU3'.cell f2 (by simp; omega)
      have n0 := hU3'.notIn (k := w.heap.size) (by omega) (by simp; omega)
      have n1 := hU3'.notIn (k := w.heap.size + 1) (by omega) (by simp; omega)
      have n2 := hU3'.notIn (k := w1.heap.size) (by omega) (by simp; omega)
      have hs3 := hU3'.size
      obtain ⟨q, hq⟩ : ∃ q, (f 1).length = q := ⟨_, rfl⟩
      have hq64 : q ≤ 64 := hq ▸ hC.length 1
      obtain ⟨a1, c1, hv1, _⟩ := hI3.len
      rw [ofNats_length, show (f (Int.toNat 1)).length = q from hq] at hv1
      subst hv1
      have HQ := Lib.hid hq
      clear hq
      have hl1 : w1.heap.size < w3.heap.size := by omega
      have hl2 : w1.heap.size < w3.heap.size + 1 := by omega
      have hl3 : w1.heap.size < w3.heap.size + 1 + 1 := by omega
      gi_wp2_with fail
      generalize hw4 : ((w3.alloc (.cells #[.slice a1 q c1] 38)).alloc (.cells #[.bool true] 4)).alloc (.cells #[.int .i64 0] 3) = w4
      have hU4 : Upd w3 [] w4 [] := by rw [← hw4]; exact (((Upd.refl _ _).alloc _).alloc _).alloc _
      have hs4 : w4.heap.size = w3.heap.size + 3 := by rw [← hw4]; simp
      have k0 := hU4.cell h0 (fun h => by cases h)
      have k1 := hU4.keeps h1 (fun h => by cases h)
      have k2 := hU4.cell h2 (fun h => by cases h)
      have k3 : w4.cell? ⟨w3.heap.size, 0, none⟩ = some (.slice a1 q c1) := by rw [← hw4]; simp [go_sem]
      have k4 : w4.cell? ⟨w3.heap.size + 1, 0, none⟩ = some (.bool true) := by rw [← hw4]; simp [go_sem]
      have k5 : w4.heap[w3.heap.size + 1 + 1]? = some (.cells #[.int .i64 0] 3 (0, 0)) := by rw [← hw4]; have := heap_alloc_new ((w3.alloc (.cells #[.slice a1 q c1] 38)).alloc (.cells #[.bool true] 4)) (.cells #[.int .i64 0] 3); simpa using this
      have hC4 := hC3.upd hU4 (fun _ _ h => by cases h)
      have hI4 : Has w4 fp3 _ _ := ⟨hI3.1.upd hU4 (fun _ _ h => by cases h), hI3.2⟩
      clear hw4 h0 h1 h2
      refine ⟨trivial, rfl, ?_⟩
      refine (callsIn_wide.2 (walk_any b 1 w4)).mono ?_
      rintro e w5 ⟨rfl, hw5⟩
      have hU5 : Upd w4 [] w5 [] := by rw [hw5]; exact Upd.boxes _ _ _
      have hs5 : w5.heap.size = w4.heap.size + 2 := by rw [hw5]; simp
      have m0 := hU5.cell k0 (fun h => by cases h)
      have m1 := hU5.keeps k1 (fun h => by cases h)
      have m2 := hU5.cell k2 (fun h => by cases h)
      have m3 := hU5.cell k3 (fun h => by cases h)
      have m4 := hU5.cell k4 (fun h => by cases h)
      have m5 := hU5.keeps k5 (fun h => by cases h)
      have hB0 : w5.heap[w4.heap.size]? = some (.cells #[.pointer (some ⟨b, 0, none⟩)] 22 (0, 0)) := by rw [hw5]; exact heap_alloc2_old _ _ _
      have hB1 : w5.heap[w4.heap.size + 1]? = some (.cells #[.int .i64 1] 3 (0, 0)) := by rw [hw5]; exact heap_alloc2_new _ _ _
      have hC5 := hC4.upd hU5 (fun _ _ h => by cases h)
      have hI5 : Has w5 fp3 _ _ := ⟨hI4.1.upd hU5 (fun _ _ h => by cases h), hI4.2⟩
      have hl3 := hC3.lt
      clear hw5 k0 k1 k2 k3 k4 k5
      obtain ⟨S, hS⟩ : ∃ S, S = w3.heap.size + 1 + 1 := ⟨_, rfl⟩
      rw [← hS] at m5
      rw [← hS]
      have nS : S ∉ fp3 := fun h => by have := hl3 _ h; omega
      have ht : told f 1 2 = f 1 := told_in Q1.out
      have HT := Lib.hid ht
      clear ht
      have hit : ∀ fn tmps ps ag bd, IterSpec Try.prog 31 #[.pointer (some ⟨w4.heap.size, 0, none⟩), .pointer (some ⟨w4.heap.size + 1, 0, none⟩)] (fun c : Nat => #[.int .i64 c]) (told f 1 2) (WalkStart b 64 2 f fp3 1) (entered w5 fn tmps ps ag bd) := fun fn tmps ps ag bd =>
        walk_spec w4.heap.size (w4.heap.size + 1) 1 _ (hC5.upd entered_upd (fun _ _ h => by cases h)) (entered_upd.keeps hB0 (fun h => by cases h)) (entered_upd.keeps hB1 (fun h => by cases h)) (fun h => by have := hl3 _ h; omega) (fun h => by have := hl3 _ h; omega)
      have hkp : ∀ fn tmps ps ag bd g W1, WalkStart b 64 2 f fp3 1 (entered w5 fn tmps ps ag bd) g W1 → W1.heap[w5.heap.size + 1]? = (entered w5 fn tmps ps ag bd).heap[w5.heap.size + 1]? ∧ W1.heap[w5.heap.size]? = (entered w5 fn tmps ps ag bd).heap[w5.heap.size]? :=
        fun fn tmps ps ag bd g W1 hS => hS.keeps entered_size (fun x hx => by have := hl3 _ hx; omega)
      have HIT := Lib.hid (And.intro hit hkp)
      have HS := Lib.hid (And.intro hs4 (And.intro hs5 (And.intro hs2 hs0)))
      have HSS := Lib.hid hS
      clear hit hkp hs4 hs5 hs2 hs0 hS
      gi_wp2_with fail
      have hit := HIT.out.1
      have hkp := HIT.out.2
      obtain ⟨hs4, hs5, hs2, hs0⟩ := HS.out
      refine range_law (P := Try.prog) (w := w5) (gf := 31) (lb := #[.pointer (some ⟨w4.heap.size, 0, none⟩), .pointer (some ⟨w4.heap.size + 1, 0, none⟩)]) (encs := fun c : Nat => #[.int .i64 c]) (xs := told f 1 2) (Start := WalkStart b 64 2 f fp3 1) rfl (enters_of Try.func31 (by kernel_rfl) rfl) (fun _ => rfl)
        (fun fn => hit fn _ _ _ _)
        (fun fn g W1 hS => hkp fn _ _ _ _ g W1 hS)
        (fun g i W => ∃ f' fp', Chain W b 64 2 f' fp' ∧ (∀ x, x ∈ f 1 → ∃ n, x ∈ f' n) ∧ (∀ j : Nat, j < i → (j : Int) ≠ stop) ∧ S ∉ fp' ∧ W.heap[S]? = some (.cells #[.int .i64 i] 3 (0, 0)) ∧ Upd w5 (S :: fp3) W (S :: fp') ∧ Beside w5 g (told f 1 2).length W (S :: fp'))
        (fun c g i W => c = .exit 2 ∧ ∃ f' fp', Chain W b 64 2 f' fp' ∧ 0 ≤ stop ∧ stop < q ∧ S ∉ fp' ∧ W.heap[S]? = some (.cells #[.int .i64 stop] 3 (0, 0)) ∧ Upd w5 (S :: fp3) W (S :: fp') ∧ Beside w5 g (told f 1 2).length W (S :: fp'))
        ?ne ?stab ?stabx ?start ?a1 ?assign ?body ?done ?stop
      case ne => rintro g i W ⟨f', fp', _, _, _, _, _, _, hB⟩; exact hB.ne
      case stab =>
        rintro g i W o ⟨f', fp', hC, hall, hst, hSn, hSc, hU, hB⟩
        have hl := hB.1.1
        simp only [List.mem_cons, not_or] at hl
        exact ⟨f', fp', hC.putObj hl.2 o, hall, hst, hSn, (World.putObj_heap_other (Ne.symm hl.1)).trans hSc, hU.putObj (.inr (by omega)) o, hB.putObj _ o⟩
      case stabx =>
        rintro c g i W o ⟨rfl, f', fp', hC, h0, h1, hSn, hSc, hU, hB⟩
        have hl := hB.1.1
        simp only [List.mem_cons, not_or] at hl
        exact ⟨rfl, f', fp', hC.putObj hl.2 o, h0, h1, hSn, (World.putObj_heap_other (Ne.symm hl.1)).trans hSc, hU.putObj (.inr (by omega)) o, hB.putObj _ o⟩
      case start =>
        rintro fn g W1 hS1
        obtain ⟨fp', hC, hU, hB⟩ := hS1.beside entered_size (fun x hx => by have := hl3 _ hx; omega)
        have hS' := HSS.out
        have hSlt : S < w5.heap.size := by omega
        have hSn : S ∉ fp' := hU.notIn (by rw [entered_size]; omega) nS
        have hge := hB.2.2.1
        refine ⟨f, fp', hC, fun x hx => ⟨1, hx⟩, fun j hj => by omega, hSn, ?_, ?_, ?_⟩
        · exact hU.keeps (entered_upd.keeps m5 (fun h => by cases h)) nS
        · exact (entered_upd.weaken (T := S :: fp3) (fun _ h => by cases h) |>.to (T := S :: fp3) (fun _ h => .inl h)).trans (hU.also S)
        · obtain ⟨⟨b1, b2⟩, b3, b4, b5, b6⟩ := hB
          refine ⟨⟨?_, ?_⟩, b3, b4, ?_, b6⟩
          · simp only [List.mem_cons, not_or]; exact ⟨by omega, b1⟩
          · simp only [List.mem_cons, not_or]; exact ⟨by omega, b2⟩
          · simp only [List.mem_cons, not_or]; exact ⟨by omega, b5⟩
      case assign =>
        intro x W K hK
        gi_wp2
        exact hK
      case body =>
        rintro g i c W ⟨f', fp', hC, hall, hst, hSn, hSc, hU, hB⟩ hx
        have hpos : 0 < (told f 1 2).length := by have := (List.getElem?_eq_some_iff.1 hx).1; omega
        rw [HT.out] at hx
        have hiq : i < q := by have := (List.getElem?_eq_some_iff.1 hx).1; rw [← HQ.out]; exact this
        have hS' := HSS.out
        have hw5s := hU.size
        have nn : ∀ x, x ∉ fp3 → x ≠ S → x ∉ S :: fp3 := fun x h1 h2 => by simp only [List.mem_cons, not_or]; exact ⟨h2, h1⟩
        have r0 := nn _ n0 (by omega)
        have r2 := nn _ n2 (by omega)
        have r3 := nn w3.heap.size (fun h => by have := hl3 _ h; omega) (by omega)
        have r4 := nn (w3.heap.size + 1) (fun h => by have := hl3 _ h; omega) (by omega)
        have p0 := hU.cell m0 r0
        have p2 := hU.cell m2 r2
        have p3 := hU.cell m3 r3
        have p4 := hU.cell m4 r4
        have p5 := cell_of_one hSc
        have p6 := free_of_one hSc
        have s0 := hU.notIn (by omega) r0
        have s2 := hU.notIn (by omega) r2
        have s3 := hU.notIn (by omega) r3
        have s4 := hU.notIn (by omega) r4
        simp only [List.mem_cons, not_or] at s0 s2 s3 s4
        by_cases hbr : (i : Int) = stop
        · have hb1 : ((i : Int) == stop) = true := by rw [beq_iff_eq]; exact hbr
          have HBR := Lib.hid hbr
          clear hbr hS' hst
          gi_wp2
          exact ⟨⟨rfl, rfl⟩, rfl, f', fp', hC, by have := HBR.out; omega, by have := HBR.out; omega, hSn, by rw [← HBR.out]; exact hSc, hU, hB⟩
        · have hb1 : ((i : Int) == stop) = false := by rw [beq_eq_false_iff_ne]; exact hbr
          obtain ⟨g9, d9, hg9, hc9⟩ := (show Has W (S :: fp') _ _ from Has.upd (w := w5) (fp := S :: fp3) ⟨hI5.1, fun g' e => by
            have h1 := hI5.2 g' e
            have h2 := hI3.1.lt g' e
            simp only [List.mem_cons, not_or]; exact ⟨by omega, h1⟩⟩ hU).at_ (ofNats_get hx)
          injection hg9 with e1 e2 e3
          subst e1 e3
          have hcw := (List.getElem?_eq_some_iff.1 hx)
          obtain ⟨n, hn⟩ := hall c (by obtain ⟨h1, h2⟩ := hcw; rw [← h2]; exact List.getElem_mem h1)
          obtain ⟨A, B, hcut⟩ := List.append_of_mem hn
          have hc64 : ¬ Out (c : Int) 64 := by have := (hC.small hn).1; unfold Out; omega
          have hmod : ¬ Out ((i : Int) % 2) 2 := by unfold Out; omega
          have hi1 : (i : Int) ≤ 64 := by omega
          have HH := Lib.hid (And.intro hC (And.intro hall (And.intro hst (And.intro hcut (And.intro hc64 (And.intro hmod hbr))))))
          have hnS : w.heap.size ≠ S := by omega
          have hnS2 : w1.heap.size ≠ S := by omega
          clear e2 hx hbr hS' hst hn hcut hcw hc64 hmod hall hC
          gi_wp2_with (first
            | (refine ⟨trivial, rfl, ?_⟩; gi_at_call 18; refine (CallsIn.inRound _ (callsIn_wide.2 (remove_any c W HH.out.1))).mono ?_; rintro e W2 ⟨r, fa, fp4, rfl, hC4, hU4, hR⟩; obtain ⟨rfl, rfl⟩ := remove_first HH.out.1 HH.out.2.2.2.1 hR; have t2 := hU4.cell p2 s2.2; have t5 := hU4.keeps hSc hSn; have t6 := cell_of_one t5; have hSn4 := hU4.notIn (lt_of_block hSc) hSn; clear hR)
            | (refine ⟨trivial, rfl, ?_⟩; gi_at_call 15; refine (CallsIn.inRound _ (callsIn_wide.2 (append_any ((i : Int) % 2) c W2 hC4))).mono ?_; rintro e W3 ⟨r, fb, fp5, rfl, hC5, hU5, hR⟩; obtain ⟨rfl, rfl⟩ := hR.good HH.out.2.2.2.2.2.1 HH.out.2.2.2.2.1 (gone_free' HH.out.1 HH.out.2.2.2.1); have y5 := hU5.keeps t5 hSn4; have y6 := cell_of_one y5; have y7 := free_of_one y5; have hSn5 := hU5.notIn (lt_of_block t5) hSn4; clear hR))
          have hU6 := (hU4.trans hU5).also S
          have hU7 := hU6.setCell (a := ⟨S, 0, none⟩) (.inl (by simp)) (.int .i64 ((i : Int) + 1))
          obtain ⟨⟨⟨h1', h2'⟩, h3'⟩, h4'⟩ := hB.upd hU7 hpos
          refine ⟨⟨h1', h2'⟩, h3', _, fp5, ?_, moved_linked (j := ((i : Int) % 2).toNat) HH.out.2.1 HH.out.2.2.2.1, ?_, hSn5, ?_, hU.trans hU7, h4'⟩
          · exact hC5.upd ((Upd.refl W3 [S]).setCell (a := ⟨S, 0, none⟩) (.inl (by simp)) _) (fun x hx => by simp; intro e; exact hSn5 (e ▸ hx))
          · intro j hj
            by_cases e : j = i
            · subst e; exact HH.out.2.2.2.2.2.2
            · exact HH.out.2.2.1 j (by omega)
          · have := one_setCell (u := .int .i64 ((i : Int) + 1)) y5
            rw [this]; rfl
      case done =>
        rintro g W ⟨f', fp', hC, hall, hst, hSn, hSc, hU, hB⟩ hK
        have hS' := HSS.out
        have hw5s := hU.size
        have nn : ∀ x, x ∉ fp3 → x ≠ S → x ∉ S :: fp3 := fun x h1 h2 => by simp only [List.mem_cons, not_or]; exact ⟨h2, h1⟩
        have r0 := nn _ n0 (by omega)
        have r1 := nn _ n1 (by omega)
        have r3 := nn w3.heap.size (fun h => by have := hl3 _ h; omega) (by omega)
        have r4 := nn (w3.heap.size + 1) (fun h => by have := hl3 _ h; omega) (by omega)
        have p0 := hU.cell m0 r0
        have p1 := hU.keeps m1 r1
        have p3 := hU.cell m3 r3
        have p4 := hU.cell m4 r4
        have p5 := cell_of_one hSc
        have hUw5 : Upd w [] w5 fp3 := (hUw3.trans (hU4.weaken (T := fp3) (fun _ h => by cases h) |>.to (T := fp3) (fun _ h => .inl h))).trans (hU5.weaken (T := fp3) (fun _ h => by cases h) |>.to (T := fp3) (fun _ h => .inl h))
        have hsw2 := hUw2.size
        have hsw3 := hU3'.size
        have hUw : Upd w [] W (S :: fp') := (hUw5.to (T := S :: fp3) (fun x h => by
          rcases List.mem_cons.1 h with rfl | h
          · exact .inr (by omega)
          · exact hUw5.fresh x h)).trans hU
        rw [HT.out, HQ.out] at hst hSc p5
        have hs2 : ¬ (0 ≤ stop ∧ stop < q) := fun h => hst stop.toNat (by omega) (by omega)
        clear hst hS'
        by_cases hneg : 0 ≤ stop
        · have hge : (q : Int) ≤ stop := by omega
          have hd1 : decide (0 ≤ stop) = true := by simpa using hneg
          have hd2 : decide (stop < (q : Int)) = false := by simp; omega
          clear hs2
          gi_wp2_with (refine ⟨trivial, rfl, ?_⟩; gi_at_call 11; refine (callsIn_wide.2 (awake_any W)).mono ?_; rintro e W2 ⟨rfl, hU9⟩; have hp1 := hU9.keeps p1 (fun h => by cases h); have hpf := free_of_one hp1; have hpc := cell_of_one hp1)
          have hK2 := hU9.keeps hK (fun h => by cases h); rw [hs5, hs4] at hK2
          have hK3 : (W2.setCell ⟨w.heap.size + 1, 0, none⟩ (.bool true)).heap[w3.heap.size + 3 + 2]? = _ := (heap_setCell_other _ _ _ _ (by show w3.heap.size + 3 + 2 ≠ w.heap.size + 1; omega)).trans hK2
          refine ⟨by simp, .inl ⟨_, _, rfl, run_takeDeferred hK3, ?_⟩⟩
          refine ⟨_, results_bool rfl _ _ (w.heap.size + 1) true (by simp) ?_, ?_⟩
          · rw [World.putObj_heap_other (by omega)]
            have := one_setCell (u := .bool true) hp1
            rw [this]
          · refine ⟨rfl, ?_⟩
            have hA := (hUw.trans (hU9.weaken (T := S :: fp') (fun _ h => by cases h) |>.to (T := S :: fp') (fun _ h => .inl h)))
            exact ((hA.setCell (a := ⟨w.heap.size + 1, 0, none⟩) (.inr (by simp)) _).putObj (l := w3.heap.size + 3 + 2) (.inr (by omega)) _).to (T := []) (fun _ h => by cases h)
        · have hd1 : decide (0 ≤ stop) = false := by simpa using hneg
          clear hs2
          gi_wp2_with (refine ⟨trivial, rfl, ?_⟩; gi_at_call 11; refine (callsIn_wide.2 (awake_any W)).mono ?_; rintro e W2 ⟨rfl, hU9⟩; have hp1 := hU9.keeps p1 (fun h => by cases h); have hpf := free_of_one hp1; have hpc := cell_of_one hp1)
          have hK2 := hU9.keeps hK (fun h => by cases h); rw [hs5, hs4] at hK2
          have hK3 : (W2.setCell ⟨w.heap.size + 1, 0, none⟩ (.bool true)).heap[w3.heap.size + 3 + 2]? = _ := (heap_setCell_other _ _ _ _ (by show w3.heap.size + 3 + 2 ≠ w.heap.size + 1; omega)).trans hK2
          refine ⟨by simp, .inl ⟨_, _, rfl, run_takeDeferred hK3, ?_⟩⟩
          refine ⟨_, results_bool rfl _ _ (w.heap.size + 1) true (by simp) ?_, ?_⟩
          · rw [World.putObj_heap_other (by omega)]
            have := one_setCell (u := .bool true) hp1
            rw [this]
          · refine ⟨rfl, ?_⟩
            have hA := (hUw.trans (hU9.weaken (T := S :: fp') (fun _ h => by cases h) |>.to (T := S :: fp') (fun _ h => .inl h)))
            exact ((hA.setCell (a := ⟨w.heap.size + 1, 0, none⟩) (.inr (by simp)) _).putObj (l := w3.heap.size + 3 + 2) (.inr (by omega)) _).to (T := []) (fun _ h => by cases h)
      case stop =>
        rintro c g i W hik ⟨rfl, f', fp', hC, h0, h1, hSn, hSc, hU, hB⟩ hK
        have hS' := HSS.out
        have hw5s := hU.size
        have nn : ∀ x, x ∉ fp3 → x ≠ S → x ∉ S :: fp3 := fun x h1 h2 => by simp only [List.mem_cons, not_or]; exact ⟨h2, h1⟩
        have r0 := nn _ n0 (by omega)
        have r1 := nn _ n1 (by omega)
        have r3 := nn w3.heap.size (fun h => by have := hl3 _ h; omega) (by omega)
        have r4 := nn (w3.heap.size + 1) (fun h => by have := hl3 _ h; omega) (by omega)
        have p0 := hU.cell m0 r0
        have p1 := hU.keeps m1 r1
        have p3 := hU.cell m3 r3
        have p4 := hU.cell m4 r4
        have p5 := cell_of_one hSc
        have hUw5 : Upd w [] w5 fp3 := (hUw3.trans (hU4.weaken (T := fp3) (fun _ h => by cases h) |>.to (T := fp3) (fun _ h => .inl h))).trans (hU5.weaken (T := fp3) (fun _ h => by cases h) |>.to (T := fp3) (fun _ h => .inl h))
        have hsw2 := hUw2.size
        have hsw3 := hU3'.size
        have hUw : Upd w [] W (S :: fp') := (hUw5.to (T := S :: fp3) (fun x h => by
          rcases List.mem_cons.1 h with rfl | h
          · exact .inr (by omega)
          · exact hUw5.fresh x h)).trans hU
        have hd1 : decide (0 ≤ stop) = true := by simpa using h0
        have hd2 : decide (stop < (q : Int)) = true := by simpa using h1
        clear hS'
        gi_wp2_with (refine ⟨trivial, rfl, ?_⟩; gi_at_call 11; refine (callsIn_wide.2 (awake_any W)).mono ?_; rintro e W2 ⟨rfl, hU9⟩; have hp1 := hU9.keeps p1 (fun h => by cases h); have hpf := free_of_one hp1; have hpc := cell_of_one hp1)
        have hK2 := hU9.keeps hK (fun h => by cases h); rw [hs5, hs4] at hK2
        have hK3 : (W2.setCell ⟨w.heap.size + 1, 0, none⟩ (.bool true)).heap[w3.heap.size + 3 + 2]? = _ := (heap_setCell_other _ _ _ _ (by show w3.heap.size + 3 + 2 ≠ w.heap.size + 1; omega)).trans hK2
        refine ⟨by simp, .inl ⟨_, _, rfl, run_takeDeferred hK3, ?_⟩⟩
        refine ⟨_, results_bool rfl _ _ (w.heap.size + 1) true (by simp) ?_, ?_⟩
        · rw [World.putObj_heap_other (by omega)]
          have := one_setCell (u := .bool true) hp1
          rw [this]
        · refine ⟨rfl, ?_⟩
          have hA := (hUw.trans (hU9.weaken (T := S :: fp') (fun _ h => by cases h) |>.to (T := S :: fp') (fun _ h => .inl h)))
          exact ((hA.setCell (a := ⟨w.heap.size + 1, 0, none⟩) (.inr (by simp)) _).putObj (l := w3.heap.size + 3 + 2) (.inr (by omega)) _).to (T := []) (fun _ h => by cases h)


end Go.Proofs.Ytgcemlilfdjjlaa
