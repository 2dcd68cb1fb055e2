/- The law's helper 'walks'. -/
import Derived.Test.YtgcemlilfdjjlaaChanges
import Derived.Test.YtgcemlilfdjjlaaStops
namespace Go.Proofs.Ytgcemlilfdjjlaa
open Go.RowKit

attribute [local go_sem] Oper.semAt_some

def WalksIs (w : World) (b d C L : Nat) (f : Nat → List Nat) (fp fq : List Nat) (e : Ending) (w' : World) : Prop :=
  ∃ fp', e = .returned (.bool true) ∧ Pair w' b d C L f fp' fq ∧ Upd w (fp ++ fq) w' (fp' ++ fq)

theorem told_cells {w : World} {d C L : Nat} {f : Nat → List Nat} {fq : List Nat} (h : Ref w d C L f fq) (z : Int) : told f z L = cellsOf f z := by
  unfold told cellsOf
  by_cases h0 : 0 ≤ z
  · rw [if_pos h0]
    by_cases hz : Out z L
    · rw [if_pos hz]
      by_cases hf : f z.toNat = []
      · exact hf.symm
      · have := h.in_lt hf
        unfold Out at hz
        omega
    · rw [if_neg hz]
  · rw [if_neg h0, if_pos (by unfold Out; omega)]

/-- .. and the answer lies as it lay. -/
def WalksAt (w : World) (b d C L : Nat) (f : Nat → List Nat) (fp fq : List Nat) (e : Ending) (w' : World) : Prop :=
  ∃ fp', e = .returned (.bool true) ∧ Pair w' b d C L f fp' fq ∧ Upd w (fp ++ fq) w' (fp' ++ fq) ∧ ∀ a v, RefAt w d C L f fq a v → RefAt w' d C L f fq a v

set_option maxRecDepth 100000 in
set_option maxHeartbeats 4000000 in
theorem walks_any {b d C L : Nat} {f : Nat → List Nat} {fp fq : List Nat} (z : Int) (w : World) (h : Pair w b d C L f fp fq) (hC : C ≤ 1048577) (hL : L ≤ 1048577) :
    Calls Try.prog 24 #[.pointer (some ⟨b, 0, none⟩), .pointer (some ⟨d, 0, none⟩), .int .i64 z] w (WalksAt w b d C L f fp fq) := by
  have ht := told_cells h.ref z
  obtain ⟨xs, hxs⟩ : ∃ xs, cellsOf f z = xs := ⟨_, rfl⟩
  have hq64 : xs.length ≤ 1048577 := by
    rw [← hxs]
    unfold cellsOf
    split
    · exact Nat.le_trans (h.chain.length _) hC
    · simp
  rw [hxs] at ht
  obtain ⟨q, hq⟩ : ∃ q, xs.length = q := ⟨_, rfl⟩
  rw [hq] at hq64
  have hlp := h.chain.lt
  have hlq := h.ref.lt
  have HT := Lib.hid (And.intro ht (And.intro hxs hq))
  clear ht hxs hq
  have hA : ∀ O, Pair (w.alloc O) b d C L f fp fq := fun O => h.upd ((Upd.refl w []).alloc O) (fun _ _ h => by cases h) (fun _ _ h => by cases h)
  have HA := Lib.hid hA
  have H := Lib.hid h
  clear hA h
  refine (callsIn_wide (n := 0)).1 ?_
  refine callsIn_of_wp_marks Try.func24 rfl trivial ?_ rfl
  simp only [Try.ntmps24, List.size_toArray, List.length_cons, List.length_nil, Nat.reduceAdd, Nat.reduceSub, Array.replicate_succ, Array.replicate_zero, List.push_toArray, List.append_toArray, List.nil_append, List.cons_append]
  gi_wp2_with fail
  refine ⟨trivial, rfl, ?_⟩
  refine (callsIn_wide.2 (of_any z _ (HA.out _).ref hL)).mono ?_
  rintro e w1 ⟨v, rfl, rfl, hI, hown⟩
  rw [HT.out.2.1] at hI
  obtain ⟨a1, c1, rfl, _⟩ := hI.len
  rw [ofNats_length, HT.out.2.2] at hI hown ⊢
  have HI := Lib.hid (And.intro hI hown)
  clear hI hown
  gi_wp2_with fail
  generalize hw4 : ((w.alloc (.cells #[.bool false] 4)).alloc (.cells #[.slice a1 q c1] 38)).alloc (.cells #[.int .i64 0] 3) = w4
  have hU4 : Upd w [] w4 [] := by rw [← hw4]; exact (((Upd.refl _ _).alloc _).alloc _).alloc _
  have hs4 : w4.heap.size = w.heap.size + 3 := by rw [← hw4]; simp
  have k1 : w4.heap[w.heap.size]? = some (.cells #[.bool false] 4 (0, 0)) := by
    rw [← hw4, Below.heap_alloc _ _ _ (by simp; omega), Below.heap_alloc _ _ _ (by simp)]; exact heap_alloc_new _ _
  have k3 : w4.cell? ⟨w.heap.size + 1, 0, none⟩ = some (.slice a1 q c1) := by rw [← hw4]; simp [go_sem]
  have k5 : w4.heap[w.heap.size + 1 + 1]? = some (.cells #[.int .i64 0] 3 (0, 0)) := by
    rw [← hw4]; have := heap_alloc_new ((w.alloc (.cells #[.bool false] 4)).alloc (.cells #[.slice a1 q c1] 38)) (.cells #[.int .i64 0] 3); simpa using this
  have hI4 : Ints w4 (.slice a1 q c1) (ofNats xs) := by
    rw [← hw4]; exact HI.out.1.upd (((Upd.refl _ []).alloc _).alloc _) (fun _ _ h => by cases h)
  clear hw4
  have h4 := H.out.upd hU4 (fun _ _ h => by cases h) (fun _ _ h => by cases h)
  refine ⟨trivial, rfl, ?_⟩
  refine (callsIn_wide.2 (walk_any b z w4)).mono ?_
  rintro e w5 ⟨rfl, hw5⟩
  have hU5 : Upd w4 [] w5 [] := by rw [hw5]; exact Upd.boxes _ _ _
  have hs5 : w5.heap.size = w4.heap.size + 2 := by rw [hw5]; simp
  have m1 := hU5.keeps k1 (fun h => by cases h)
  have m3 := hU5.cell k3 (fun h => by cases h)
  have m5 := hU5.keeps k5 (fun h => by cases h)
  have hB0 : w5.heap[w4.heap.size]? = some (.cells #[.pointer (some ⟨b, 0, none⟩)] 22 (0, 0)) := by rw [hw5]; exact heap_alloc2_old _ _ _
  have hB1 : w5.heap[w4.heap.size + 1]? = some (.cells #[.int .i64 z] 3 (0, 0)) := by rw [hw5]; exact heap_alloc2_new _ _ _
  have h5 := h4.upd hU5 (fun _ _ h => by cases h) (fun _ _ h => by cases h)
  have hI5 := hI4.upd hU5 (fun _ _ h => by cases h)
  have hUw5 : Upd w [] w5 [] := hU4.trans hU5
  clear hw5 k1 k3 k5 hI4 h4
  obtain ⟨S, hS⟩ : ∃ S, S = w.heap.size + 1 + 1 := ⟨_, rfl⟩
  rw [← hS] at m5
  rw [← hS]
  have nS : S ∉ fp := fun h => by have := hlp _ h; omega
  have hit : ∀ fn tmps ps ag bd, IterSpec Try.prog 31 #[.pointer (some ⟨w4.heap.size, 0, none⟩), .pointer (some ⟨w4.heap.size + 1, 0, none⟩)] (fun c : Nat => #[.int .i64 c]) (told f z L) (WalkStart b C L f fp z) (entered w5 fn tmps ps ag bd) := fun fn tmps ps ag bd =>
    walk_spec w4.heap.size (w4.heap.size + 1) z _ (h5.chain.upd entered_upd (fun _ _ h => by cases h)) (entered_upd.keeps hB0 (fun h => by cases h)) (entered_upd.keeps hB1 (fun h => by cases h)) (fun h => by have := hlp _ h; omega) (fun h => by have := hlp _ h; omega)
  have hkp : ∀ fn tmps ps ag bd g W1, WalkStart b C L f fp z (entered w5 fn tmps ps ag bd) g W1 → W1.heap[w5.heap.size + 1]? = (entered w5 fn tmps ps ag bd).heap[w5.heap.size + 1]? ∧ W1.heap[w5.heap.size]? = (entered w5 fn tmps ps ag bd).heap[w5.heap.size]? :=
    fun fn tmps ps ag bd g W1 hS => hS.keeps entered_size (fun x hx => by have := hlp _ hx; omega)
  have HIT := Lib.hid (And.intro hit hkp)
  have HS := Lib.hid (And.intro hs4 hs5)
  have HSS := Lib.hid hS
  have H5 := Lib.hid (And.intro h5 (And.intro hI5 hUw5))
  clear hit hkp hs4 hs5 hS h5 hI5 hUw5
  gi_wp2_with fail
  have hit := HIT.out.1
  have hkp := HIT.out.2
  obtain ⟨hs4, hs5⟩ := HS.out
  refine range_law (P := Try.prog) (w := w5) (gf := 31) (lb := #[.pointer (some ⟨w4.heap.size, 0, none⟩), .pointer (some ⟨w4.heap.size + 1, 0, none⟩)]) (encs := fun c : Nat => #[.int .i64 c]) (xs := told f z L) (Start := WalkStart b C L f fp z) rfl (enters_of Try.func31 (by kernel_rfl) rfl) (fun _ => rfl)
    (fun fn => hit fn _ _ _ _)
    (fun fn g W1 hS => hkp fn _ _ _ _ g W1 hS)
    (fun g i W => ∃ fp', Chain W b C L f fp' ∧ S ∉ fp' ∧ W.heap[S]? = some (.cells #[.int .i64 i] 3 (0, 0)) ∧ Upd w5 (S :: fp) W (S :: fp') ∧ Beside w5 g (told f z L).length W (S :: fp'))
    (fun _ _ _ _ => False)
    ?ne ?stab ?stabx ?start ?a1 ?assign ?body ?done ?stop
  case ne => rintro g i W ⟨fp', _, _, _, _, hB⟩; exact hB.ne
  case stab =>
    rintro g i W o ⟨fp', hC, hSn, hSc, hU, hB⟩
    have hl := hB.1.1
    simp only [List.mem_cons, not_or] at hl
    exact ⟨fp', hC.putObj hl.2 o, hSn, (World.putObj_heap_other (Ne.symm hl.1)).trans hSc, hU.putObj (.inr (by omega)) o, hB.putObj _ o⟩
  case stabx => rintro c g i W o h; exact h
  case start =>
    rintro fn g W1 hS1
    obtain ⟨fp', hC, hU, hB⟩ := hS1.beside entered_size (fun x hx => by have := hlp _ hx; omega)
    have hS' := HSS.out
    have hSlt : S < w5.heap.size := by omega
    have hSn : S ∉ fp' := hU.notIn (by rw [entered_size]; omega) nS
    have hge := hB.2.2.1
    refine ⟨fp', hC, hSn, ?_, ?_, ?_⟩
    · exact hU.keeps (entered_upd.keeps m5 (fun h => by cases h)) nS
    · exact (entered_upd.weaken (T := S :: fp) (fun _ h => by cases h) |>.to (T := S :: fp) (fun _ h => .inl h)).trans (hU.also S)
    · obtain ⟨⟨b1, b2⟩, b3, b4, b5, b6⟩ := hB
      refine ⟨⟨?_, ?_⟩, b3, b4, ?_, b6⟩
      · simp only [List.mem_cons, not_or]; exact ⟨by omega, b1⟩
      · simp only [List.mem_cons, not_or]; exact ⟨by omega, b2⟩
      · simp only [List.mem_cons, not_or]; exact ⟨by omega, b5⟩
  case assign =>
    intro x W K hK
    gi_wp2
    exact hK
  case body =>
    rintro g i c W ⟨fp', hC, hSn, hSc, hU, hB⟩ hx
    have hpos : 0 < (told f z L).length := by have := (List.getElem?_eq_some_iff.1 hx).1; omega
    rw [HT.out.1] at hx
    have hiq : i < q := by have := (List.getElem?_eq_some_iff.1 hx).1; rw [← HT.out.2.2]; exact this
    have hS' := HSS.out
    have r3 : w.heap.size + 1 ∉ S :: fp := by simp only [List.mem_cons, not_or]; exact ⟨by omega, fun h => by have := hlp _ h; omega⟩
    have p3 := hU.cell m3 r3
    have p5 := cell_of_one hSc
    have p6 := free_of_one hSc
    obtain ⟨g9, d9, hg9, _, hc9⟩ := (H5.out.2.1.upd hU (fun g e => by
      have h1 := HI.out.2 g e
      simp only [List.mem_cons, not_or]
      exact ⟨by have := hlq _ h1; omega, fun h2 => H.out.apart g h2 h1⟩)).at_ (ofNats_at hx)
    injection hg9 with e1 e2 e3
    subst e1 e3
    have hnS : w.heap.size + 1 ≠ S := by omega
    have d1 : decide ((q : Int) ≤ (i : Int)) = false := by simp; omega
    have HH := Lib.hid (And.intro hC (And.intro hU hB))
    clear e2 hx hS' hC hU hB
    gi_wp2_with fail
    have hU7 := (Upd.refl W (S :: fp')).setCell (a := ⟨S, 0, none⟩) (.inl (by simp)) (.int .i64 ((i : Int) + 1))
    obtain ⟨⟨⟨h1', h2'⟩, h3'⟩, h4'⟩ := HH.out.2.2.upd hU7 hpos
    refine ⟨⟨h1', h2'⟩, h3', fp', ?_, hSn, ?_, HH.out.2.1.trans hU7, h4'⟩
    · exact HH.out.1.upd ((Upd.refl W [S]).setCell (a := ⟨S, 0, none⟩) (.inl (by simp)) _) (fun x hx => by simp; intro e; exact hSn (e ▸ hx))
    · have := one_setCell (u := .int .i64 ((i : Int) + 1)) hSc
      rw [this]; rfl
  case done =>
    rintro g W ⟨fp', hC, hSn, hSc, hU, hB⟩ hK
    have hS' := HSS.out
    have hw5s := hU.size
    have r1 : w.heap.size ∉ S :: fp := by simp only [List.mem_cons, not_or]; exact ⟨by omega, fun h => by have := hlp _ h; omega⟩
    have r3 : w.heap.size + 1 ∉ S :: fp := by simp only [List.mem_cons, not_or]; exact ⟨by omega, fun h => by have := hlp _ h; omega⟩
    have p1 := hU.keeps m1 r1
    have p3 := hU.cell m3 r3
    rw [HT.out.1, HT.out.2.2] at hSc
    have p5 := cell_of_one hSc
    have hpf := free_of_one p1
    have hpc := cell_of_one p1
    have HH := Lib.hid (And.intro hC (And.intro hU (And.intro hB (And.intro hK p1))))
    have hap : ∀ x, x ∈ fp' → x ∉ fq := fun x hx hq => by
      rcases hU.fresh x (List.mem_cons_of_mem _ hx) with h' | h'
      · rcases List.mem_cons.1 h' with h' | h'
        · have := hlq x hq; omega
        · exact H.out.apart x h' hq
      · have := hlq x hq; omega
    have HAP := Lib.hid hap
    clear hS' hC hU hB hK p1 hap
    gi_wp2_with fail
    have hK2 := HH.out.2.2.2.1
    have hK3 : (W.setCell ⟨w.heap.size, 0, none⟩ (.bool true)).heap[w5.heap.size]? = _ := (heap_setCell_other _ _ _ _ (by show w5.heap.size ≠ w.heap.size; omega)).trans hK2
    refine ⟨by simp, .inl ⟨_, _, rfl, run_takeDeferred hK3, ?_⟩⟩
    refine ⟨_, results_bool rfl _ _ w.heap.size true (by simp) ?_, ?_⟩
    · rw [World.putObj_heap_other (by omega)]
      have := one_setCell (u := .bool true) HH.out.2.2.2.2
      rw [this]
    · have hS2 := HSS.out
      have hR0 : w.heap.size ∉ fp' := HH.out.2.1.notIn (by omega) r1 |> fun h hm => h (List.mem_cons_of_mem _ hm)
      have hRq : w.heap.size ∉ fq := fun h => by have := hlq _ h; omega
      have hDq : w5.heap.size ∉ fq := fun h => by have := hlq _ h; omega
      have hDp := HH.out.2.2.1.1.2
      simp only [List.mem_cons, not_or] at hDp
      have hDp' : w5.heap.size ∉ fp' := hDp.2
      have hE : ∀ o, Upd W [w.heap.size, w5.heap.size] ((W.setCell ⟨w.heap.size, 0, none⟩ (.bool true)).putObj w5.heap.size o) [w.heap.size, w5.heap.size] := fun o => ((Upd.refl W [w.heap.size, w5.heap.size]).setCell (a := ⟨w.heap.size, 0, none⟩) (.inl (by simp)) (.bool true)).putObj (l := w5.heap.size) (.inl (by simp)) o
      have hUw : Upd w (fp ++ fq) W (S :: fp') := ((H5.out.2.2.weaken (T := fp ++ fq) (fun _ h => by cases h)).to (T := S :: fp) (fun x h => by
        rcases List.mem_cons.1 h with rfl | h
        · exact .inr (by omega)
        · exact .inl (List.mem_append.2 (.inl h)))).trans HH.out.2.1
      refine ⟨fp', rfl, ⟨HH.out.1.upd (hE _) (fun x hx => ?_), (H5.out.1.ref.upd HH.out.2.1 (fun x hx hm => ?_)).upd (hE _) (fun x hx => ?_), HAP.out⟩, ?_, fun a v hr => ((hr.upd H5.out.2.2 (fun _ _ h => by cases h)).upd HH.out.2.1 (fun x hx hm => ?_)).upd (hE _) (fun x hx => ?_)⟩
      · simp only [List.mem_cons, List.not_mem_nil, or_false, not_or]
        exact ⟨fun e => hR0 (e ▸ hx), fun e => hDp' (e ▸ hx)⟩
      · rcases List.mem_cons.1 hm with rfl | hm
        · have := hlq _ hx; omega
        · exact H.out.apart _ hm hx
      · simp only [List.mem_cons, List.not_mem_nil, or_false, not_or]
        exact ⟨fun e => hRq (e ▸ hx), fun e => hDq (e ▸ hx)⟩
      · refine ((hUw.setCell (a := ⟨w.heap.size, 0, none⟩) (.inr (by simp)) _).putObj (l := w5.heap.size) (.inr (by omega)) _).to (fun x hx => ?_)
        rcases List.mem_append.1 hx with hx | hx
        · exact hUw.fresh x (List.mem_cons_of_mem _ hx)
        · exact .inl (List.mem_append.2 (.inr hx))
      · rcases List.mem_cons.1 hm with rfl | hm
        · have := hlq _ hx; omega
        · exact H.out.apart _ hm hx
      · simp only [List.mem_cons, List.not_mem_nil, or_false, not_or]
        exact ⟨fun e => hRq (e ▸ hx), fun e => hDq (e ▸ hx)⟩
  case stop => rintro c g i W hik h; exact h.elim

end Go.Proofs.Ytgcemlilfdjjlaa
