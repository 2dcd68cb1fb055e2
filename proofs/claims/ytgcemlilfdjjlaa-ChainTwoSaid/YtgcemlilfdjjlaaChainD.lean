/- The chain's public functions, told by the lists (Chain w b C L f fp). -/
import Derived.Test.YtgcemlilfdjjlaaChainP
namespace Go.Proofs.Ytgcemlilfdjjlaa
open Go.RowKit

/-- At block b lies a chain of C cells and L lists; f tells the lists' cells; its blocks are fp. -/
def Chain (w : World) (b C L : Nat) (f : Nat → List Nat) (fp : List Nat) : Prop :=
  ∃ m na ne va ve, Lay w b m na ne va ve ∧ WF m f ∧ m.cells = C ∧ m.lists = L ∧ fp = feet b va ve

theorem Chain.upd {w w' : World} {b C L : Nat} {f : Nat → List Nat} {fp S S' : List Nat} (h : Chain w b C L f fp) (hu : Upd w S w' S') (hn : ∀ k, k ∈ fp → k ∉ S) : Chain w' b C L f fp := by
  obtain ⟨m, na, ne, va, ve, hL, hW, hC, hLs, rfl⟩ := h
  exact ⟨m, na, ne, va, ve, hL.upd hu hn, hW, hC, hLs, rfl⟩
theorem Chain.lt {w : World} {b C L : Nat} {f : Nat → List Nat} {fp : List Nat} (h : Chain w b C L f fp) : ∀ k, k ∈ fp → k < w.heap.size := by
  obtain ⟨m, na, ne, va, ve, hL, hW, hC, hLs, rfl⟩ := h
  exact hL.lt

def Out (n : Int) (L : Nat) : Prop := n < 0 ∨ (L : Int) ≤ n
theorem Out.no {n : Int} {L : Nat} (h : ¬ Out n L) : ∃ k : Nat, n = k ∧ k < L := by
  unfold Out at h
  exact ⟨n.toNat, by omega, by omega⟩

set_option maxHeartbeats 400000 in
theorem new_bad (a b : Int) (w : World) (h : ¬ (1 ≤ a ∧ a ≤ 1048576 ∧ 1 ≤ b ∧ b ≤ 1048576)) :
    Calls Try.prog 10 #[.int .i64 a, .int .i64 b] w fun e w' => e = .returned (.tuple #[.pointer none, .int .i64 40]) ∧ w = w' := by
  go_enter Try.func10, Try.ntmps10
  go_wp2
  all_goals first
    | (exfalso; omega)
    | (go_ret2; exact ⟨rfl, rfl⟩)

def NewIs (w : World) (C L : Nat) (e : Ending) (w' : World) : Prop :=
  ∃ b, e = .returned (.tuple #[.pointer (some ⟨b, 0, none⟩), .int .i64 0]) ∧ w.heap.size ≤ b ∧ Chain w' b C L (fun _ => []) [b] ∧ Upd w [] w' [b]

theorem WF.empty (C L : Nat) : WF ⟨C, L, fun _ => Link.zero, fun _ => Ends.zero⟩ (fun _ => []) :=
  ⟨fun _ _ h => (by cases h), fun _ _ => rfl, fun _ => List.nodup_nil, fun _ A c B h => (by simp at h), fun _ _ => rfl, fun _ => rfl⟩

theorem newIs_mk {w w' : World} {C L : Nat} (h : C ≤ 1048576 ∧ L ≤ 1048576) (hw : w' = w.alloc (.cells #[.int .i64 C, .slice none 0 0, .int .i64 L, .slice none 0 0] 37)) :
    NewIs w C L (.returned (.tuple #[.pointer (some ⟨w.heap.size, 0, none⟩), .int .i64 0])) w' := by
  subst hw
  refine ⟨w.heap.size, rfl, Nat.le_refl _, ⟨⟨C, L, fun _ => Link.zero, fun _ => Ends.zero⟩, 0, 0, .slice none 0 0, .slice none 0 0, ⟨?_, Tab.nil _ _ _ _, Tab.nil _ _ _ _, Nat.zero_le _, Nat.zero_le _, h.1, h.2, fun _ _ => rfl, fun _ _ => rfl⟩, WF.empty C L, rfl, rfl, rfl⟩, ?_⟩
  · exact heap_alloc_new w _
  · exact ((Upd.refl w []).alloc _).to (by simp)

set_option maxHeartbeats 400000 in
theorem new_ok (a b : Nat) (w : World) (h : 1 ≤ a ∧ a ≤ 1048576 ∧ 1 ≤ b ∧ b ≤ 1048576) :
    Calls Try.prog 10 #[.int .i64 a, .int .i64 b] w (NewIs w a b) := by
  obtain ⟨h1, h2, h3, h4⟩ := h
  have i1 : (1 : Int) ≤ a := by omega
  have i2 : (a : Int) ≤ 1048576 := by omega
  have i3 : (1 : Int) ≤ b := by omega
  have i4 : (b : Int) ≤ 1048576 := by omega
  go_enter Try.func10, Try.ntmps10
  go_wp2
  go_ret2
  exact newIs_mk ⟨h2, h4⟩ rfl

theorem Lay.last_cell {w : World} {b g n : Nat} {m : M} {na ne : Nat} {va ve : Value} (h : Lay w b m na ne va ve) (hg : ve.ownBlock = some g) (hn : n < ne) : w.cell? ⟨g, n * 3 + 1, none⟩ = some (.int .i64 (m.en n).last) := by
  obtain ⟨g', cap, rfl, hg', _, hcell, _, _⟩ := h.tabE.block (by omega)
  obtain rfl : g' = g := by rw [hg'] at hg; injection hg
  exact hcell n 1 hn (by omega)

theorem WF.linked_ne {m : M} {f : Nat → List Nat} (h : WF m f) {n c : Nat} (hn : c ∈ f n) : (m.lk c).list ≠ 0 := by rw [h.linked hn]; omega

def AppendR (C L : Nat) (f : Nat → List Nat) (n c r : Int) (f' : Nat → List Nat) : Prop :=
  (Out n L ∧ r = 41 ∧ f' = f) ∨ (¬ Out n L ∧ Out c C ∧ r = 42 ∧ f' = f) ∨ (¬ Out n L ∧ ¬ Out c C ∧ (∃ k, c.toNat ∈ f k) ∧ r = 43 ∧ f' = f) ∨
  (¬ Out n L ∧ ¬ Out c C ∧ (∀ k, c.toNat ∉ f k) ∧ r = 0 ∧ f' = put f n.toNat (f n.toNat ++ [c.toNat]))

def ChangeIs (w : World) (b C L : Nat) (fp : List Nat) (R : Int → (Nat → List Nat) → Prop) (e : Ending) (w' : World) : Prop :=
  ∃ r f' fp', e = .returned (.int .i64 r) ∧ Chain w' b C L f' fp' ∧ Upd w fp w' fp' ∧ R r f'

set_option maxHeartbeats 800000 in
theorem append_any {b C L : Nat} {f : Nat → List Nat} {fp : List Nat} (n c : Int) (w : World) (h : Chain w b C L f fp) :
    Calls Try.prog 15 #[.pointer (some ⟨b, 0, none⟩), .int .i64 n, .int .i64 c] w (ChangeIs w b C L fp (AppendR C L f n c)) := by
  obtain ⟨m, na, ne, va, ve, hL, hW, rfl, rfl, rfl⟩ := h
  by_cases hn : Out n m.lists
  · go_enter Try.func15, Try.ntmps15
    go_wp2_with (go_at_call 27; refine (list_none n w hL hn).mono ?_; rintro e w' ⟨rfl, rfl⟩)
    go_ret
    exact ⟨41, f, _, rfl, ⟨m, na, ne, va, ve, hL, hW, rfl, rfl, rfl⟩, Upd.refl _ _, .inl ⟨hn, rfl, rfl⟩⟩
  obtain ⟨n, rfl, hlt⟩ := Out.no hn
  have HN := Lib.hid hn
  clear hn
  by_cases hc : Out c m.cells
  · go_enter Try.func15, Try.ntmps15
    go_wp2_with (first | (go_at_call 27; refine (list_ok n w hL hlt).mono ?_; rintro e w1 ⟨ne', ve', g, rfl, hlt1, hg1, hL1, hU1⟩; have HG := Lib.hid hg1; clear hg1) | (go_at_call 29; refine (loose_cell c w1 hL1 hc).mono ?_; rintro e w' ⟨rfl, rfl⟩))
    go_ret
    exact ⟨42, f, _, rfl, ⟨m, _, _, _, _, hL1, hW, rfl, rfl, rfl⟩, hU1, .inr (.inl ⟨HN.out, hc, rfl, rfl⟩)⟩
  obtain ⟨c, rfl, hclt⟩ := Out.no hc
  have HC := Lib.hid hc
  clear hc
  by_cases hz : (m.lk c).list = 0
  · have hfree := (hW.loose_iff c).1 hz
    have hsz : (m.en n).size = (f n).length := by rw [hW.ends n]
    have hb1 := hW.length n
    have hb2 := hL.hc
    have s1 : (m.en n).size < 1048576 := by
      have h1 : (f n ++ [c]).length ≤ m.cells := length_le_of_nodup (by rw [List.nodup_append]; exact ⟨hW.nodup n, by simp, fun x hx y hy => by simp at hy; subst hy; exact fun e => hfree n (e ▸ hx)⟩) (fun x hx => by
        rcases List.mem_append.1 hx with hx | hx
        · exact hW.small n x hx
        · simp at hx; omega)
      simp at h1
      omega
    have s0 : 0 ≤ (m.en n).size := by omega
    have hlast : (m.en n).last = numOf (f n).getLast? := by rw [hW.ends n]
    have HLAST := Lib.hid hlast
    have HFREE := Lib.hid hfree
    clear hsz hlast hfree hb1
    go_enter Try.func15, Try.ntmps15
    go_wp2_with (first
      | (go_at_call 27; refine (list_ok n w hL hlt).mono ?_; rintro e w1 ⟨ne', ve', g, rfl, hlt1, hg1, hL1, hU1⟩; have HG := Lib.hid hg1; clear hg1)
      | (go_at_call 29; refine (loose_ok c w1 hL1 hclt hz).mono ?_; rintro e w2 ⟨na', va', g', rfl, hlt2, hg2, hL2, hU2⟩; have HG2 := Lib.hid hg2; clear hg2; have hx1 := hL2.last_cell HG.out hlt1; rw [HLAST.out] at hx1)
      | (go_at_call 30; refine (insert_any n c (f n).getLast? none w2 hL2 hlt1 hlt2 (fun x hx => hL2.linked_lt (hW.linked_ne (List.mem_of_getLast? hx))) (fun x hx => (by cases hx)) (fun e => HFREE.out n (List.mem_of_getLast? e)) (fun e => (by cases e)) (fun x _ e => (by cases e)) s1 s0).mono ?_; rintro e w3 ⟨rfl, hL3, hU3⟩))
    go_ret
    have hW' := hW.insert hlt hclt HFREE.out (A := f n) (B := []) (by simp)
    exact ⟨0, _, _, rfl, ⟨_, _, _, _, _, hL3, hW', insert_cells .., insert_lists .., rfl⟩, hU1.trans (hU2.trans hU3), .inr (.inr (.inr ⟨HN.out, HC.out, HFREE.out, rfl, rfl⟩))⟩
  · go_enter Try.func15, Try.ntmps15
    go_wp2_with (first | (go_at_call 27; refine (list_ok n w hL hlt).mono ?_; rintro e w1 ⟨ne', ve', g, rfl, hlt1, hg1, hL1, hU1⟩; have HG := Lib.hid hg1; clear hg1) | (go_at_call 29; refine (loose_linked c w1 hL1 hz).mono ?_; rintro e w' ⟨rfl, rfl⟩))
    go_ret
    obtain ⟨k, A, B, hk⟩ := hW.has hz
    exact ⟨43, f, _, rfl, ⟨m, _, _, _, _, hL1, hW, rfl, rfl, rfl⟩, hU1, .inr (.inr (.inl ⟨HN.out, HC.out, ⟨k, by rw [hk]; simp⟩, rfl, rfl⟩))⟩

end Go.Proofs.Ytgcemlilfdjjlaa
