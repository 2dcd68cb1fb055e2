/- The chain's public functions, on: Before. -/
import Derived.Test.YtgcemlilfdjjlaaChainD
namespace Go.Proofs.Ytgcemlilfdjjlaa
open Go.RowKit

theorem Lay.drew {w : World} {b : Nat} {m : M} {na ne : Nat} {va ve : Value} (h : Lay w b m na ne va ve) : Lay w.drew b m na ne va ve :=
  ⟨h.blk, h.tabA, h.tabE, h.hna, h.hne, h.hc, h.hl, h.lk0, h.en0⟩

theorem Lay.link_cells {w : World} {b g n : Nat} {m : M} {na ne : Nat} {va ve : Value} (h : Lay w b m na ne va ve) (hg : va.ownBlock = some g) (hn : n < na) :
    w.cell? ⟨g, n * 3, none⟩ = some (.int .i64 (m.lk n).list) ∧ w.cell? ⟨g, n * 3 + 1, none⟩ = some (.int .i64 (m.lk n).prev) ∧ w.cell? ⟨g, n * 3 + 2, none⟩ = some (.int .i64 (m.lk n).next) := by
  obtain ⟨g', cap, rfl, hg', _, hcell, _, _⟩ := h.tabA.block (by omega)
  obtain rfl : g' = g := by rw [hg'] at hg; injection hg
  exact ⟨hcell n 0 hn (by omega), hcell n 1 hn (by omega), hcell n 2 hn (by omega)⟩
theorem Lay.end_cells {w : World} {b g n : Nat} {m : M} {na ne : Nat} {va ve : Value} (h : Lay w b m na ne va ve) (hg : ve.ownBlock = some g) (hn : n < ne) :
    w.cell? ⟨g, n * 3, none⟩ = some (.int .i64 (m.en n).first) ∧ w.cell? ⟨g, n * 3 + 1, none⟩ = some (.int .i64 (m.en n).last) ∧ w.cell? ⟨g, n * 3 + 2, none⟩ = some (.int .i64 (m.en n).size) := by
  obtain ⟨g', cap, rfl, hg', _, hcell, _, _⟩ := h.tabE.block (by omega)
  obtain rfl : g' = g := by rw [hg'] at hg; injection hg
  exact ⟨hcell n 0 hn (by omega), hcell n 1 hn (by omega), hcell n 2 hn (by omega)⟩
theorem Lay.slice_a {w : World} {b : Nat} {m : M} {na ne : Nat} {va ve : Value} (h : Lay w b m na ne va ve) {c : Nat} (hc : c < na) : ∃ g cap, va = .slice (some ⟨g, 0, none⟩) na cap ∧ va.ownBlock = some g := by
  obtain ⟨g, cap, hv, hg, _⟩ := h.tabA.block (by omega)
  exact ⟨g, cap, hv, hg⟩
theorem Lay.slice_e {w : World} {b : Nat} {m : M} {na ne : Nat} {va ve : Value} (h : Lay w b m na ne va ve) {c : Nat} (hc : c < ne) : ∃ g cap, ve = .slice (some ⟨g, 0, none⟩) ne cap ∧ ve.ownBlock = some g := by
  obtain ⟨g, cap, hv, hg, _⟩ := h.tabE.block (by omega)
  exact ⟨g, cap, hv, hg⟩

theorem Lay.end_lt {w : World} {b : Nat} {m : M} {na ne : Nat} {va ve : Value} {f : Nat → List Nat} (h : Lay w b m na ne va ve) (hW : WF m f) {n c : Nat} (hc : c ∈ f n) : n < ne := by
  rcases Nat.lt_or_ge n ne with hlt | hge
  · exact hlt
  · have h1 := hW.ends n
    rw [h.en0 n hge] at h1
    injection h1 with _ _ h1
    have := List.length_pos_of_mem hc
    omega

theorem WF.last_ne {m : M} {f : Nat → List Nat} (h : WF m f) {n k : Nat} {A B : List Nat} (hf : f n = A ++ k :: B) : A.getLast? ≠ some k := by
  intro e
  have := h.nodup n
  rw [hf, List.nodup_append] at this
  exact this.2.2 k (List.mem_of_getLast? e) k (by simp) rfl

theorem WF.size_lt {m : M} {f : Nat → List Nat} (h : WF m f) (hc : m.cells ≤ 1048576) {c : Nat} (hclt : c < m.cells) (hfree : ∀ n, c ∉ f n) (n : Nat) : (m.en n).size < 1048576 ∧ 0 ≤ (m.en n).size := by
  have h1 : (f n ++ [c]).length ≤ m.cells := length_le_of_nodup (by rw [List.nodup_append]; exact ⟨h.nodup n, by simp, fun x hx y hy => by simp at hy; subst hy; exact fun e => hfree n (e ▸ hx)⟩) (fun x hx => by
    rcases List.mem_append.1 hx with hx | hx
    · exact h.small n x hx
    · simp at hx; omega)
  simp at h1
  rw [h.ends n]
  show ((f n).length : Int) < 1048576 ∧ (0 : Int) ≤ (f n).length
  omega

def BeforeR (C : Nat) (f : Nat → List Nat) (c k r : Int) (f' : Nat → List Nat) : Prop :=
  ((Out c C ∨ Out k C) ∧ r = 42 ∧ f' = f) ∨ (¬ Out c C ∧ ¬ Out k C ∧ (∃ n, c.toNat ∈ f n) ∧ r = 43 ∧ f' = f) ∨ (¬ Out c C ∧ ¬ Out k C ∧ (∀ n, c.toNat ∉ f n) ∧ (∀ n, k.toNat ∉ f n) ∧ r = 44 ∧ f' = f) ∨
  (¬ Out c C ∧ ¬ Out k C ∧ (∀ n, c.toNat ∉ f n) ∧ ∃ n A B, f n = A ++ k.toNat :: B ∧ r = 0 ∧ f' = put f n (A ++ c.toNat :: k.toNat :: B))

theorem WF.in_some {m : M} {f : Nat → List Nat} (h : WF m f) {c : Nat} (hc : (m.lk c).list ≠ 0) : ∃ n, c ∈ f n := by
  obtain ⟨n, A, B, hf⟩ := h.has hc
  exact ⟨n, by rw [hf]; simp⟩

set_option maxHeartbeats 1000000 in
theorem before_bad {b : Nat} {m : M} {na ne : Nat} {va ve : Value} {f : Nat → List Nat} (c k : Int) (w : World) (hL : Lay w b m na ne va ve) (hW : WF m f)
    (hbad : Out c m.cells ∨ Out k m.cells ∨ (m.lk c.toNat).list ≠ 0 ∨ (m.lk k.toNat).list = 0) :
    Calls Try.prog 19 #[.pointer (some ⟨b, 0, none⟩), .int .i64 c, .int .i64 k] w (ChangeIs w b m.cells m.lists (feet b va ve) (BeforeR m.cells f c k)) := by
  have hc0 := hL.hc
  by_cases hk : Out k m.cells
  · clear hbad
    by_cases hc : Out c m.cells
    · go_enter Try.func19, Try.ntmps19
      go_wp2_with (first | (go_at_call 28; refine (linked_cell k w hL hk).mono ?_; rintro e w' ⟨rfl, rfl⟩) | (go_at_call 29; refine (loose_cell c w hL hc).mono ?_; rintro e w' ⟨rfl, rfl⟩))
      go_ret
      exact ⟨42, f, _, rfl, ⟨m, _, _, _, _, hL, hW, rfl, rfl, rfl⟩, Upd.refl _ _, .inl ⟨.inl hc, rfl, rfl⟩⟩
    obtain ⟨c, rfl, hclt⟩ := Out.no hc
    have HC := Lib.hid hc
    clear hc
    by_cases hz : (m.lk c).list = 0
    · go_enter Try.func19, Try.ntmps19
      go_wp2_with (first | (go_at_call 28; refine (linked_cell k w hL hk).mono ?_; rintro e w' ⟨rfl, rfl⟩) | (go_at_call 29; refine (loose_ok c w hL hclt hz).mono ?_; rintro e w2 ⟨na', va', g', rfl, hlt2, hg2, hL2, hU2⟩; have HG2 := Lib.hid hg2; clear hg2))
      go_ret
      exact ⟨42, f, _, rfl, ⟨m, _, _, _, _, hL2, hW, rfl, rfl, rfl⟩, hU2, .inl ⟨.inr hk, rfl, rfl⟩⟩
    · go_enter Try.func19, Try.ntmps19
      go_wp2_with (first | (go_at_call 28; refine (linked_cell k w hL hk).mono ?_; rintro e w' ⟨rfl, rfl⟩) | (go_at_call 29; refine (loose_linked c w hL hz).mono ?_; rintro e w' ⟨rfl, rfl⟩))
      go_ret
      exact ⟨42, f, _, rfl, ⟨m, _, _, _, _, hL, hW, rfl, rfl, rfl⟩, Upd.refl _ _, .inl ⟨.inr hk, rfl, rfl⟩⟩
  obtain ⟨k, rfl, hklt⟩ := Out.no hk
  have HK := Lib.hid hk
  clear hk
  rw [Int.toNat_natCast] at hbad
  by_cases hkz : (m.lk k).list = 0
  · clear hbad
    by_cases hc : Out c m.cells
    · go_enter Try.func19, Try.ntmps19
      go_wp2_with (first | (go_at_call 28; refine (linked_loose k w hL hklt hkz).mono ?_; rintro e w' ⟨rfl, rfl⟩) | (go_at_call 29; refine (loose_cell c w hL hc).mono ?_; rintro e w' ⟨rfl, rfl⟩))
      go_ret
      exact ⟨42, f, _, rfl, ⟨m, _, _, _, _, hL, hW, rfl, rfl, rfl⟩, Upd.refl _ _, .inl ⟨.inl hc, rfl, rfl⟩⟩
    obtain ⟨c, rfl, hclt⟩ := Out.no hc
    have HC := Lib.hid hc
    clear hc
    by_cases hz : (m.lk c).list = 0
    · go_enter Try.func19, Try.ntmps19
      go_wp2_with (first | (go_at_call 28; refine (linked_loose k w hL hklt hkz).mono ?_; rintro e w' ⟨rfl, rfl⟩) | (go_at_call 29; refine (loose_ok c w hL hclt hz).mono ?_; rintro e w2 ⟨na', va', g', rfl, hlt2, hg2, hL2, hU2⟩; have HG2 := Lib.hid hg2; clear hg2))
      go_ret
      exact ⟨44, f, _, rfl, ⟨m, _, _, _, _, hL2, hW, rfl, rfl, rfl⟩, hU2, .inr (.inr (.inl ⟨HC.out, HK.out, (hW.loose_iff c).1 hz, (hW.loose_iff k).1 hkz, rfl, rfl⟩))⟩
    · go_enter Try.func19, Try.ntmps19
      go_wp2_with (first | (go_at_call 28; refine (linked_loose k w hL hklt hkz).mono ?_; rintro e w' ⟨rfl, rfl⟩) | (go_at_call 29; refine (loose_linked c w hL hz).mono ?_; rintro e w' ⟨rfl, rfl⟩))
      go_ret
      exact ⟨43, f, _, rfl, ⟨m, _, _, _, _, hL, hW, rfl, rfl, rfl⟩, Upd.refl _ _, .inr (.inl ⟨HC.out, HK.out, hW.in_some hz, rfl, rfl⟩)⟩
  · obtain ⟨g, cap, hv, hg⟩ := hL.slice_a (hL.linked_lt hkz)
    have HG := Lib.hid hg
    clear hg hv
    by_cases hc : Out c m.cells
    · clear hbad
      go_enter Try.func19, Try.ntmps19
      go_wp2_with (first | (go_at_call 28; refine (linked_ok k w hL hkz HG.out).mono ?_; rintro e w' ⟨rfl, rfl⟩) | (go_at_call 29; refine (loose_cell c w hL hc).mono ?_; rintro e w' ⟨rfl, rfl⟩))
      go_ret
      exact ⟨42, f, _, rfl, ⟨m, _, _, _, _, hL, hW, rfl, rfl, rfl⟩, Upd.refl _ _, .inl ⟨.inl hc, rfl, rfl⟩⟩
    obtain ⟨c, rfl, hclt⟩ := Out.no hc
    have HC := Lib.hid hc
    have hz : (m.lk c).list ≠ 0 := by
      rcases hbad with h | h | h | h
      · exact absurd h hc
      · exact absurd h HK.out
      · rwa [Int.toNat_natCast] at h
      · exact absurd h hkz
    clear hbad hc
    go_enter Try.func19, Try.ntmps19
    go_wp2_with (first | (go_at_call 28; refine (linked_ok k w hL hkz HG.out).mono ?_; rintro e w' ⟨rfl, rfl⟩) | (go_at_call 29; refine (loose_linked c w hL hz).mono ?_; rintro e w' ⟨rfl, rfl⟩))
    go_ret
    exact ⟨43, f, _, rfl, ⟨m, _, _, _, _, hL, hW, rfl, rfl, rfl⟩, Upd.refl _ _, .inr (.inl ⟨HC.out, HK.out, hW.in_some hz, rfl, rfl⟩)⟩

set_option maxHeartbeats 1000000 in
theorem before_ok {b : Nat} {m : M} {na ne : Nat} {va ve : Value} {f : Nat → List Nat} (c k n : Nat) (A B : List Nat) (w : World) (hL : Lay w b m na ne va ve) (hW : WF m f)
    (hclt : c < m.cells) (hfree : ∀ n, c ∉ f n) (hf : f n = A ++ k :: B) :
    Calls Try.prog 19 #[.pointer (some ⟨b, 0, none⟩), .int .i64 c, .int .i64 k] w (ChangeIs w b m.cells m.lists (feet b va ve) (BeforeR m.cells f c k)) := by
  have hz : (m.lk c).list = 0 := (hW.loose_iff c).2 hfree
  have hmem : k ∈ f n := by rw [hf]; simp
  have hlk := hW.link n A k B hf
  have hkz : (m.lk k).list ≠ 0 := by rw [hlk]; show (n : Int) + 1 ≠ 0; omega
  have hklt := hL.linked_lt hkz
  have hne := hL.end_lt hW hmem
  have hHK : ¬ Out k m.cells := by have := hL.hna; unfold Out; omega
  have hHC : ¬ Out c m.cells := by unfold Out; omega
  have HK := Lib.hid hHK
  have HC := Lib.hid hHC
  have hnl := hW.lt_lists hmem
  have hl := hL.hl
  obtain ⟨g, cap, hv, hg⟩ := hL.slice_a hklt
  have HG := Lib.hid hg
  have HLK := Lib.hid hlk
  have HF := Lib.hid hf
  have HFREE := Lib.hid hfree
  clear hg hv hlk hf hfree hHK hHC
  go_enter Try.func19, Try.ntmps19
  go_wp2_with (first | (go_at_call 28; refine (linked_ok k w hL hkz HG.out).mono ?_; rintro e w' ⟨rfl, rfl⟩) | (go_at_call 29; refine (loose_ok c w hL hclt hz).mono ?_; rintro e w2 ⟨na', va', g', rfl, hlt2, hg2, hL2, hU2⟩; have hka := hL2.linked_lt hkz; have hx := hL2.link_cells hg2 hka; rw [HLK.out] at hx; obtain ⟨hx0, hx1, hx2⟩ := hx; have h1 := hL2.c1; obtain ⟨g2, cap2, rfl, hg3⟩ := hL2.slice_a hlt2; obtain rfl : g2 = g' := (by rw [hg3] at hg2; injection hg2); have HG2 := Lib.hid hg2; clear hg2 hg3))
  have hsz := hW.size_lt hL.hc hclt HFREE.out n
  have hL3 := hL2.drew
  go_still_tail 12, (by kernel_rfl)
  change wpList _ _ _ _ _ w2.drew
  go_wp2_with (go_at_call 30; (refine (insert_any n c A.getLast? (some k) w2.drew hL3 hne hlt2 (fun x hx => hL2.linked_lt (hW.linked_ne (hW.last_mem HF.out hx))) (fun x hx => by cases hx; exact hka) (fun e => HFREE.out n (hW.last_mem HF.out e)) (fun e => by cases e; exact hkz hz) (fun x hx e => by cases e; exact hW.last_ne HF.out hx) hsz.1 hsz.2).mono ?_; rintro e w3 ⟨rfl, hL4, hU4⟩))
  go_ret
  have hW' := hW.insert hnl hclt HFREE.out (A := A) (B := k :: B) HF.out
  exact ⟨0, _, _, rfl, ⟨_, _, _, _, _, hL4, hW', insert_cells .., insert_lists .., rfl⟩, hU2.trans ((Upd.refl w2 _).drew.trans hU4), .inr (.inr (.inr ⟨HC.out, HK.out, HFREE.out, n, A, B, HF.out, rfl, rfl⟩))⟩

theorem before_any {b C L : Nat} {f : Nat → List Nat} {fp : List Nat} (c k : Int) (w : World) (h : Chain w b C L f fp) :
    Calls Try.prog 19 #[.pointer (some ⟨b, 0, none⟩), .int .i64 c, .int .i64 k] w (ChangeIs w b C L fp (BeforeR C f c k)) := by
  obtain ⟨m, na, ne, va, ve, hL, hW, rfl, rfl, rfl⟩ := h
  by_cases hbad : Out c m.cells ∨ Out k m.cells ∨ (m.lk c.toNat).list ≠ 0 ∨ (m.lk k.toNat).list = 0
  · exact before_bad c k w hL hW hbad
  · simp only [not_or, ne_eq, Classical.not_not] at hbad
    obtain ⟨h1, h2, h3, h4⟩ := hbad
    obtain ⟨c, rfl, hclt⟩ := Out.no h1
    obtain ⟨k, rfl, hklt⟩ := Out.no h2
    rw [Int.toNat_natCast] at h3 h4
    obtain ⟨n, A, B, hf⟩ := hW.has h4
    exact before_ok c k n A B w hL hW hclt ((hW.loose_iff c).1 h3) hf

end Go.Proofs.Ytgcemlilfdjjlaa
