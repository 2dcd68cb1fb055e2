/- The chain's public functions that ask: Owner, Next, Prev, Ends, Len. -/
import Derived.Test.YtgcemlilfdjjlaaChainF
namespace Go.Proofs.Ytgcemlilfdjjlaa
open Go.RowKit

/-- What is told of a cell: x (0 with 42, 44). -/
def AskR (C : Nat) (f : Nat → List Nat) (c : Int) (what : Nat → List Nat → List Nat → Int) (x r : Int) : Prop :=
  (Out c C ∧ x = 0 ∧ r = 42) ∨ (¬ Out c C ∧ (∀ n, c.toNat ∉ f n) ∧ x = 0 ∧ r = 44) ∨ (¬ Out c C ∧ ∃ n A B, f n = A ++ c.toNat :: B ∧ x = what n A B ∧ r = 0)

def AskIs (w : World) (R : Int → Int → Prop) (e : Ending) (w' : World) : Prop := ∃ x r, e = .returned (.tuple #[.int .i64 x, .int .i64 r]) ∧ R x r ∧ w = w'

def ofOwner : Nat → List Nat → List Nat → Int := fun n _ _ => n
def ofNext : Nat → List Nat → List Nat → Int := fun _ _ B => numOf B.head?
def ofPrev : Nat → List Nat → List Nat → Int := fun _ A _ => numOf A.getLast?

set_option maxHeartbeats 400000 in
theorem owner_any {b C L : Nat} {f : Nat → List Nat} {fp : List Nat} (c : Int) (w : World) (h : Chain w b C L f fp) :
    Calls Try.prog 14 #[.pointer (some ⟨b, 0, none⟩), .int .i64 c] w (AskIs w (AskR C f c ofOwner)) := by
  obtain ⟨m, na, ne, va, ve, hL, hW, rfl, rfl, rfl⟩ := h
  by_cases hc : Out c m.cells
  · go_enter Try.func14, Try.ntmps14
    go_wp2_with (go_at_call 28; refine (linked_cell c w hL hc).mono ?_; rintro e w' ⟨rfl, rfl⟩)
    go_ret2
    exact ⟨0, 42, rfl, .inl ⟨hc, rfl, rfl⟩, rfl⟩
  obtain ⟨c, rfl, hclt⟩ := Out.no hc
  have HC := Lib.hid hc
  clear hc
  by_cases hz : (m.lk c).list = 0
  · go_enter Try.func14, Try.ntmps14
    go_wp2_with (go_at_call 28; refine (linked_loose c w hL hclt hz).mono ?_; rintro e w' ⟨rfl, rfl⟩)
    go_ret2
    exact ⟨0, 44, rfl, .inr (.inl ⟨HC.out, (hW.loose_iff c).1 hz, rfl, rfl⟩), rfl⟩
  · obtain ⟨n, A, B, hf⟩ := hW.has hz
    have hlk := hW.link n A c B hf
    have hna := hL.linked_lt hz
    obtain ⟨g, cap, hv, hg⟩ := hL.slice_a hna
    obtain ⟨hx0, hx1, hx2⟩ := cells_are (hL.link_cells hg hna) hlk
    have hnl := hW.lt_lists (c := c) (n := n) (by rw [hf]; simp)
    have hl := hL.hl
    have HF := Lib.hid hf
    have HG := Lib.hid hg
    clear hlk hf hg hv
    go_enter Try.func14, Try.ntmps14
    go_wp2_with (go_at_call 28; refine (linked_ok c w hL hz HG.out).mono ?_; rintro e w' ⟨rfl, rfl⟩)
    go_ret2
    exact ⟨_, 0, rfl, .inr (.inr ⟨HC.out, n, A, B, HF.out, rfl, rfl⟩), rfl⟩

set_option maxHeartbeats 400000 in
theorem next_any {b C L : Nat} {f : Nat → List Nat} {fp : List Nat} (c : Int) (w : World) (h : Chain w b C L f fp) :
    Calls Try.prog 17 #[.pointer (some ⟨b, 0, none⟩), .int .i64 c] w (AskIs w (AskR C f c ofNext)) := by
  obtain ⟨m, na, ne, va, ve, hL, hW, rfl, rfl, rfl⟩ := h
  by_cases hc : Out c m.cells
  · go_enter Try.func17, Try.ntmps17
    go_wp2_with (go_at_call 28; refine (linked_cell c w hL hc).mono ?_; rintro e w' ⟨rfl, rfl⟩)
    go_ret2
    exact ⟨0, 42, rfl, .inl ⟨hc, rfl, rfl⟩, rfl⟩
  obtain ⟨c, rfl, hclt⟩ := Out.no hc
  have HC := Lib.hid hc
  clear hc
  by_cases hz : (m.lk c).list = 0
  · go_enter Try.func17, Try.ntmps17
    go_wp2_with (go_at_call 28; refine (linked_loose c w hL hclt hz).mono ?_; rintro e w' ⟨rfl, rfl⟩)
    go_ret2
    exact ⟨0, 44, rfl, .inr (.inl ⟨HC.out, (hW.loose_iff c).1 hz, rfl, rfl⟩), rfl⟩
  · obtain ⟨n, A, B, hf⟩ := hW.has hz
    have hlk := hW.link n A c B hf
    have hna := hL.linked_lt hz
    obtain ⟨g, cap, hv, hg⟩ := hL.slice_a hna
    obtain ⟨hx0, hx1, hx2⟩ := cells_are (hL.link_cells hg hna) hlk
    have hnl := hW.lt_lists (c := c) (n := n) (by rw [hf]; simp)
    have hl := hL.hl
    have HF := Lib.hid hf
    have HG := Lib.hid hg
    clear hlk hf hg hv
    go_enter Try.func17, Try.ntmps17
    go_wp2_with (go_at_call 28; refine (linked_ok c w hL hz HG.out).mono ?_; rintro e w' ⟨rfl, rfl⟩)
    go_ret2
    exact ⟨_, 0, rfl, .inr (.inr ⟨HC.out, n, A, B, HF.out, rfl, rfl⟩), rfl⟩

set_option maxHeartbeats 400000 in
theorem prev_any {b C L : Nat} {f : Nat → List Nat} {fp : List Nat} (c : Int) (w : World) (h : Chain w b C L f fp) :
    Calls Try.prog 26 #[.pointer (some ⟨b, 0, none⟩), .int .i64 c] w (AskIs w (AskR C f c ofPrev)) := by
  obtain ⟨m, na, ne, va, ve, hL, hW, rfl, rfl, rfl⟩ := h
  by_cases hc : Out c m.cells
  · go_enter Try.func26, Try.ntmps26
    go_wp2_with (go_at_call 28; refine (linked_cell c w hL hc).mono ?_; rintro e w' ⟨rfl, rfl⟩)
    go_ret2
    exact ⟨0, 42, rfl, .inl ⟨hc, rfl, rfl⟩, rfl⟩
  obtain ⟨c, rfl, hclt⟩ := Out.no hc
  have HC := Lib.hid hc
  clear hc
  by_cases hz : (m.lk c).list = 0
  · go_enter Try.func26, Try.ntmps26
    go_wp2_with (go_at_call 28; refine (linked_loose c w hL hclt hz).mono ?_; rintro e w' ⟨rfl, rfl⟩)
    go_ret2
    exact ⟨0, 44, rfl, .inr (.inl ⟨HC.out, (hW.loose_iff c).1 hz, rfl, rfl⟩), rfl⟩
  · obtain ⟨n, A, B, hf⟩ := hW.has hz
    have hlk := hW.link n A c B hf
    have hna := hL.linked_lt hz
    obtain ⟨g, cap, hv, hg⟩ := hL.slice_a hna
    obtain ⟨hx0, hx1, hx2⟩ := cells_are (hL.link_cells hg hna) hlk
    have hnl := hW.lt_lists (c := c) (n := n) (by rw [hf]; simp)
    have hl := hL.hl
    have HF := Lib.hid hf
    have HG := Lib.hid hg
    clear hlk hf hg hv
    go_enter Try.func26, Try.ntmps26
    go_wp2_with (go_at_call 28; refine (linked_ok c w hL hz HG.out).mono ?_; rintro e w' ⟨rfl, rfl⟩)
    go_ret2
    exact ⟨_, 0, rfl, .inr (.inr ⟨HC.out, n, A, B, HF.out, rfl, rfl⟩), rfl⟩

def EndsR (L : Nat) (f : Nat → List Nat) (n x y r : Int) : Prop :=
  (Out n L ∧ x = 0 ∧ y = 0 ∧ r = 41) ∨ (¬ Out n L ∧ x = numOf (f n.toNat).head? ∧ y = numOf (f n.toNat).getLast? ∧ r = 0)
def LenR (L : Nat) (f : Nat → List Nat) (n x r : Int) : Prop :=
  (Out n L ∧ x = 0 ∧ r = 41) ∨ (¬ Out n L ∧ x = (f n.toNat).length ∧ r = 0)
def EndsIs (w : World) (b C L : Nat) (f : Nat → List Nat) (fp : List Nat) (n : Int) (e : Ending) (w' : World) : Prop :=
  ∃ x y r fp', e = .returned (.tuple #[.int .i64 x, .int .i64 y, .int .i64 r]) ∧ Chain w' b C L f fp' ∧ Upd w fp w' fp' ∧ EndsR L f n x y r
def LenIs (w : World) (b C L : Nat) (f : Nat → List Nat) (fp : List Nat) (n : Int) (e : Ending) (w' : World) : Prop :=
  ∃ x r fp', e = .returned (.tuple #[.int .i64 x, .int .i64 r]) ∧ Chain w' b C L f fp' ∧ Upd w fp w' fp' ∧ LenR L f n x r

set_option maxHeartbeats 400000 in
theorem ends_any {b C L : Nat} {f : Nat → List Nat} {fp : List Nat} (n : Int) (w : World) (h : Chain w b C L f fp) :
    Calls Try.prog 13 #[.pointer (some ⟨b, 0, none⟩), .int .i64 n] w (EndsIs w b C L f fp n) := by
  obtain ⟨m, na, ne, va, ve, hL, hW, rfl, rfl, rfl⟩ := h
  by_cases hn : Out n m.lists
  · go_enter Try.func13, Try.ntmps13
    go_wp2_with (go_at_call 27; refine (list_none n w hL hn).mono ?_; rintro e w' ⟨rfl, rfl⟩)
    go_ret3
    exact ⟨0, 0, 41, _, rfl, ⟨m, _, _, _, _, hL, hW, rfl, rfl, rfl⟩, Upd.refl _ _, .inl ⟨hn, rfl, rfl, rfl⟩⟩
  · obtain ⟨n, rfl, hlt⟩ := Out.no hn
    have HN := Lib.hid hn
    clear hn
    go_enter Try.func13, Try.ntmps13
    go_wp2_with (go_at_call 27; refine (list_ok n w hL hlt).mono ?_; rintro e w1 ⟨ne', ve', g, rfl, hlt1, hg1, hL1, hU1⟩; have hx := hL1.end_cells hg1 hlt1; rw [hW.ends n] at hx; obtain ⟨hx0, hx1, hx2⟩ := hx; have HG := Lib.hid hg1; clear hg1)
    go_quiet (fail)
    go_wp2
    go_ret3
    exact ⟨_, _, 0, _, rfl, ⟨m, _, _, _, _, hL1.drewN nq, hW, rfl, rfl, rfl⟩, hU1.drewN nq, .inr ⟨HN.out, rfl, rfl, rfl⟩⟩

set_option maxHeartbeats 400000 in
theorem len_any {b C L : Nat} {f : Nat → List Nat} {fp : List Nat} (n : Int) (w : World) (h : Chain w b C L f fp) :
    Calls Try.prog 25 #[.pointer (some ⟨b, 0, none⟩), .int .i64 n] w (LenIs w b C L f fp n) := by
  obtain ⟨m, na, ne, va, ve, hL, hW, rfl, rfl, rfl⟩ := h
  by_cases hn : Out n m.lists
  · go_enter Try.func25, Try.ntmps25
    go_wp2_with (go_at_call 27; refine (list_none n w hL hn).mono ?_; rintro e w' ⟨rfl, rfl⟩)
    go_ret2
    exact ⟨0, 41, _, rfl, ⟨m, _, _, _, _, hL, hW, rfl, rfl, rfl⟩, Upd.refl _ _, .inl ⟨hn, rfl, rfl⟩⟩
  · obtain ⟨n, rfl, hlt⟩ := Out.no hn
    have HN := Lib.hid hn
    clear hn
    go_enter Try.func25, Try.ntmps25
    go_wp2_with (go_at_call 27; refine (list_ok n w hL hlt).mono ?_; rintro e w1 ⟨ne', ve', g, rfl, hlt1, hg1, hL1, hU1⟩; have hx := hL1.end_cells hg1 hlt1; rw [hW.ends n] at hx; obtain ⟨hx0, hx1, hx2⟩ := hx; have HG := Lib.hid hg1; clear hg1)
    go_ret2
    exact ⟨_, 0, _, rfl, ⟨m, _, _, _, _, hL1, hW, rfl, rfl, rfl⟩, hU1, .inr ⟨HN.out, rfl, rfl⟩⟩

end Go.Proofs.Ytgcemlilfdjjlaa
