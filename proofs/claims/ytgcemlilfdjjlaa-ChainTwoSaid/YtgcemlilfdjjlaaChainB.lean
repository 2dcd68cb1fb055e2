/- The chain's inner functions loose and list: what is not made yet is made. -/
import Derived.Test.YtgcemlilfdjjlaaChainA
namespace Go.Proofs.Ytgcemlilfdjjlaa
open Go.RowKit

theorem feet_mono_a {b B : Nat} {va va' ve : Value} (h : ∀ k, va'.ownBlock = some k → va.ownBlock = some k ∨ B ≤ k) : ∀ k, k ∈ feet b va' ve → k ∈ feet b va ve ∨ B ≤ k := by
  intro k hk
  simp only [feet, List.mem_cons, List.mem_append, Option.mem_toList] at hk ⊢
  rcases hk with rfl | hk | hk
  · exact .inl (.inl rfl)
  · rcases h k hk with h' | h'
    · exact .inl (.inr (.inl h'))
    · exact .inr h'
  · exact .inl (.inr (.inr hk))

theorem feet_mono_e {b B : Nat} {va ve ve' : Value} (h : ∀ k, ve'.ownBlock = some k → ve.ownBlock = some k ∨ B ≤ k) : ∀ k, k ∈ feet b va ve' → k ∈ feet b va ve ∨ B ≤ k := by
  intro k hk
  simp only [feet, List.mem_cons, List.mem_append, Option.mem_toList] at hk ⊢
  rcases hk with rfl | hk | hk
  · exact .inl (.inl rfl)
  · exact .inl (.inr (.inl hk))
  · rcases h k hk with h' | h'
    · exact .inl (.inr (.inr h'))
    · exact .inr h'

/-- The links' slice with an element more: behind append and the store of its value. -/
theorem Lay.more_a {w w1 : World} {b : Nat} {m : M} {na ne : Nat} {va ve va' : Value} (h : Lay w b m na ne va ve) (hlt : na < m.cells) {news : List Value} (hnews : ∀ j, j < 3 → news.getD j undef = Link.zero.val j)
    (ht : Tab w1 va' 71 3 (na + 1) (snoc (fun i j => (m.lk i).val j) na news)) (hg : w.grownBy w1 va.ownBlock) (hk : ∀ k, va'.ownBlock = some k → va.ownBlock = some k ∨ w.heap.size ≤ k) :
    Lay (w1.setCell ⟨b, 1, none⟩ va') b m (na + 1) ne va' ve ∧ Upd w (feet b va ve) (w1.setCell ⟨b, 1, none⟩ va') (feet b va' ve) := by
  have hu : Upd w (feet b va ve) w1 (feet b va' ve) := (((Upd.refl w (feet b va ve)).grown hg (fun k e => .inl (feet_a e))).to (feet_mono_a hk))
  have hb : w1.heap[b]? = some (.cells #[.int .i64 m.cells, va, .int .i64 m.lists, ve] 37 (0, 0)) := (hg.block b (lt_of_block h.blk) (fun e => h.tabA.ne h.blk (by decide) e.symm)).trans h.blk
  have hne : ∀ g, ve.ownBlock = some g → w1.heap[g]? = w.heap[g]? := fun g e => hg.block g (h.tabE.lt g e) (fun e' => h.tabE.ne' h.tabA (by decide) g e e'.symm)
  refine ⟨⟨?_, ?_, ?_, by omega, h.hne, h.hc, h.hl, fun i hi => h.lk0 i (by omega), h.en0⟩, hu.setCell (a := ⟨b, 1, none⟩) (.inl feet_b) _⟩
  · rw [heap_setCell_at _ hb]; rfl
  · refine (ht.congr (c' := fun i j => (m.lk i).val j) fun i j hi hj => ?_).keeps (fun g e => heap_setCell_other _ _ _ _ (fun e' => ht.ne hb (by decide) (by rw [e, e'])))
    unfold snoc
    by_cases hi' : i = na
    · subst hi'; rw [if_pos rfl, hnews j hj, h.lk0 i (Nat.le_refl _)]
    · rw [if_neg hi']
  · exact (h.tabE.keeps hne).keeps (fun g e => heap_setCell_other _ _ _ _ (fun e' => h.tabE.ne h.blk (by decide) (by rw [e, e'])))

theorem Lay.more_e {w w1 : World} {b : Nat} {m : M} {na ne : Nat} {va ve ve' : Value} (h : Lay w b m na ne va ve) (hlt : ne < m.lists) {news : List Value} (hnews : ∀ j, j < 3 → news.getD j undef = Ends.zero.val j)
    (ht : Tab w1 ve' 65 3 (ne + 1) (snoc (fun i j => (m.en i).val j) ne news)) (hg : w.grownBy w1 ve.ownBlock) (hk : ∀ k, ve'.ownBlock = some k → ve.ownBlock = some k ∨ w.heap.size ≤ k) :
    Lay (w1.setCell ⟨b, 3, none⟩ ve') b m na (ne + 1) va ve' ∧ Upd w (feet b va ve) (w1.setCell ⟨b, 3, none⟩ ve') (feet b va ve') := by
  have hu : Upd w (feet b va ve) w1 (feet b va ve') := (((Upd.refl w (feet b va ve)).grown hg (fun k e => .inl (feet_e e))).to (feet_mono_e hk))
  have hb : w1.heap[b]? = some (.cells #[.int .i64 m.cells, va, .int .i64 m.lists, ve] 37 (0, 0)) := (hg.block b (lt_of_block h.blk) (fun e => h.tabE.ne h.blk (by decide) e.symm)).trans h.blk
  have hne : ∀ g, va.ownBlock = some g → w1.heap[g]? = w.heap[g]? := fun g e => hg.block g (h.tabA.lt g e) (fun e' => h.tabA.ne' h.tabE (by decide) g e e'.symm)
  refine ⟨⟨?_, ?_, ?_, h.hna, by omega, h.hc, h.hl, h.lk0, fun i hi => h.en0 i (by omega)⟩, hu.setCell (a := ⟨b, 3, none⟩) (.inl feet_b) _⟩
  · rw [heap_setCell_at _ hb]; rfl
  · exact (h.tabA.keeps hne).keeps (fun g e => heap_setCell_other _ _ _ _ (fun e' => h.tabA.ne h.blk (by decide) (by rw [e, e'])))
  · refine (ht.congr (c' := fun i j => (m.en i).val j) fun i j hi hj => ?_).keeps (fun g e => heap_setCell_other _ _ _ _ (fun e' => ht.ne hb (by decide) (by rw [e, e'])))
    unfold snoc
    by_cases hi' : i = ne
    · subst hi'; rw [if_pos rfl, hnews j hj, h.en0 i (Nat.le_refl _)]
    · rw [if_neg hi']

set_option maxHeartbeats 400000 in
theorem list_none {b : Nat} {m : M} {na ne : Nat} {va ve : Value} (n : Int) (w : World) (h : Lay w b m na ne va ve) (hn : n < 0 ∨ (m.lists : Int) ≤ n) :
    Calls Try.prog 27 #[.pointer (some ⟨b, 0, none⟩), .int .i64 n] w fun e w' => e = .returned (.tuple #[.pointer none, .int .i64 41]) ∧ w = w' := by
  have h0 := h.c2
  clear h
  go_enter Try.func27, Try.ntmps27
  go_wp2
  all_goals
    go_ret2
    exact ⟨rfl, rfl⟩

/-- What behind 'list' holds. -/
def ListIs (w : World) (b : Nat) (m : M) (na : Nat) (va ve : Value) (n : Nat) (e : Ending) (w' : World) : Prop :=
  ∃ ne' ve' g, e = .returned (.tuple #[.pointer (some ⟨g, n * 3, none⟩), .int .i64 0]) ∧ n < ne' ∧ ve'.ownBlock = some g ∧ Lay w' b m na ne' va ve' ∧ Upd w (feet b va ve) w' (feet b va ve')

def ListRel (w : World) (b : Nat) (m : M) (na ne : Nat) (va ve : Value) (wr : World) : Prop :=
  ∃ ne' ve', ne ≤ ne' ∧ Lay wr b m na ne' va ve' ∧ Upd w (feet b va ve) wr (feet b va ve')

set_option maxHeartbeats 800000 in
theorem list_ok {b : Nat} {m : M} {na ne : Nat} {va ve : Value} (n : Nat) (w : World) (h : Lay w b m na ne va ve) (hn : n < m.lists) :
    Calls Try.prog 27 #[.pointer (some ⟨b, 0, none⟩), .int .i64 n] w (ListIs w b m na va ve n) := by
  have h0 := h.c2
  have hlt : (n : Int) < m.lists := by omega
  have hd1 : decide (m.lists ≤ n) = false := by simp; omega
  have hc : (m.lists : Int) ≤ 1048576 := by have := h.hl; omega
  obtain ⟨i0, hi, hz0, hz1, hz2⟩ := info_parts infoEnds
  go_enter Try.func27, Try.ntmps27
  go_wp2
  clear h0
  go_loopw [16] (fun _ wr => ListRel w b m na ne va ve wr) (fun _ wr => n + 1 - lenAt wr ⟨b, 3, none⟩)
  case atStart => exact ⟨ne, ve, Nat.le_refl _, h, Upd.refl _ _⟩
  case round =>
    obtain ⟨ne', ve', hle, hL, hU⟩ := hrel
    have h3 := hL.c3
    have hf3 := hL.f 3
    have hne := hL.hne
    by_cases hlt2 : n < ne'
    · obtain ⟨g, cap, rfl, hg, _, _, _, _⟩ := hL.tabE.block (by omega)
      have H := Lib.hid hg
      clear hg
      go_wp2
      go_ret2
      exact ⟨ne', _, g, rfl, hlt2, H.out, hL, hU⟩
    · obtain ⟨a, cap, rfl, hmax⟩ := hL.tabE.len
      have hb1 : (ne' + 1) * 24 ≤ 140737488355328 := by omega
      have hb2 : ne' + 1 ≤ maxLen := by simp only [maxLen]; omega
      go_wp2_with (at_builtin; go_loud (refine wpList_append_new wr rfl _ _ 35 rfl 65 i0 (.agg #[.int .i64 0, .int .i64 0, .int .i64 0]) 3 24 Try.underlying35 hi hz0 hz1 hz2 rfl _ ne' _ hL.tabE (by rfl) [.int .i64 (-1), .int .i64 (-1), .int .i64 0] (by rfl) rfl rfl hb1 hb2 ?_; rintro v' w1 ht hg hk ⟨g', cap', rfl⟩; have h31 := hg.cell h3 (fun e => hL.tabE.ne hL.blk (by decide) e.symm); have hf31 := (World.frozen?_of_block (hg.block b (lt_of_block hL.blk) (fun e => hL.tabE.ne hL.blk (by decide) e.symm))).trans hf3))
      go_roundw
      case rel =>
        obtain ⟨hL', hU'⟩ := hL.more_e (by omega) (by intro j hj; match j with | 0 => rfl | 1 => rfl | 2 => rfl) ht hg hk
        exact ⟨ne' + 1, _, by omega, hL', hU.trans hU'⟩
      case measure =>
        rw [lenAt_of (World.cell?_setCell_same _ _ _ h31), lenAt_of h3]
        omega

/-- What behind 'loose' holds where the cell is loose. -/
def LooseIs (w : World) (b : Nat) (m : M) (ne : Nat) (va ve : Value) (n : Nat) (e : Ending) (w' : World) : Prop :=
  ∃ na' va' g, e = .returned (.tuple #[.pointer (some ⟨g, n * 3, none⟩), .int .i64 0]) ∧ n < na' ∧ va'.ownBlock = some g ∧ Lay w' b m na' ne va' ve ∧ Upd w (feet b va ve) w' (feet b va' ve)

def LooseRel (w : World) (b : Nat) (m : M) (na ne : Nat) (va ve : Value) (wr : World) : Prop :=
  ∃ na' va', na ≤ na' ∧ Lay wr b m na' ne va' ve ∧ Upd w (feet b va ve) wr (feet b va' ve)

set_option maxHeartbeats 400000 in
theorem loose_cell {b : Nat} {m : M} {na ne : Nat} {va ve : Value} (n : Int) (w : World) (h : Lay w b m na ne va ve) (hn : n < 0 ∨ (m.cells : Int) ≤ n) :
    Calls Try.prog 29 #[.pointer (some ⟨b, 0, none⟩), .int .i64 n] w fun e w' => e = .returned (.tuple #[.pointer none, .int .i64 42]) ∧ w = w' := by
  have h0 := h.c0
  clear h
  go_enter Try.func29, Try.ntmps29
  go_wp2
  all_goals
    go_ret2
    exact ⟨rfl, rfl⟩

set_option maxHeartbeats 400000 in
theorem loose_linked {b : Nat} {m : M} {na ne : Nat} {va ve : Value} (n : Nat) (w : World) (h : Lay w b m na ne va ve) (hz : (m.lk n).list ≠ 0) :
    Calls Try.prog 29 #[.pointer (some ⟨b, 0, none⟩), .int .i64 n] w fun e w' => e = .returned (.tuple #[.pointer none, .int .i64 43]) ∧ w = w' := by
  have h0 := h.c0
  have h1 := h.c1
  have hna := h.linked_lt hz
  have hn := h.hna
  have hlt : (n : Int) < m.cells := by omega
  have hd1 : decide (m.cells ≤ n) = false := by simp; omega
  have hc : (m.cells : Int) ≤ 1048576 := by have := h.hc; omega
  obtain ⟨g', cap, rfl, hg', _, hcell, _, _⟩ := h.tabA.block (by omega)
  have hc0 : w.cell? ⟨g', n * 3, none⟩ = some (.int .i64 (m.lk n).list) := hcell n 0 hna (by omega)
  have hz' : ((m.lk n).list == 0) = false := by simpa using hz
  clear h hcell hz hg'
  go_enter Try.func29, Try.ntmps29
  go_wp2
  go_loop [16] (fun _ => True) (fun _ => 0)
  case atStart => trivial
  case round =>
    go_wp2
    go_ret2
    exact ⟨rfl, rfl⟩

set_option maxHeartbeats 800000 in
theorem loose_ok {b : Nat} {m : M} {na ne : Nat} {va ve : Value} (n : Nat) (w : World) (h : Lay w b m na ne va ve) (hn : n < m.cells) (hz : (m.lk n).list = 0) :
    Calls Try.prog 29 #[.pointer (some ⟨b, 0, none⟩), .int .i64 n] w (LooseIs w b m ne va ve n) := by
  have h0 := h.c0
  have hlt : (n : Int) < m.cells := by omega
  have hd1 : decide (m.cells ≤ n) = false := by simp; omega
  have hc : (m.cells : Int) ≤ 1048576 := by have := h.hc; omega
  obtain ⟨i0, hi, hz0, hz1, hz2⟩ := info_parts infoLink
  have HZ := Lib.hid hz
  clear hz
  go_enter Try.func29, Try.ntmps29
  go_wp2
  clear h0
  go_loopw [16] (fun _ wr => LooseRel w b m na ne va ve wr) (fun _ wr => n + 1 - lenAt wr ⟨b, 1, none⟩)
  case atStart => exact ⟨na, va, Nat.le_refl _, h, Upd.refl _ _⟩
  case round =>
    obtain ⟨na', va', hle, hL, hU⟩ := hrel
    have h3 := hL.c1
    have hf3 := hL.f 1
    have hna := hL.hna
    by_cases hlt2 : n < na'
    · obtain ⟨g, cap, rfl, hg, _, hcell, _, _⟩ := hL.tabA.block (by omega)
      have hc0 : wr.cell? ⟨g, n * 3, none⟩ = some (.int .i64 0) := by rw [← HZ.out]; exact hcell n 0 hlt2 (by omega)
      have H := Lib.hid hg
      clear hg hcell
      go_wp2
      go_ret2
      exact ⟨na', _, g, rfl, hlt2, H.out, hL, hU⟩
    · obtain ⟨a, cap, rfl, hmax⟩ := hL.tabA.len
      have hb1 : (na' + 1) * 24 ≤ 140737488355328 := by omega
      have hb2 : na' + 1 ≤ maxLen := by simp only [maxLen]; omega
      go_wp2_with (at_builtin; refine wpList_append_new wr rfl _ _ 32 rfl 71 i0 (.agg #[.int .i64 0, .int .i64 0, .int .i64 0]) 3 24 Try.underlying32 hi hz0 hz1 hz2 rfl _ na' _ hL.tabA (by rfl) [.int .i64 0, .int .i64 0, .int .i64 0] (by rfl) rfl rfl hb1 hb2 ?_; rintro v' w1 ht hg hk ⟨g', cap', rfl⟩; have h31 := hg.cell h3 (fun e => hL.tabA.ne hL.blk (by decide) e.symm); have hf31 := (World.frozen?_of_block (hg.block b (lt_of_block hL.blk) (fun e => hL.tabA.ne hL.blk (by decide) e.symm))).trans hf3)
      go_roundw
      case rel =>
        obtain ⟨hL', hU'⟩ := hL.more_a (by omega) (by intro j hj; match j with | 0 => rfl | 1 => rfl | 2 => rfl) ht hg hk
        exact ⟨na' + 1, _, by omega, hL', hU.trans hU'⟩
      case measure =>
        rw [lenAt_of (World.cell?_setCell_same _ _ _ h31), lenAt_of h3]
        omega

end Go.Proofs.Ytgcemlilfdjjlaa
