/- The chain's memory: the model M of the links and the ends, how it lies in memory, and the inner functions linked, loose, list. -/
import Derived.Test.YtgcemlilfdjjlaaTab
import Derived.BigQuiet
import Derived.Deep.QuietTactic
import Derived.StillTailTactics
namespace Go.Proofs.Ytgcemlilfdjjlaa
open Go.RowKit

structure Link where
  list : Int
  prev : Int
  next : Int

structure Ends where
  first : Int
  last : Int
  size : Int

def Link.zero : Link := ⟨0, 0, 0⟩
def Ends.zero : Ends := ⟨-1, -1, 0⟩
def Link.val (l : Link) : Nat → Value
  | 0 => .int .i64 l.list
  | 1 => .int .i64 l.prev
  | _ => .int .i64 l.next
def Ends.val (l : Ends) : Nat → Value
  | 0 => .int .i64 l.first
  | 1 => .int .i64 l.last
  | _ => .int .i64 l.size

/-- The chain as the code keeps it: beyond what has been made lie zeroes. -/
structure M where
  cells : Nat
  lists : Nat
  lk : Nat → Link
  en : Nat → Ends

structure Lay (w : World) (b : Nat) (m : M) (na ne : Nat) (va ve : Value) : Prop where
  blk : w.heap[b]? = some (.cells #[.int .i64 m.cells, va, .int .i64 m.lists, ve] 37 (0, 0))
  tabA : Tab w va 71 3 na (fun i j => (m.lk i).val j)
  tabE : Tab w ve 65 3 ne (fun i j => (m.en i).val j)
  hna : na ≤ m.cells
  hne : ne ≤ m.lists
  hc : m.cells ≤ 1048576
  hl : m.lists ≤ 1048576
  lk0 : ∀ i, na ≤ i → m.lk i = Link.zero
  en0 : ∀ i, ne ≤ i → m.en i = Ends.zero

def feet (b : Nat) (va ve : Value) : List Nat := b :: (va.ownBlock.toList ++ ve.ownBlock.toList)

theorem feet_a {b g : Nat} {va ve : Value} (h : va.ownBlock = some g) : g ∈ feet b va ve := by simp [feet, h]
theorem feet_e {b g : Nat} {va ve : Value} (h : ve.ownBlock = some g) : g ∈ feet b va ve := by simp [feet, h]
theorem feet_b {b : Nat} {va ve : Value} : b ∈ feet b va ve := by simp [feet]

theorem infoLink : (Try.prog.info? 71).map (fun i => (i.zero, i.size, i.bytes)) = some (some (.agg #[.int .i64 0, .int .i64 0, .int .i64 0]), 3, 24) := by kernel_rfl
theorem infoEnds : (Try.prog.info? 65).map (fun i => (i.zero, i.size, i.bytes)) = some (some (.agg #[.int .i64 0, .int .i64 0, .int .i64 0]), 3, 24) := by kernel_rfl

section
variable {w : World} {b : Nat} {m : M} {na ne : Nat} {va ve : Value}

theorem Lay.c0 (h : Lay w b m na ne va ve) : w.cell? ⟨b, 0, none⟩ = some (.int .i64 m.cells) := cell_at h.blk rfl
theorem Lay.c1 (h : Lay w b m na ne va ve) : w.cell? ⟨b, 1, none⟩ = some va := cell_at h.blk rfl
theorem Lay.c2 (h : Lay w b m na ne va ve) : w.cell? ⟨b, 2, none⟩ = some (.int .i64 m.lists) := cell_at h.blk rfl
theorem Lay.c3 (h : Lay w b m na ne va ve) : w.cell? ⟨b, 3, none⟩ = some ve := cell_at h.blk rfl
theorem Lay.f (h : Lay w b m na ne va ve) (k : Nat) : w.frozen? ⟨b, k, none⟩ = false := free_at h.blk k

theorem Lay.upd {w' : World} {S S' : List Nat} (h : Lay w b m na ne va ve) (hu : Upd w S w' S') (hn : ∀ k, k ∈ feet b va ve → k ∉ S) : Lay w' b m na ne va ve :=
  ⟨hu.keeps h.blk (hn _ feet_b), h.tabA.upd hu (fun g hg => hn g (feet_a hg)), h.tabE.upd hu (fun g hg => hn g (feet_e hg)), h.hna, h.hne, h.hc, h.hl, h.lk0, h.en0⟩

theorem Lay.lt (h : Lay w b m na ne va ve) : ∀ k, k ∈ feet b va ve → k < w.heap.size := by
  intro k hk
  simp only [feet, List.mem_cons, List.mem_append, Option.mem_toList] at hk
  rcases hk with rfl | hk | hk
  · exact lt_of_block h.blk
  · exact h.tabA.lt k hk
  · exact h.tabE.lt k hk
end

set_option maxHeartbeats 400000 in
theorem linked_cell {b : Nat} {m : M} {na ne : Nat} {va ve : Value} (n : Int) (w : World) (h : Lay w b m na ne va ve) (hn : n < 0 ∨ (m.cells : Int) ≤ n) :
    Calls Try.prog 28 #[.pointer (some ⟨b, 0, none⟩), .int .i64 n] w fun e w' => e = .returned (.tuple #[.pointer none, .int .i64 42]) ∧ w = w' := by
  have h0 := h.c0
  clear h
  go_enter Try.func28, Try.ntmps28
  go_wp2
  all_goals
    go_ret2
    exact ⟨rfl, rfl⟩

set_option maxHeartbeats 400000 in
theorem linked_loose {b : Nat} {m : M} {na ne : Nat} {va ve : Value} (n : Nat) (w : World) (h : Lay w b m na ne va ve) (hn : n < m.cells) (hz : (m.lk n).list = 0) :
    Calls Try.prog 28 #[.pointer (some ⟨b, 0, none⟩), .int .i64 n] w fun e w' => e = .returned (.tuple #[.pointer none, .int .i64 44]) ∧ w = w' := by
  have h0 := h.c0
  have h1 := h.c1
  have hlt : (n : Int) < m.cells := by omega
  have hc : (m.cells : Int) ≤ 1048576 := by have := h.hc; omega
  by_cases hna : n < na
  · obtain ⟨g, cap, rfl, _, _, hcell, _, _⟩ := h.tabA.block (by omega)
    have hc0 : w.cell? ⟨g, n * 3, none⟩ = some (.int .i64 (m.lk n).list) := hcell n 0 hna (by omega)
    rw [hz] at hc0
    clear h hcell hz
    go_enter Try.func28, Try.ntmps28
    go_wp2
    all_goals
      go_ret2
      exact ⟨rfl, rfl⟩
  · obtain ⟨a, cap, rfl, _⟩ := h.tabA.len
    clear h hz
    go_enter Try.func28, Try.ntmps28
    go_wp2
    all_goals
      go_ret2
      exact ⟨rfl, rfl⟩

theorem Lay.linked_lt {w : World} {b : Nat} {m : M} {na ne : Nat} {va ve : Value} (h : Lay w b m na ne va ve) {n : Nat} (hz : (m.lk n).list ≠ 0) : n < na := by
  rcases Nat.lt_or_ge n na with hlt | hge
  · exact hlt
  · rw [h.lk0 n hge] at hz; exact absurd rfl hz

set_option maxHeartbeats 400000 in
theorem linked_ok {b g : Nat} {m : M} {na ne : Nat} {va ve : Value} (n : Nat) (w : World) (h : Lay w b m na ne va ve) (hz : (m.lk n).list ≠ 0) (hg : va.ownBlock = some g) :
    Calls Try.prog 28 #[.pointer (some ⟨b, 0, none⟩), .int .i64 n] w fun e w' => e = .returned (.tuple #[.pointer (some ⟨g, n * 3, none⟩), .int .i64 0]) ∧ w = w' := by
  have h0 := h.c0
  have h1 := h.c1
  have hna := h.linked_lt hz
  have hn := h.hna
  have hlt : (n : Int) < m.cells := by omega
  have hc : (m.cells : Int) ≤ 1048576 := by have := h.hc; omega
  obtain ⟨g', cap, rfl, hg', _, hcell, _, _⟩ := h.tabA.block (by omega)
  obtain rfl : g' = g := by rw [hg'] at hg; injection hg
  have hc0 : w.cell? ⟨g', n * 3, none⟩ = some (.int .i64 (m.lk n).list) := hcell n 0 hna (by omega)
  have hz' : ((m.lk n).list == 0) = false := by simpa using hz
  clear h hcell hz hg hg'
  go_enter Try.func28, Try.ntmps28
  go_wp2
  all_goals
    go_ret2
    exact ⟨rfl, rfl⟩

end Go.Proofs.Ytgcemlilfdjjlaa
