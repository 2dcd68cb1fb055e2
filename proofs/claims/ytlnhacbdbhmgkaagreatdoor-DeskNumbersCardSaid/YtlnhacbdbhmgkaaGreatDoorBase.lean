/- Words for what a call may turn in memory: 'Upd w S w' S'': outside the blocks S nothing that lay in w has turned, and S' holds none but S's blocks and new ones. -/
import Derived.Test.YtlnhacbdbhmgkaaGreatDoorRows
import Derived.WalkKit
import Derived.WalkSpells
import Derived.WalkLawsBesides
import Derived.OneCell
import Derived.Deep.Draws
import Derived.Lib.Hide
namespace Go.Proofs.YtlnhacbdbhmgkaaGreatDoor
open Go.RowKit

structure Upd (w : World) (S : List Nat) (w' : World) (S' : List Nat) : Prop where
  os : w'.os = w.os
  tape : w'.tape = w.tape
  output : w'.output = w.output
  size : w.heap.size ≤ w'.heap.size
  block : ∀ k, k < w.heap.size → k ∉ S → w'.heap[k]? = w.heap[k]?
  fresh : ∀ k, k ∈ S' → k ∈ S ∨ w.heap.size ≤ k

theorem or_no {k n : Nat} {p : Prop} (h : p ∨ n ≤ k) (hn : ¬p) (hk : k < n) : False := h.elim hn (fun h' => by omega)

theorem Upd.refl (w : World) (S : List Nat) : Upd w S w S := ⟨rfl, rfl, rfl, Nat.le_refl _, fun _ _ _ => rfl, fun _ h => .inl h⟩

theorem Upd.trans {w w1 w2 : World} {S S1 S2 : List Nat} (h : Upd w S w1 S1) (k : Upd w1 S1 w2 S2) : Upd w S w2 S2 where
  os := k.os.trans h.os
  tape := k.tape.trans h.tape
  output := k.output.trans h.output
  size := Nat.le_trans h.size k.size
  block := fun i hi hn => (k.block i (Nat.lt_of_lt_of_le hi h.size) (fun hm => or_no (h.fresh i hm) hn hi)).trans (h.block i hi hn)
  fresh := fun i hi => by
    rcases k.fresh i hi with h' | h'
    · exact h.fresh i h'
    · exact .inr (Nat.le_trans h.size h')

theorem Upd.weaken {w w' : World} {S S' T : List Nat} (h : Upd w S w' S') (hs : ∀ k, k ∈ S → k ∈ T) : Upd w T w' S' :=
  ⟨h.os, h.tape, h.output, h.size, fun k hk hn => h.block k hk (fun hm => hn (hs k hm)), fun k hk => (h.fresh k hk).imp (hs k) id⟩

theorem Upd.to {w w' : World} {S S' T : List Nat} (h : Upd w S w' S') (hs : ∀ k, k ∈ T → k ∈ S ∨ w.heap.size ≤ k) : Upd w S w' T :=
  ⟨h.os, h.tape, h.output, h.size, h.block, hs⟩

/-- The same step with other blocks beside it. -/
theorem Upd.beside {w w' : World} {S S' : List Nat} (h : Upd w S w' S') (T : List Nat) : Upd w (S ++ T) w' (S' ++ T) :=
  ⟨h.os, h.tape, h.output, h.size, fun k hk hn => h.block k hk (fun hm => hn (List.mem_append.2 (.inl hm))),
   fun k hk => by
    rcases List.mem_append.1 hk with h' | h'
    · exact (h.fresh k h').imp (fun x => List.mem_append.2 (.inl x)) id
    · exact .inl (List.mem_append.2 (.inr h'))⟩

theorem Upd.drew {w w' : World} {S S' : List Nat} (h : Upd w S w' S') : Upd w S w'.drew S' := ⟨h.os, h.tape, h.output, h.size, h.block, h.fresh⟩
theorem Upd.drewN {w w' : World} {S S' : List Nat} (h : Upd w S w' S') (n : Nat) : Upd w S (w'.drewN n) S' := ⟨h.os, h.tape, h.output, h.size, h.block, h.fresh⟩

theorem Upd.alloc {w w' : World} {S S' : List Nat} (h : Upd w S w' S') (o : Obj) : Upd w S (w'.alloc o) S' :=
  ⟨h.os, h.tape, h.output, Nat.le_trans h.size (by simp), fun k hk hn => (Below.heap_alloc w' o k (Nat.lt_of_lt_of_le hk h.size)).trans (h.block k hk hn), h.fresh⟩

theorem Upd.setCell {w w' : World} {S S' : List Nat} (h : Upd w S w' S') {a : Addr} (ha : a.block ∈ S ∨ w.heap.size ≤ a.block) (v : Value) : Upd w S (w'.setCell a v) S' :=
  ⟨h.os, h.tape, h.output, Nat.le_trans h.size (by simp), fun k hk hn => (heap_setCell_other w' a k v (fun e => by subst e; exact or_no ha hn hk)).trans (h.block k hk hn), h.fresh⟩

theorem Upd.setRow {w w' : World} {S S' : List Nat} (h : Upd w S w' S') {g : Nat} (hg : g ∈ S ∨ w.heap.size ≤ g) (cs : Array Value) : Upd w S (w'.setRow g cs) S' :=
  ⟨h.os, h.tape, h.output, Nat.le_trans h.size (by simp), fun k hk hn => (setRow_other w' g k cs (fun e => by subst e; exact or_no hg hn hk)).trans (h.block k hk hn), h.fresh⟩

theorem Upd.grown {w w' w'' : World} {S S' : List Nat} (h : Upd w S w' S') {row : Option Nat} (hg : w'.grownBy w'' row) (hr : ∀ k, row = some k → k ∈ S ∨ w.heap.size ≤ k) : Upd w S w'' S' :=
  ⟨hg.os.trans h.os, hg.tape.trans h.tape, hg.output.trans h.output, Nat.le_trans h.size hg.size,
   fun k hk hn => (hg.block k (Nat.lt_of_lt_of_le hk h.size) (fun e => or_no (hr k e.symm) hn hk)).trans (h.block k hk hn), h.fresh⟩

theorem Upd.below {w w' : World} {S' : List Nat} (h : Upd w [] w' S') : Below w.heap.size w w' := ⟨h.os, h.tape, h.output, h.size, fun k hk => h.block k hk (by simp)⟩
theorem Upd.of_below {w w' : World} (h : Below w.heap.size w w') : Upd w [] w' [] := ⟨h.os, h.tape, h.output, h.size, fun k hk _ => h.block k hk, by simp⟩

/-- A block that is not among S lies as it lay. -/
theorem Upd.keeps {w w' : World} {S S' : List Nat} (h : Upd w S w' S') {k : Nat} {o : Obj} (hk : w.heap[k]? = some o) (hn : k ∉ S) : w'.heap[k]? = some o :=
  (h.block k (lt_of_block hk) hn).trans hk

theorem Upd.cell {w w' : World} {S S' : List Nat} (h : Upd w S w' S') {a : Addr} {v : Value} (hk : w.cell? a = some v) (hn : a.block ∉ S) : w'.cell? a = some v :=
  (World.cell?_of_block (h.block a.block (block_lt_of_cell hk) hn)).trans hk

theorem Upd.notIn {w w' : World} {S S' : List Nat} (h : Upd w S w' S') {k : Nat} (hk : k < w.heap.size) (hn : k ∉ S) : k ∉ S' :=
  fun hm => or_no (h.fresh k hm) hn hk

/-- Facts about the cells of a block that is known whole. -/
theorem cell_at {w : World} {g j : Nat} {cs : Array Value} {t : TypeId} {v : Value} (hg : w.heap[g]? = some (.cells cs t (0, 0))) (hv : cs[j]? = some v) : w.cell? ⟨g, j, none⟩ = some v :=
  (cell_of_row w g j cs t _ hg).trans hv

theorem free_at {w : World} {g : Nat} {cs : Array Value} {t : TypeId} (hg : w.heap[g]? = some (.cells cs t (0, 0))) (j : Nat) : w.frozen? ⟨g, j, none⟩ = false :=
  frozen_of_row w g j cs t hg

theorem heap_setCell_at {w : World} {g i : Nat} {cs : Array Value} {t : TypeId} (v : Value) (hg : w.heap[g]? = some (.cells cs t (0, 0))) :
    (w.setCell ⟨g, i, none⟩ v).heap[g]? = some (.cells (cs.setIfInBounds i v) t (0, 0)) := by
  rw [heap_setCell_same w g i cs t v hg]

end Go.Proofs.YtlnhacbdbhmgkaaGreatDoor
