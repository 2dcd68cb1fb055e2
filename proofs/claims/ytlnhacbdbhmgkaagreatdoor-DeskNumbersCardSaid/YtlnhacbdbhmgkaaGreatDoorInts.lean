/- Slices of int that the call owns: 'Ints w v xs'. -/
import Derived.Test.YtlnhacbdbhmgkaaGreatDoorTab
namespace Go.Proofs.YtlnhacbdbhmgkaaGreatDoor
open Go.RowKit

def Ints (w : World) (v : Value) (xs : List Int) : Prop := Tab w v 3 1 xs.length (fun i _ => .int .i64 (xs.getD i 0))

theorem infoInt : (Tryz.prog.info? 3).map (fun i => (i.zero, i.size, i.bytes)) = some (some (.int .i64 0), 1, 8) := by kernel_rfl

theorem Ints.nil (w : World) : Ints w (.slice none 0 0) [] := Tab.nil _ _ _ _
theorem Ints.upd {w w' : World} {v : Value} {xs : List Int} {S S' : List Nat} (h : Ints w v xs) (hu : Upd w S w' S') (hk : ∀ g, v.ownBlock = some g → g ∉ S) : Ints w' v xs := Tab.upd h hu hk
theorem Ints.len {w : World} {v : Value} {xs : List Int} (h : Ints w v xs) : ∃ a cap, v = .slice a xs.length cap ∧ xs.length ≤ maxLen := Tab.len h
theorem Ints.lt {w : World} {v : Value} {xs : List Int} (h : Ints w v xs) : ∀ g, v.ownBlock = some g → g < w.heap.size := Tab.lt h

theorem Ints.snoc {w : World} {v : Value} {xs : List Int} {x : Int} (h : Tab w v 3 1 (xs.length + 1) (snoc (fun i _ => .int .i64 (xs.getD i 0)) xs.length [.int .i64 x])) : Ints w v (xs ++ [x]) := by
  unfold Ints
  rw [List.length_append, List.length_singleton]
  refine h.congr fun i j hi hj => ?_
  unfold Go.Proofs.YtlnhacbdbhmgkaaGreatDoor.snoc
  by_cases he : i = xs.length
  · subst he
    have : j = 0 := by omega
    subst this
    simp
  · rw [if_neg he]
    simp only [List.getD_eq_getElem?_getD]
    rw [List.getElem?_append_left (by omega)]

/-- The element at an index, as the walk asks for it. -/
theorem Ints.at_ {w : World} {v : Value} {xs : List Int} (h : Ints w v xs) {i : Nat} {x : Int} (hx : xs[i]? = some x) :
    ∃ g cap, v = .slice (some ⟨g, 0, none⟩) xs.length cap ∧ v.ownBlock = some g ∧ w.cell? ⟨g, i, none⟩ = some (.int .i64 x) := by
  have hi : i < xs.length := by
    rcases Nat.lt_or_ge i xs.length with h | h
    · exact h
    · rw [List.getElem?_eq_none h] at hx; cases hx
  obtain ⟨g, cap, hv, hg, _, hc, _⟩ := Tab.block h (by omega)
  refine ⟨g, cap, hv, hg, ?_⟩
  have := hc i 0 hi (by omega)
  rw [Nat.mul_one, Nat.add_zero] at this
  rw [this, List.getD_eq_getElem?_getD, hx]
  rfl

def ofNats (l : List Nat) : List Int := l.map fun x : Nat => (x : Int)
theorem ofNats_length (l : List Nat) : (ofNats l).length = l.length := by simp [ofNats]
theorem ofNats_append (a b : List Nat) : ofNats (a ++ b) = ofNats a ++ ofNats b := by simp [ofNats]

end Go.Proofs.YtlnhacbdbhmgkaaGreatDoor
