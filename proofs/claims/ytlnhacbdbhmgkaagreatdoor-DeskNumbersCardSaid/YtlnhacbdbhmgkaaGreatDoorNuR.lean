/- Slices of int that came in. -/
import Derived.Test.YtlnhacbdbhmgkaaGreatDoorBase
import Derived.Test.YtlnhacbdbhmgkaaGreatDoorLift
namespace Go.Proofs.YtlnhacbdbhmgkaaGreatDoor
open Go.ChangeShapes Go.WideShapes Go.ChangeAt Go.RowKit

/-- A slice of int that is only read. -/
def InInts (w : World) (v : Value) (zs : List Int) : Prop :=
  (v = .slice none 0 0 ∧ zs = []) ∨ ∃ a cap, v = .slice (some a) zs.length cap ∧ zs.length ≤ maxLen ∧ ∀ i x, zs[i]? = some x → w.cell? (a.add i) = some (.int .i64 x)

theorem add_block (a : Addr) (n : Nat) : (a.add n).block = a.block := by unfold Addr.add; split <;> rfl

theorem InInts.upd {w w' : World} {v : Value} {zs : List Int} {S' : List Nat} (h : InInts w v zs) (hu : Upd w [] w' S') : InInts w' v zs := by
  rcases h with h | ⟨a, cap, hv, hm, hc⟩
  · exact .inl h
  · exact .inr ⟨a, cap, hv, hm, fun i x hx => hu.cell (hc i x hx) (by simp)⟩
theorem InInts.len {w : World} {v : Value} {zs : List Int} (h : InInts w v zs) : ∃ a cap, v = .slice a zs.length cap ∧ zs.length ≤ maxLen := by
  rcases h with ⟨rfl, rfl⟩ | ⟨a, cap, hv, hm, _⟩
  · exact ⟨none, 0, rfl, by simp⟩
  · exact ⟨some a, cap, hv, hm⟩
theorem InInts.at_ {w : World} {v : Value} {zs : List Int} (h : InInts w v zs) {i : Nat} (hi : i < zs.length) : ∃ a cap, v = .slice (some a) zs.length cap ∧ w.cell? (a.add i) = some (.int .i64 zs[i]) := by
  rcases h with ⟨rfl, rfl⟩ | ⟨a, cap, hv, _, hc⟩
  · simp at hi
  · exact ⟨a, cap, hv, hc i _ (List.getElem?_eq_getElem hi)⟩

set_option maxRecDepth 100000 in
theorem open_inInts {H : Type} {enc : TypeId × Value → H} {W : World} {base : Nat} {v : Value} {d : DataW H} {p : List MemPlace}
    (hval : Value.okWide Tryz.prog W .any base 22 v) (h : DataW.Trod enc Tryz.prog W 0 (fun _ => true) true 22 v d p) : ∃ zs, InInts W v zs ∧ ∀ x ∈ zs, (Lit.int .i64 x).wf = true := by
  obtain ⟨a0, len, cap, rfl⟩ := okWide_slice Tryz.underlying22 hval
  obtain ⟨fuel, hf⟩ := h
  rcases open_ints Tryz.underlying22 Tryz.underlying3 (by kernel_rfl) hf with ⟨hcs, hx⟩ | ⟨a, len', cap', zs, hcs, _, hl, hm, hz, hx, hcell, hwz⟩
  · simp [Value.cells] at hcs
    obtain ⟨rfl, rfl, rfl⟩ := hcs
    exact ⟨[], .inl ⟨rfl, rfl⟩, fun x h => by cases h⟩
  · simp [Value.cells] at hcs
    obtain ⟨rfl, rfl, rfl⟩ := hcs
    simp only [if_true] at hz
    have hlen : (zs.take len).length = len := by rw [List.length_take]; omega
    refine ⟨zs.take len, .inr ⟨a, cap, by rw [hlen], by omega, fun i x hi => ?_⟩, fun x hx => hwz x (List.mem_of_mem_take hx)⟩
    rw [List.getElem?_take] at hi
    split at hi
    · rw [hcell i (by omega), List.getD_eq_getElem?_getD, hi]
      rfl
    · cases hi

end Go.Proofs.YtlnhacbdbhmgkaaGreatDoor
