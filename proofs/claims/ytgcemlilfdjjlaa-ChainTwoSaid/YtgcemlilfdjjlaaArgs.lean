/- Slices of int that came in, and slices of the call's own beside a chain. -/
import Derived.Test.YtgcemlilfdjjlaaInts
import Derived.Test.YtgcemlilfdjjlaaLift
namespace Go.Proofs.Ytgcemlilfdjjlaa
open Go.ChangeShapes Go.WideShapes Go.ChangeAt Go.RowKit

/-- A slice of int that is only read. -/
def InInts (w : World) (v : Value) (zs : List Int) : Prop :=
  (v = .slice none 0 0 ∧ zs = []) ∨ ∃ a cap, v = .slice (some a) zs.length cap ∧ zs.length ≤ maxLen ∧ ∀ i x, zs[i]? = some x → w.cell? (a.add i) = some (.int .i64 x)

theorem add_block (a : Addr) (n : Nat) : (a.add n).block = a.block := by unfold Addr.add; split <;> rfl

theorem InInts.upd {w w' : World} {v : Value} {zs : List Int} {S' : List Nat} (h : InInts w v zs) (hu : Upd w [] w' S') : InInts w' v zs := by
  rcases h with h | ⟨a, cap, hv, hm, hc⟩
  · exact .inl h
  · exact .inr ⟨a, cap, hv, hm, fun i x hx => hu.cell (hc i x hx) (by simp)⟩
theorem InInts.len {w : World} {v : Value} {zs : List Int} (h : InInts w v zs) : ∃ a cap, v = .slice a zs.length cap ∧ zs.length ≤ maxLen := by
  rcases h with ⟨rfl, rfl⟩ | ⟨a, cap, hv, hm, _⟩
  · exact ⟨none, 0, rfl, by simp⟩
  · exact ⟨some a, cap, hv, hm⟩
theorem InInts.at_ {w : World} {v : Value} {zs : List Int} (h : InInts w v zs) {i : Nat} (hi : i < zs.length) : ∃ a cap, v = .slice (some a) zs.length cap ∧ w.cell? (a.add i) = some (.int .i64 zs[i]) := by
  rcases h with ⟨rfl, rfl⟩ | ⟨a, cap, hv, _, hc⟩
  · simp at hi
  · exact ⟨a, cap, hv, hc i _ (List.getElem?_eq_getElem hi)⟩

theorem open_inInts {H : Type} {enc : TypeId × Value → H} {W : World} {base : Nat} {v : Value} {d : DataW H} {p : List MemPlace}
    (hval : Value.okWide Try.prog W .any base 38 v) (h : DataW.Trod enc Try.prog W 0 (fun _ => true) true 38 v d p) : ∃ zs, InInts W v zs := by
  obtain ⟨a0, len, cap, rfl⟩ := okWide_slice Try.underlying38 hval
  obtain ⟨fuel, hf⟩ := h
  rcases open_ints Try.underlying38 Try.underlying3 (by kernel_rfl) hf with ⟨hcs, hx⟩ | ⟨a, len', cap', zs, hcs, _, hl, hm, hz, hx, hcell, hwz⟩
  · simp [Value.cells] at hcs
    obtain ⟨rfl, rfl, rfl⟩ := hcs
    exact ⟨[], .inl ⟨rfl, rfl⟩⟩
  · simp [Value.cells] at hcs
    obtain ⟨rfl, rfl, rfl⟩ := hcs
    simp only [if_true] at hz
    have hlen : (zs.take len).length = len := by rw [List.length_take]; omega
    refine ⟨zs.take len, .inr ⟨a, cap, by rw [hlen], by omega, fun i x hi => ?_⟩⟩
    rw [List.getElem?_take] at hi
    split at hi
    · rw [hcell i (by omega), List.getD_eq_getElem?_getD, hi]
      rfl
    · cases hi

/-- A slice of the call's own that stands beside blocks fp that may turn. -/
def Has (w : World) (fp : List Nat) (v : Value) (xs : List Int) : Prop := Ints w v xs ∧ ∀ g, v.ownBlock = some g → g ∉ fp

theorem Has.upd {w w' : World} {fp fp' : List Nat} {v : Value} {xs : List Int} (h : Has w fp v xs) (hu : Upd w fp w' fp') : Has w' fp' v xs :=
  ⟨h.1.upd hu h.2, fun g hg => hu.notIn (h.1.lt g hg) (h.2 g hg)⟩
theorem Has.len {w : World} {fp : List Nat} {v : Value} {xs : List Int} (h : Has w fp v xs) : ∃ a cap, v = .slice a xs.length cap ∧ xs.length ≤ maxLen := h.1.len
theorem Has.at_ {w : World} {fp : List Nat} {v : Value} {xs : List Int} (h : Has w fp v xs) {i : Nat} {x : Int} (hx : xs[i]? = some x) :
    ∃ g cap, v = .slice (some ⟨g, 0, none⟩) xs.length cap ∧ w.cell? ⟨g, i, none⟩ = some (.int .i64 x) := by
  obtain ⟨g, cap, h1, _, h2⟩ := h.1.at_ hx
  exact ⟨g, cap, h1, h2⟩

end Go.Proofs.Ytgcemlilfdjjlaa
