/- What the law's condition on the package-level variable gives the walk. -/
import Derived.Test.YtlnhacbdbhmgkaaGreatDoorRows
import Derived.ProofKit
import Derived.LaidMore
import Derived.OpenShut
import Derived.Stop.Joined
namespace Go.Proofs.YtlnhacbdbhmgkaaGreatDoor
open Go.ChangeShapes Go.WideShapes Go.ChangeAt Go.WideMaps Go.WideElems Go.RowKit

theorem gTab : Tryz.prog.globalNamed "math/bits.deBruijn32tab" = some 0 := by kernel_rfl
theorem tTab : (Tryz.prog.globals[0]?).map (·.type) = some 237 := by kernel_rfl
def laidTab {H : Type} : List (String × DataW H) := [("math/bits.deBruijn32tab", Rows.laid_math_bits_deBruijn32tab)]

/-- The door's own heap meets the condition: three closed facts. -/
theorem door_met (os : Os) (args : Array Value) : laidMetH Tryz.prog laidTab ((World.doorLaid Tryz.prog 400 os).forCall (fun _ _ => 0) ⟨#[], args, []⟩).memory :=
  laidMetH_of_parts3 (fuel := 8) (laidMet_of_run' 8 (by kernel_rfl) (by kernel_rfl)) (by kernel_rfl) (by kernel_rfl)

theorem first_cell {n : Nat} {l : List Value} {v : Value} (hn : n = 1) (h : List.take n (List.drop (0 * n) l) = [v]) : (⟨l⟩ : Array Value)[0]? = some v := by
  subst hn
  cases l with
  | nil => simp at h
  | cons c l => simp at h; simp [h]
set_option maxRecDepth 100000 in
/-- What the condition gives the walk: the table's first number. -/
theorem of_laid {W : World} (h : laidMetH Tryz.prog laidTab W) : W.cell? ⟨0, 0, none⟩ = some (.int .u8 0) := by
  rw [MakeChecks.laidMetH_plain _ _ _ (by kernel_rfl)] at h
  obtain ⟨ps, ⟨g1, t1, cs1, f1, p1, q1, hg1, ht1, hv1, hd1, _, _⟩, _, _⟩ := h
  obtain rfl := Option.some.inj (gTab.symm.trans hg1)
  obtain rfl := Option.some.inj (tTab.symm.trans ht1)
  obtain ⟨xs, m1, rfl, hx1, hlen, hn3, hel⟩ := DataW.trod_array Tryz.underlying237 hd1
  have c5 : Tryz.prog.cellsOf 5 = 1 := by kernel_rfl
  have h0 := hel 0 (by decide)
  simp only [Prod.mk.injEq, Rows.laid_math_bits_deBruijn32tab, DataW.agg.injEq] at hx1
  match xs, hx1, h0 with
  | [], hx1, _ => simp at hx1
  | x0 :: xs, hx1, h0 =>
    simp only [List.map_cons, List.cons.injEq] at hx1
    obtain ⟨k, e1, e2, _⟩ := DataW.trod_int Tryz.underlying5 (show DataW.trod _ Tryz.prog W 0 _ false m1 5 _ = some x0 from h0)
    have hk : k = 0 := by rw [e2] at hx1; simpa using hx1.1.1.symm
    subst hk
    have := World.var?_cell hg1 hv1 0
    obtain ⟨l1⟩ := cs1
    exact this.trans (first_cell c5 e1)

end Go.Proofs.YtlnhacbdbhmgkaaGreatDoor
