/- Results that lie in a cell; other small laws. -/
import Derived.Test.YtlnhacbdbhmgkaaGreatDoorElem
namespace Go.Proofs.YtlnhacbdbhmgkaaGreatDoor
open Go.RowKit

theorem resA {P : Program} {fn : Func} {tmps : Array Value} {w : World} {p u : Tmp} {T : TypeId} {A : Addr} {v v2 : Value} (h : fn.results = #[.cell p T, .tmp u]) (hp : tmps.getD p undef = .pointer (some A))
    (h2 : tmps.getD u undef = v2) (hv : (loadVar T A).run P w = .ok v w) : (results fn tmps).run P w = .ok (.tuple #[v, v2]) w := by
  subst h2
  exact results_cell1 h hp hv
theorem resB {P : Program} {fn : Func} {tmps : Array Value} {w : World} {p u u2 : Tmp} {T : TypeId} {A : Addr} {v v2 v3 : Value} (h : fn.results = #[.cell p T, .tmp u, .tmp u2]) (hp : tmps.getD p undef = .pointer (some A))
    (h2 : tmps.getD u undef = v2) (h3 : tmps.getD u2 undef = v3) (hv : (loadVar T A).run P w = .ok v w) : (results fn tmps).run P w = .ok (.tuple #[v, v2, v3]) w := by
  subst h2
  subst h3
  exact results_cell2 h hp hv

end Go.Proofs.YtlnhacbdbhmgkaaGreatDoor
