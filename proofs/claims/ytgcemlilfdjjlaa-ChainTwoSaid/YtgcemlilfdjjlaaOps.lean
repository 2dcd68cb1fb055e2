/- The script argument: a slice of Op (three ints each) that is only read. -/
import Derived.Test.YtgcemlilfdjjlaaArgs
import Derived.Deep.Slices
import Derived.Deep.Fields
import Derived.ChangeSame
namespace Go.Proofs.Ytgcemlilfdjjlaa
open Go.ChangeShapes Go.WideShapes Go.ChangeAt Go.RowKit Go.Deep

structure OpRec where
  kind : Int
  a : Int
  b : Int

def InOps (w : World) (v : Value) (zs : List OpRec) : Prop :=
  (v = .slice none 0 0 ∧ zs = []) ∨ ∃ a cap, v = .slice (some a) zs.length cap ∧ zs.length ≤ maxLen ∧ ∀ i o, zs[i]? = some o →
    w.cell? (a.add (i * 3)) = some (.int .i64 o.kind) ∧ w.cell? ((a.add (i * 3)).add 1) = some (.int .i64 o.a) ∧ w.cell? ((a.add (i * 3)).add 2) = some (.int .i64 o.b)

theorem InOps.upd {w w' : World} {v : Value} {zs : List OpRec} {S' : List Nat} (h : InOps w v zs) (hu : Upd w [] w' S') : InOps w' v zs := by
  rcases h with h | ⟨a, cap, hv, hm, hc⟩
  · exact .inl h
  · exact .inr ⟨a, cap, hv, hm, fun i o ho => ⟨hu.cell (hc i o ho).1 (by simp), hu.cell (hc i o ho).2.1 (by simp), hu.cell (hc i o ho).2.2 (by simp)⟩⟩
theorem InOps.len {w : World} {v : Value} {zs : List OpRec} (h : InOps w v zs) : ∃ a cap, v = .slice a zs.length cap ∧ zs.length ≤ maxLen := by
  rcases h with ⟨rfl, rfl⟩ | ⟨a, cap, hv, hm, _⟩
  · exact ⟨none, 0, rfl, by simp⟩
  · exact ⟨some a, cap, hv, hm⟩
theorem InOps.at_ {w : World} {v : Value} {zs : List OpRec} (h : InOps w v zs) {i : Nat} {o : OpRec} (ho : zs[i]? = some o) : ∃ a cap, v = .slice (some a) zs.length cap ∧
    w.cell? (a.add (i * 3)) = some (.int .i64 o.kind) ∧ w.cell? ⟨(a.add (i * 3)).block, (a.add (i * 3)).off + 1, none⟩ = some (.int .i64 o.a) ∧ w.cell? ⟨(a.add (i * 3)).block, (a.add (i * 3)).off + 2, none⟩ = some (.int .i64 o.b) := by
  rcases h with ⟨rfl, rfl⟩ | ⟨a, cap, hv, _, hc⟩
  · simp at ho
  · exact ⟨a, cap, hv, hc i o ho⟩

section
variable {H : Type} {enc : TypeId × Value → H} {P : Program} {w : World} {base : Nat} {spare : Nat → Bool} {held : Bool}
theorem open_slice_fields {t e : TypeId} {fs : Array Field} {fuel : Nat} {cs : List Value} {x : DataW H × List MemPlace} (ht : P.underlying t = some (.slice e)) (he : P.underlying e = some (.struct fs))
    (hone : oneCellFields P fs = true) (hC : P.cellsOf e = fs.size) (h : DataW.trod enc P w base spare held fuel t cs = some x) :
    (cs = [.slice none 0 0] ∧ x = (.nil, [])) ∨
    ∃ (a : Addr) (len cap m : Nat), cs = [.slice (some a) len cap] ∧ len ≤ cap ∧ cap ≤ maxLen ∧ m = (if spare a.block then cap else len) ∧
      ∀ i, i < m → ∃ n, ∀ (j : Nat) (f : Field), fs[j]? = some f → ∃ (v : Value) (y : DataW H × List MemPlace), w.cell? (a.add (i * fs.size + j)) = some v ∧ DataW.trod enc P w base spare held n f.type [v] = some y := by
  rcases open_slice ht h with h0 | ⟨a, len, cap, m, n, D, Pl, hcs, hb, hl, hm, hmm, hx, hi⟩
  · exact .inl h0
  · refine .inr ⟨a, len, cap, m, hcs, hl, hm, hmm, fun i him => ?_⟩
    obtain ⟨cs', hc, ht'⟩ := hi i him
    rw [hC] at hc
    obtain ⟨ys, n', hn', hy, hlen, hyl, hf⟩ := DataW.trod_struct he ht'
    obtain ⟨_, hcl, hat⟩ := World.cells?_some hc
    simp only [Prod.mk.injEq] at hy
    refine ⟨n', fun j f hj => ?_⟩
    obtain ⟨ho, hk⟩ := hone_of hone j f hj
    have hjl : j < fs.size := (Array.getElem?_eq_some_iff.1 hj).1
    have hcell := hat j hjl
    have hv : cs'[j]? = some (cs'[j]'(by omega)) := List.getElem?_eq_getElem (by omega)
    have h1 := hf j f hj
    rw [ho, hk] at h1
    have hone' : (cs'.drop j).take 1 = [cs'[j]'(by omega)] := by
      rw [List.drop_eq_getElem_cons (by omega)]
      rfl
    rw [hone'] at h1
    have hys : ys[j]? = some (ys[j]'(by omega)) := List.getElem?_eq_getElem (by omega)
    refine ⟨_, _, ?_, h1.trans hys⟩
    rw [← Go.Deep.add_add, hcell, hv]
end

theorem open_inOps {H : Type} {enc : TypeId × Value → H} {W : World} {base : Nat} {v : Value} {d : DataW H} {p : List MemPlace}
    (hval : Value.okWide Try.prog W .any base 48 v) (h : DataW.Trod enc Try.prog W 0 (fun _ => true) true 48 v d p) : ∃ zs, InOps W v zs := by
  obtain ⟨a0, len, cap, rfl⟩ := okWide_slice Try.underlying48 hval
  obtain ⟨fuel, hf⟩ := h
  rcases open_slice_fields Try.underlying48 Try.underlying54 (by kernel_rfl) (by kernel_rfl) hf with ⟨hcs, hx⟩ | ⟨a, len', cap', m, hcs, hl, hm, hmm, hi⟩
  · simp [Value.cells] at hcs
    obtain ⟨rfl, rfl, rfl⟩ := hcs
    exact ⟨[], .inl ⟨rfl, rfl⟩⟩
  · simp [Value.cells] at hcs
    obtain ⟨rfl, rfl, rfl⟩ := hcs
    simp only [if_true] at hmm
    have each : ∀ i, i < len → ∃ o : OpRec, W.cell? (a.add (i * 3)) = some (.int .i64 o.kind) ∧ W.cell? ((a.add (i * 3)).add 1) = some (.int .i64 o.a) ∧ W.cell? ((a.add (i * 3)).add 2) = some (.int .i64 o.b) := by
      intro i hil
      obtain ⟨n, hf⟩ := hi i (by omega)
      obtain ⟨v0, y0, c0, t0⟩ := hf 0 _ rfl
      obtain ⟨v1, y1, c1, t1⟩ := hf 1 _ rfl
      obtain ⟨v2, y2, c2, t2⟩ := hf 2 _ rfl
      obtain ⟨n0, e0, _, _⟩ := DataW.trod_int Try.underlying3 t0
      obtain ⟨n1, e1, _, _⟩ := DataW.trod_int Try.underlying3 t1
      obtain ⟨n2, e2, _, _⟩ := DataW.trod_int Try.underlying3 t2
      injection e0 with e0
      injection e1 with e1
      injection e2 with e2
      subst e0 e1 e2
      rw [← Go.Deep.add_add] at c1 c2
      exact ⟨⟨n0, n1, n2⟩, c0, c1, c2⟩
    have hF : ∃ F : Nat → OpRec, ∀ i, i < len → W.cell? (a.add (i * 3)) = some (.int .i64 (F i).kind) ∧ W.cell? ((a.add (i * 3)).add 1) = some (.int .i64 (F i).a) ∧ W.cell? ((a.add (i * 3)).add 2) = some (.int .i64 (F i).b) :=
      ⟨fun i => if h : i < len then Classical.choose (each i h) else ⟨0, 0, 0⟩, fun i hil => by
        simp only [dif_pos hil]
        exact Classical.choose_spec (each i hil)⟩
    obtain ⟨F, hF⟩ := hF
    refine ⟨(List.range len).map F, .inr ⟨a, cap, by simp, by simp; omega, fun i o ho => ?_⟩⟩
    have hil : i < len := by have := (List.getElem?_eq_some_iff.1 ho).1; simpa using this
    rw [List.getElem?_map, List.getElem?_range hil] at ho
    injection ho with ho
    rw [← ho]
    exact hF i hil

end Go.Proofs.Ytgcemlilfdjjlaa
