/- The chain and the document's answer agree: what each tells is one. -/
import Derived.Test.YtgcemlilfdjjlaaRefG
import Derived.Test.YtgcemlilfdjjlaaBoth
namespace Go.Proofs.Ytgcemlilfdjjlaa
open Go.RowKit

theorem mem_cut {l A B : List Nat} {x : Nat} (h : l = A ++ x :: B) : x ∈ l := by rw [h]; simp

section
variable {w : World} {b C L : Nat} {f f1 f2 : Nat → List Nat} {fp : List Nat}

theorem AppendR.det {n c r1 r2 : Int} (h1 : AppendR C L f n c r1 f1) (h2 : AppendR C L f n c r2 f2) : r1 = r2 ∧ f1 = f2 := by
  rcases h1 with ⟨a1, rfl, rfl⟩ | ⟨a1, b1, rfl, rfl⟩ | ⟨a1, b1, ⟨k1, c1⟩, rfl, rfl⟩ | ⟨a1, b1, c1, rfl, rfl⟩ <;>
  rcases h2 with ⟨a2, rfl, rfl⟩ | ⟨a2, b2, rfl, rfl⟩ | ⟨a2, b2, ⟨k2, c2⟩, rfl, rfl⟩ | ⟨a2, b2, c2, rfl, rfl⟩ <;>
  first
    | exact ⟨rfl, rfl⟩
    | exact absurd a1 a2
    | exact absurd a2 a1
    | exact absurd b1 b2
    | exact absurd b2 b1
    | exact absurd c1 (c2 _)
    | exact absurd c2 (c1 _)

theorem cut_det (hC : Chain w b C L f fp) {n m x : Nat} {A B A' B' : List Nat} (h1 : f n = A ++ x :: B) (h2 : f m = A' ++ x :: B') : n = m ∧ A = A' ∧ B = B' := by
  obtain rfl : n = m := hC.in_one (c := x) (by rw [h1]; simp) (by rw [h2]; simp)
  have := nodup_split (by rw [← h1]; exact hC.nodup n) (h1.symm.trans h2)
  exact ⟨rfl, this.1, this.2⟩

theorem BeforeR.det {c k r1 r2 : Int} (hC : Chain w b C L f fp) (h1 : BeforeR C f c k r1 f1) (h2 : BeforeR C f c k r2 f2) : r1 = r2 ∧ f1 = f2 := by
  rcases h1 with ⟨a1, rfl, rfl⟩ | ⟨a1, b1, ⟨k1, c1⟩, rfl, rfl⟩ | ⟨a1, b1, c1, d1, rfl, rfl⟩ | ⟨a1, b1, c1, n1, A1, B1, e1, rfl, rfl⟩ <;>
  rcases h2 with ⟨a2, rfl, rfl⟩ | ⟨a2, b2, ⟨k2, c2⟩, rfl, rfl⟩ | ⟨a2, b2, c2, d2, rfl, rfl⟩ | ⟨a2, b2, c2, n2, A2, B2, e2, rfl, rfl⟩ <;>
  first
    | exact ⟨rfl, rfl⟩
    | exact absurd a1 (fun h => h.elim a2 b2)
    | exact absurd a2 (fun h => h.elim a1 b1)
    | exact absurd c1 (c2 _)
    | exact absurd c2 (c1 _)
    | exact absurd (mem_cut e1) (d2 _)
    | exact absurd (mem_cut e2) (d1 _)
    | (obtain ⟨rfl, rfl, rfl⟩ := cut_det hC e1 e2; exact ⟨rfl, rfl⟩)

theorem RemoveR.det {c r1 r2 : Int} (hC : Chain w b C L f fp) (h1 : RemoveR C f c r1 f1) (h2 : RemoveR C f c r2 f2) : r1 = r2 ∧ f1 = f2 := by
  rcases h1 with ⟨a1, rfl, rfl⟩ | ⟨a1, d1, rfl, rfl⟩ | ⟨a1, n1, A1, B1, e1, rfl, rfl⟩ <;>
  rcases h2 with ⟨a2, rfl, rfl⟩ | ⟨a2, d2, rfl, rfl⟩ | ⟨a2, n2, A2, B2, e2, rfl, rfl⟩ <;>
  first
    | exact ⟨rfl, rfl⟩
    | exact absurd a1 a2
    | exact absurd a2 a1
    | exact absurd (mem_cut e1) (d2 _)
    | exact absurd (mem_cut e2) (d1 _)
    | (obtain ⟨rfl, rfl, rfl⟩ := cut_det hC e1 e2; exact ⟨rfl, rfl⟩)

theorem JoinR.det {n k r1 r2 : Int} (h1 : JoinR L f n k r1 f1) (h2 : JoinR L f n k r2 f2) : r1 = r2 ∧ f1 = f2 := by
  rcases h1 with ⟨a1, rfl, rfl⟩ | ⟨a1, b1, c1, rfl, rfl⟩ | ⟨a1, b1, c1, rfl, rfl⟩ <;>
  rcases h2 with ⟨a2, rfl, rfl⟩ | ⟨a2, b2, c2, rfl, rfl⟩ | ⟨a2, b2, c2, rfl, rfl⟩ <;>
  first
    | exact ⟨rfl, rfl⟩
    | exact absurd a1 (fun h => h.elim a2 b2)
    | exact absurd a2 (fun h => h.elim a1 b1)
    | exact absurd c1 c2
    | exact absurd c2 c1

theorem AskR.det {c x1 x2 r1 r2 : Int} {what : Nat → List Nat → List Nat → Int} (hC : Chain w b C L f fp) (h1 : AskR C f c what x1 r1) (h2 : AskR C f c what x2 r2) : x1 = x2 ∧ r1 = r2 := by
  rcases h1 with ⟨a1, rfl, rfl⟩ | ⟨a1, d1, rfl, rfl⟩ | ⟨a1, n1, A1, B1, e1, rfl, rfl⟩ <;>
  rcases h2 with ⟨a2, rfl, rfl⟩ | ⟨a2, d2, rfl, rfl⟩ | ⟨a2, n2, A2, B2, e2, rfl, rfl⟩ <;>
  first
    | exact ⟨rfl, rfl⟩
    | exact absurd a1 a2
    | exact absurd a2 a1
    | exact absurd (mem_cut e1) (d2 _)
    | exact absurd (mem_cut e2) (d1 _)
    | (obtain ⟨rfl, rfl, rfl⟩ := cut_det hC e1 e2; exact ⟨rfl, rfl⟩)

theorem EndsR.det {n x1 x2 y1 y2 r1 r2 : Int} (h1 : EndsR L f n x1 y1 r1) (h2 : EndsR L f n x2 y2 r2) : x1 = x2 ∧ y1 = y2 ∧ r1 = r2 := by
  rcases h1 with ⟨a1, rfl, rfl, rfl⟩ | ⟨a1, rfl, rfl, rfl⟩ <;> rcases h2 with ⟨a2, rfl, rfl, rfl⟩ | ⟨a2, rfl, rfl, rfl⟩ <;>
  first
    | exact ⟨rfl, rfl, rfl⟩
    | exact absurd a1 a2
    | exact absurd a2 a1

theorem LenR.det {n x1 x2 r1 r2 : Int} (h1 : LenR L f n x1 r1) (h2 : LenR L f n x2 r2) : x1 = x2 ∧ r1 = r2 := by
  rcases h1 with ⟨a1, rfl, rfl⟩ | ⟨a1, rfl, rfl⟩ <;> rcases h2 with ⟨a2, rfl, rfl⟩ | ⟨a2, rfl, rfl⟩ <;>
  first
    | exact ⟨rfl, rfl⟩
    | exact absurd a1 a2
    | exact absurd a2 a1

end

/-- The chain at b and the document's answer at d, of the same lists, apart from one another. -/
structure Pair (w : World) (b d C L : Nat) (f : Nat → List Nat) (fp fq : List Nat) : Prop where
  chain : Chain w b C L f fp
  ref : Ref w d C L f fq
  apart : ∀ x, x ∈ fp → x ∉ fq

section
variable {w w' : World} {b d C L : Nat} {f f' : Nat → List Nat} {fp fq fp' fq' : List Nat}

theorem Pair.fits (h : Pair w b d C L f fp fq) (hC : C ≤ 1048577) (hL : L ≤ 1048577) : Fits L f := ⟨hL, fun n => Nat.le_trans (h.chain.length n) hC⟩

theorem Pair.upd {S S' : List Nat} (h : Pair w b d C L f fp fq) (hu : Upd w S w' S') (h1 : ∀ x, x ∈ fp → x ∉ S) (h2 : ∀ x, x ∈ fq → x ∉ S) : Pair w' b d C L f fp fq :=
  ⟨h.chain.upd hu h1, h.ref.upd hu h2, h.apart⟩

/-- Behind a step of the chain alone: the chain's new lists, the answer as it was. -/
theorem Pair.chained (h : Pair w b d C L f fp fq) (hu : Upd w fp w' fp') : Ref w' d C L f fq ∧ (∀ x, x ∈ fp' → x ∉ fq) :=
  ⟨h.ref.upd hu (fun x hx hp => h.apart x hp hx), fun x hx hq => by
    rcases hu.fresh x hx with h' | h'
    · exact h.apart x h' hq
    · have := h.ref.lt x hq; omega⟩

/-- .. then a step of the answer. -/
theorem Pair.both {w1 : World} (h : Pair w b d C L f fp fq) (hC : Chain w1 b C L f' fp') (hu : Upd w fp w1 fp') (hR : Ref w' d C L f' fq') (hv : Upd w1 fq w' fq') : Pair w' b d C L f' fp' fq' ∧ Upd w (fp ++ fq) w' (fp' ++ fq') := by
  obtain ⟨hR1, hd⟩ := h.chained hu
  refine ⟨⟨hC.upd hv hd, hR, fun x hx hq => ?_⟩, (hu.beside fq).trans ?_⟩
  · rcases hv.fresh x hq with h' | h'
    · exact hd x hx h'
    · have := hC.lt x hx; omega
  · refine (hv.beside fp').weaken (fun x hx => ?_) |>.to (fun x hx => ?_)
    · simpa [or_comm] using hx
    · have : x ∈ fq' ++ fp' := by simpa [or_comm] using hx
      rcases (hv.beside fp').fresh x this with h' | h'
      · exact .inl (by simpa [or_comm] using h')
      · exact .inr h'
end

end Go.Proofs.Ytgcemlilfdjjlaa
