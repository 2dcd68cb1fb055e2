/- A desk and a tree in memory: what is held of them between the calls. -/
import Derived.Test.YtlnhacbdbhmgkaaGreatDoorNuP
import Derived.Test.YtlnhacbdbhmgkaaGreatDoorEvO
import Derived.Test.YtlnhacbdbhmgkaaGreatDoorLift
namespace Go.Proofs.YtlnhacbdbhmgkaaGreatDoor
open Go.RowKit Go.Maps

/-! A memory of a calculation stays where its blocks stay. -/
theorem WRel.agree {P : Program} {ρ : Ren} {σ : AS} {w w' : World} (h : WRel P ρ σ w) (hk : ∀ r l, ρ r = some l → w'.heap[l.b]? = w.heap[l.b]?) : WRel P ρ σ w' := by
  refine ⟨fun r o l ho hl => ?_, h.dom, fun r l hl => ?_, h.inj, h.glob, h.small⟩
  · obtain ⟨o', h1, h2⟩ := h.obj r o l ho hl
    exact ⟨o', (hk r l hl).trans h1, h2⟩
  · have := h.img r l hl
    have h2 := hk r l hl
    rw [Array.getElem?_eq_getElem this] at h2
    exact (Array.getElem?_eq_some_iff.1 h2).1

/-- The blocks of a tree: those from lo up to hi; and the package-level variable. -/
def TreeIn (ρ : Ren) (lo hi : Nat) : Prop := ∀ r l, ρ r = some l → (r < GLOBS ∧ l.b = 0) ∨ (GLOBS ≤ r ∧ lo ≤ l.b ∧ l.b < hi)
/-- The tree that the calculation σ holds under the number n lies in memory at t. -/
def TreeAt (σ : AS) (n : Nat) (w : World) (lo hi : Nat) (t : Value) : Prop :=
  ∃ ρ, WRel Tryz.prog ρ σ w ∧ TreeIn ρ lo hi ∧ 0 < lo ∧ ∃ l, ρ n = some l ∧ t = .pointer (some ⟨l.b, 0, none⟩)

theorem TreeAt.agree {σ : AS} {n : Nat} {w w' : World} {lo hi : Nat} {t : Value} (h : TreeAt σ n w lo hi t) (hk : ∀ b, b = 0 ∨ lo ≤ b ∧ b < hi → b < w.heap.size → w'.heap[b]? = w.heap[b]?) : TreeAt σ n w' lo hi t := by
  obtain ⟨ρ, h1, h2, h3, h4⟩ := h
  refine ⟨ρ, h1.agree fun r l hl => hk l.b ?_ (h1.img r l hl), h2, h3, h4⟩
  rcases h2 r l hl with ⟨_, h⟩ | ⟨_, h⟩
  · exact .inl h
  · exact .inr h
/-- What does not turn the tree's blocks leaves it. -/
theorem TreeAt.upd {σ : AS} {n : Nat} {w w' : World} {lo hi : Nat} {t : Value} {S S' : List Nat} (h : TreeAt σ n w lo hi t) (hU : Upd w S w' S') (hS : ∀ b, b ∈ S → b ≠ 0 ∧ (b < lo ∨ hi ≤ b)) : TreeAt σ n w' lo hi t :=
  h.agree fun b hb hlt => hU.block b hlt fun hm => by
    have := hS b hm
    omega
theorem TreeAt.cell0 {σ : AS} {n : Nat} {w : World} {lo hi : Nat} {t : Value} (h : TreeAt σ n w lo hi t) (hg : ∃ c e f, σ.get 0 = some (.cells c e f) ∧ c[0]? = some (.int .u8 0)) : w.cell? ⟨0, 0, none⟩ = some (.int .u8 0) := by
  obtain ⟨ρ, h1, h2, h3, h4⟩ := h
  obtain ⟨c, e, f, hc, h0⟩ := hg
  obtain ⟨l, hl, hb⟩ := h1.glob 0 (by decide)
  obtain ⟨c', e', f', hc', hs⟩ := h1.seen hc hl
  obtain ⟨v', hv', hR⟩ := hs 0 _ h0
  cases hR
  rw [hb] at hc'
  unfold World.cell?
  simp only [hc']
  simpa using hv'

/-! Open cursors. -/
structure IsCur (w : World) (hi C : Nat) : Prop where
  lo : hi ≤ C
  closed : ∃ b, w.cell? ⟨C, 6, none⟩ = some (.bool b)
  free : w.frozen? ⟨C, 6, none⟩ = false
  told : ∃ n, w.cell? ⟨C, 8, none⟩ = some (.int .i64 n)
def IsOpen (w : World) (hi : Nat) (t : Value) (O : Nat) : Prop :=
  ∃ C v s k, hi ≤ O ∧ w.heap[O]? = some (.cells #[.pointer (some ⟨C, 0, none⟩), .string v, t, .int .i64 s, .int .i64 k] 94 (0, 0)) ∧ IsCur w hi C

theorem frozen_agree {w w' : World} {b o : Nat} (h : w'.heap[b]? = w.heap[b]?) : w'.frozen? ⟨b, o, none⟩ = w.frozen? ⟨b, o, none⟩ := by
  unfold World.frozen?
  simp only [h]
theorem cell_agree {w w' : World} {b o : Nat} (h : w'.heap[b]? = w.heap[b]?) : w'.cell? ⟨b, o, none⟩ = w.cell? ⟨b, o, none⟩ := by
  unfold World.cell?
  simp only [h]
theorem lt_of_cell {w : World} {b o : Nat} {v : Value} (h : w.cell? ⟨b, o, none⟩ = some v) : b < w.heap.size := by
  unfold World.cell? at h
  split at h
  · rename_i hb
    exact (Array.getElem?_eq_some_iff.1 hb).1
  · cases h

theorem IsCur.agree {w w' : World} {hi C : Nat} (h : IsCur w hi C) (hk : ∀ b, hi ≤ b → b < w.heap.size → w'.heap[b]? = w.heap[b]?) : IsCur w' hi C := by
  obtain ⟨b, hb⟩ := h.closed
  have hc := hk C h.lo (lt_of_cell hb)
  exact ⟨h.lo, by rw [cell_agree hc]; exact h.closed, by rw [frozen_agree hc]; exact h.free, by rw [cell_agree hc]; exact h.told⟩
theorem IsCur.mono {w : World} {hi hi' C : Nat} (h : IsCur w hi C) (hle : hi' ≤ hi) : IsCur w hi' C := ⟨Nat.le_trans hle h.lo, h.closed, h.free, h.told⟩
theorem IsOpen.agree {w w' : World} {hi O : Nat} {t : Value} (h : IsOpen w hi t O) (hk : ∀ b, hi ≤ b → b < w.heap.size → w'.heap[b]? = w.heap[b]?) : IsOpen w' hi t O := by
  obtain ⟨C, v, s, k, h1, h2, h3⟩ := h
  exact ⟨C, v, s, k, h1, (hk O h1 (Array.getElem?_eq_some_iff.1 h2).1).trans h2, h3.agree hk⟩

/-! The map of the open cursors. -/
def refEl : Value → Option (DataW Unit × List MemPlace)
  | .pointer (some ⟨b, 0, none⟩) => some (.lit (.int .u64 b), [])
  | .pointer none => some (.nil, [])
  | _ => none
theorem refEl_ptr {v : Value} {O : Nat} {ps : List MemPlace} (h : refEl v = some (.lit (.int .u64 (O : Int)), ps)) : v = .pointer (some ⟨O, 0, none⟩) := by
  unfold refEl at h
  split at h
  · simp only [Option.some.injEq, Prod.mk.injEq, DataW.lit.injEq, Lit.int.injEq, true_and] at h
    rw [Int.ofNat_inj.1 h.1]
  · simp at h
  · cases h

/-- The numbers that are open are told by D; each has a cursor of the tree t. -/
structure OpensAt (w : World) (M n hi : Nat) (t : Value) (D : DataW Unit) : Prop where
  own : w.ownsMap Tryz.prog 3 refEl M n D
  els : ∀ id, hasI D id = true → ∃ O : Nat, D.atKey (.int .i64 id) .nil = .lit (.int .u64 (O : Int)) ∧ IsOpen w hi t O

theorem int_keys : Keyed Tryz.prog 3 := Maps.int_keyed Tryz.underlying3

theorem OpensAt.tidy {w : World} {M n hi : Nat} {t : Value} {D : DataW Unit} (h : OpensAt w M n hi t D) : Maps.Tidy D := h.own.tidy int_keys
theorem OpensAt.agree {w w' : World} {M n hi : Nat} {t : Value} {D : DataW Unit} (h : OpensAt w M n hi t D) (hM : w'.heap[M]? = w.heap[M]?) (hk : ∀ b, hi ≤ b → b < w.heap.size → w'.heap[b]? = w.heap[b]?) : OpensAt w' M n hi t D := by
  refine ⟨?_, fun id hid => ?_⟩
  · obtain ⟨es, clock, hb, F, hs, hD⟩ := h.own
    exact ⟨es, clock, hM.trans hb, F, hs, hD⟩
  · obtain ⟨O, h1, h2⟩ := h.els id hid
    exact ⟨O, h1, h2.agree hk⟩

/-- What is found under a number. -/
theorem OpensAt.look {w : World} {M n hi : Nat} {t : Value} {D : DataW Unit} (h : OpensAt w M n hi t D) (id : Int) (hw : (Lit.int .i64 id).wf = true) :
    (hasI D id = false ∧ (Instr.lookup 47 (.map (some M)) (.int .i64 id) false).run Tryz.prog w = .ok (.pointer none) w) ∨
    (hasI D id = true ∧ ∃ O : Nat, (Instr.lookup 47 (.map (some M)) (.int .i64 id) false).run Tryz.prog w = .ok (.pointer (some ⟨O, 0, none⟩)) w ∧ D.atKey (.int .i64 id) .nil = .lit (.int .u64 (O : Int)) ∧ IsOpen w hi t O) := by
  have hz : (zeroValue 89).run Tryz.prog w = .ok (.pointer none) w := Tryz.zeroValue89 w
  obtain ⟨v, ps, hrun, hR⟩ := h.own.lookup int_keys Tryz.underlying47 hz (zd := .nil) (zp := []) rfl (Maps.keyOf_int_mk Tryz.underlying3 hw)
  cases hh : hasI D id with
  | false =>
    refine .inl ⟨rfl, ?_⟩
    rw [Maps.atKey_of_not_has hh] at hR
    unfold refEl at hR
    split at hR
    · simp at hR
    · exact hrun
    · cases hR
  | true =>
    refine .inr ⟨rfl, ?_⟩
    obtain ⟨O, h1, h2⟩ := h.els id hh
    rw [h1] at hR
    rw [refEl_ptr hR] at hrun
    exact ⟨O, hrun, h1, h2⟩

/-- The desk. -/
structure DeskAt (w : World) (Dk M n lo hi : Nat) (most : Int) (t : Value) (D : DataW Unit) : Prop where
  desk : w.heap[Dk]? = some (.cells #[.int .i64 most, .int .i64 0, .map (some M)] 49 (0, 0))
  opens : OpensAt w M n hi t D
  low : 0 < M ∧ 0 < Dk ∧ M < lo ∧ Dk < lo ∧ lo ≤ hi ∧ M ≠ Dk

theorem DeskAt.agree {w w' : World} {Dk M n lo hi : Nat} {most : Int} {t : Value} {D : DataW Unit} (h : DeskAt w Dk M n lo hi most t D) (hD : w'.heap[Dk]? = w.heap[Dk]?) (hM : w'.heap[M]? = w.heap[M]?)
    (hk : ∀ b, hi ≤ b → b < w.heap.size → w'.heap[b]? = w.heap[b]?) : DeskAt w' Dk M n lo hi most t D := ⟨hD.trans h.desk, h.opens.agree hM hk, h.low⟩

end Go.Proofs.YtlnhacbdbhmgkaaGreatDoor
