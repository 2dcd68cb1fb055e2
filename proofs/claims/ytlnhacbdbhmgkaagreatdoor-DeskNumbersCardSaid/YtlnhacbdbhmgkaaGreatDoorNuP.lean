/- Plain facts of a map whose keys are ints: its size, its least free number, its keys in order. -/
import Derived.Maps.OwnSet
import Derived.Maps.Views
import Derived.Lib.SlKeysI
namespace Go.Proofs.YtlnhacbdbhmgkaaGreatDoor
open Go.Maps

/-- Is the number a key? -/
def hasI (D : DataW Unit) (n : Int) : Bool := Maps.has D (.int .i64 n)

theorem lit_ne {a b : Int} (h : a ≠ b) : (Lit.int .i64 a) ≠ Lit.int .i64 b := fun e => h (by injection e)

theorem hasI_put {D : DataW Unit} (hT : Tidy D) (n : Int) (d : DataW Unit) (m : Int) : hasI (D.put (.int .i64 n) d) m = (decide (m = n) || hasI D m) := by
  unfold hasI
  by_cases h : m = n
  · subst h
    rw [Maps.has_put_same hT.isMap (show WideAt.IsKeyLit (Lit.int .i64 m) from trivial)]
    simp
  · rw [Maps.has_put_other (lit_ne h)]
    simp [h]
theorem hasI_del {D : DataW Unit} (n : Int) (m : Int) : hasI (D.del (.int .i64 n)) m = (!decide (m = n) && hasI D m) := by
  unfold hasI
  by_cases h : m = n
  · subst h
    rw [Maps.has_del_same]
    simp
  · rw [Maps.has_del_other (lit_ne h)]
    simp [h]
theorem size_putI {D : DataW Unit} (hT : Tidy D) {n : Int} (h : hasI D n = false) (d : DataW Unit) : Maps.size (D.put (.int .i64 n) d) = Maps.size D + 1 := by
  have := Maps.size_put (k := Lit.int .i64 n) hT d
  unfold hasI at h
  rw [h] at this
  simpa using this
theorem size_delI {D : DataW Unit} (hT : Tidy D) {n : Int} (h : hasI D n = true) : Maps.size (D.del (.int .i64 n)) + 1 = Maps.size D := by
  have := Maps.size_del (k := Lit.int .i64 n) hT
  unfold hasI at h
  rw [h] at this
  simpa using this

theorem size_ge : ∀ (m : Nat) {D : DataW Unit}, Tidy D → (∀ j : Nat, 1 ≤ j → j ≤ m → hasI D j = true) → m ≤ Maps.size D
  | 0, _, _, _ => Nat.zero_le _
  | m + 1, D, hT, h => by
    have h1 := size_ge m (D := D.del (.int .i64 ((m + 1 : Nat) : Int))) (hT.del _) fun j hj hjm => by
      rw [hasI_del, h j hj (by omega)]
      simp
      omega
    have h2 := size_delI hT (h (m + 1) (by omega) (Nat.le_refl _))
    omega

/-- The keys in order. -/
theorem keys_sorted {D : DataW Unit} (hT : Tidy D) (hk : ∀ es, D = .map es → ∀ p ∈ es, ∃ x, p.1 = Lit.int .i64 x) {ss : List Int} (hp : ss.Perm (intKeys D)) :
    (ss.mergeSort (fun x y => decide (x ≤ y))).length = Maps.size D ∧ (∀ x, x ∈ ss.mergeSort (fun x y => decide (x ≤ y)) ↔ hasI D x = true) ∧ (ss.mergeSort (fun x y => decide (x ≤ y))).Pairwise (· < ·) := by
  obtain ⟨es, rfl, hnd⟩ := hT
  have hk := hk es rfl
  have hperm := (List.mergeSort_perm ss (fun x y => decide (x ≤ y))).trans hp
  have hmem : ∀ x, x ∈ intKeys (DataW.map es) ↔ hasI (.map es) x = true := fun x => by
    simp only [intKeys, List.mem_map, hasI, Maps.has_eq, List.any_eq_true]
    constructor
    · rintro ⟨p, hpe, rfl⟩
      obtain ⟨y, hy⟩ := hk p hpe
      refine ⟨p, hpe, ?_⟩
      rw [hy]
      simp [Go.intOf, Lit.sameKey]
    · rintro ⟨p, hpe, hs⟩
      refine ⟨p, hpe, ?_⟩
      rw [WideAt.sameKey_eq hs]
      rfl
  have hnodup : (intKeys (DataW.map es)).Nodup := by
    simp only [intKeys]
    rw [List.Nodup, List.pairwise_map]
    refine hnd.imp_of_mem fun {p q} hp hq hne e => hne ?_
    obtain ⟨x, hx⟩ := hk p hp
    obtain ⟨y, hy⟩ := hk q hq
    rw [hx, hy] at e ⊢
    simp [Go.intOf] at e
    rw [e]
  refine ⟨?_, fun x => ?_, ?_⟩
  · rw [hperm.length_eq]
    simp [intKeys, Maps.size]
  · rw [hperm.mem_iff, hmem]
  · have h1 := List.pairwise_mergeSort (le := fun x y : Int => decide (x ≤ y)) (fun a b c h1 h2 => by simp at *; omega) (fun a b => by simp; omega) ss
    have h2 : (ss.mergeSort (fun x y => decide (x ≤ y))).Nodup := hperm.nodup_iff.2 hnodup
    rw [List.Nodup] at h2
    exact (h1.and h2).imp fun {a b} h => by
      have := h.1
      have := h.2
      simp at *
      omega

end Go.Proofs.YtlnhacbdbhmgkaaGreatDoor
