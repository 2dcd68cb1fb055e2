/- The laws of Tab inside a fence; a slice that make has made. -/
import Derived.Test.YtlnhacbdbhmgkaaGreatDoorInts
import Derived.RangeFuncNested
import Derived.RangeFuncBound
import Derived.RangeFuncCalls
import Derived.RangeFuncLeaves
import Derived.Shelf.Abstract
import Derived.Shelf.RegionOpen
import Derived.OwnWalkIn
import Derived.TacticsInMore
import Derived.LoopNIn
import Derived.LoopIn
namespace Go.Proofs.YtlnhacbdbhmgkaaGreatDoor
open Go.RowKit

theorem Tab.of_own {w : World} {base e sz n : Nat} {v : Value} {xs : List Value} (h : w.ownsRow base e sz v n xs) : Tab w v e sz n (fun i j => xs.getD (i * sz + j) undef) := by
  rcases h.2 with h' | ⟨g, cap, cur, hv, _, hg, hn, hm, hs, ht⟩
  · exact .inl h'
  · refine .inr ⟨g, cap, cur, hv, hg, hn, hm, hs, fun i j hi hj => ?_⟩
    have hlt : i * sz + j < n * sz := by
      calc i * sz + j < i * sz + sz := by omega
        _ = (i + 1) * sz := by rw [Nat.succ_mul]
        _ ≤ n * sz := Nat.mul_le_mul_right _ (by omega)
    have hlen := h.1
    have : xs[i * sz + j]? = cur[i * sz + j]? := by rw [← ht, List.getElem?_take, if_pos hlt, Array.getElem?_toList]
    rw [← this]
    show xs[i * sz + j]? = some (xs.getD (i * sz + j) undef)
    rw [List.getD_eq_getElem?_getD, List.getElem?_eq_getElem (by omega)]
    rfl

theorem Ints.of_make {w : World} {base cap g : Nat} (h : w.ownsRow base 3 1 (.slice (some ⟨g, 0, none⟩) 0 cap) 0 []) : Ints w (.slice (some ⟨g, 0, none⟩) 0 cap) [] :=
  (Tab.of_own h).congr (fun i j hi => by omega)

theorem wpListIn_append_new {F : Fence} {k : Nat} {P : Program} (w : World) {ops : Array Oper} {rest : List Oper} {o : Oper} {a : Act} {Q : Exit → Act → World → Prop} (hgd : o.guard = none) (s x : Operand) (t : TypeId)
    (ho : o.op = .call { callee := .builtin .append, args := #[s, x], argTypes := #[t, t] })
    (e : TypeId) (i : TypeInfo) (z : Value) (size bytes : Nat) (ht : P.underlying t = some (.slice e)) (hi : P.info? e = some i) (hz : i.zero = some z)
    (hsize : i.size = size) (hby : i.bytes = bytes) (hzs : z.cells.size = size)
    (v : Value) (n : Nat) (cf : Nat → Nat → Value) (htab : Tab w v e size n cf) (hs : a.eval s = v)
    (news : List Value) (hx : a.eval x = .slice (some ⟨w.heap.size, 0, none⟩) 1 1) (hl : news.length = size) (h1 : news.all Value.oneCell' = true)
    (hbytes : (n + 1) * bytes ≤ 140737488355328) (h63 : n + 1 ≤ maxLen)
    (h : ∀ v' w', Tab w' v' e size (n + 1) (snoc cf n news) → w.grownBy w' v.ownBlock → (∀ k, v'.ownBlock = some k → v.ownBlock = some k ∨ w.heap.size ≤ k) → (∃ g cap, v' = .slice (some ⟨g, 0, none⟩) (n + 1) cap) →
      wpListIn F k P ops Q rest (a.put o.dst v') w') : wpListIn F k P ops Q (o :: rest) a (w.alloc (.cells news.toArray e)) := by
  refine wpListIn_plain hgd fun K hK => ?_
  obtain ⟨v', w', hr, h2, h3, h4, h5⟩ := run_append_tab (P := P) (w.alloc (.cells news.toArray e)) t o.type e i z size bytes ht hi hz hsize hby hzs v n cf (htab.keeps fun g e => Below.heap_alloc _ _ _ (htab.lt g e)) ⟨w.heap.size, 0, none⟩ 1 news hl
    (new_cells w news e) (fun u hu => List.all_eq_true.1 h1 u hu) hbytes h63
  unfold Oper.wpIn
  refine ⟨?_, ?_⟩
  · simp [Oper.about, ho, resolve, Target.leads, Sem.run_pure]
  · rw [Oper.semAt_plain F _ _ (by rw [ho]; intro c hc'; cases hc')]
    simp [execOp, ho, resolve, invoke, builtin, hs, hx, hr, Result.andThen]
    exact hK _ _ (h v' w' h2 (grownBy_of_alloc h3) (fun k hk => (h4 k hk).imp id (fun h => by simp at h; omega)) h5)

end Go.Proofs.YtlnhacbdbhmgkaaGreatDoor
