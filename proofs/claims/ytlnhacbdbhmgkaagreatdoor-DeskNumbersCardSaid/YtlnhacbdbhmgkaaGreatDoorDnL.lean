/- slices.Sorted(maps.Keys(m)) of an empty map. -/
import Derived.Test.YtlnhacbdbhmgkaaGreatDoorRange
import Derived.Test.YtlnhacbdbhmgkaaGreatDoorLift
import Derived.Laws.IdiomRangeMap
import Derived.LoopNIn
namespace Go.Proofs.YtlnhacbdbhmgkaaGreatDoor
open Go.RowKit

attribute [local go_sem] Oper.semAt_some

theorem run_next_empty (w : World) (ty : TypeId) (M k I : Nat) (hM : w.heap[M]? = some (.map #[] k)) (hI : w.heap[I]? = some (.mapIter (some M) k #[] k)) :
    (Instr.next (.pointer (some ⟨I, 0, none⟩)) false ty).run Tryz.prog w = .ok (.tuple #[.bool false]) w := by
  simp [Instr.next, Go.getObj, Sem.run, hI, hM, Go.choose, Question.forced]

set_option maxHeartbeats 1000000 in
theorem keys_any (M : Nat) (w : World) : Calls Tryz.prog 24 #[.map (some M)] w fun e w' =>
    e = .returned (.func (.func 61) #[] #[.pointer (some ⟨w.heap.size, 0, none⟩)]) ∧ w' = w.alloc (.cells #[.map (some M)] 47) := by
  go_enter Tryz.func24, Tryz.ntmps24
  go_wp2
  go_ret
  exact ⟨rfl, rfl⟩

def KeysStart (W : World) (g : Nat) (W1 : World) : Prop := Upd W [] W1 [] ∧ W.heap.size ≤ g

set_option maxRecDepth 100000 in
set_option maxHeartbeats 2000000 in
theorem keys_spec (M B k : Nat) (W : World) (hM : W.heap[M]? = some (.map #[] k)) (hB : W.heap[B]? = some (.cells #[.map (some M)] 47 (0, 0))) :
    IterSpec Tryz.prog 61 #[.pointer (some ⟨B, 0, none⟩)] (fun c : Nat => #[.int .i64 c]) [] KeysStart W := by
  intro l J Jx h0 _
  have c0 : W.cell? ⟨B, 0, none⟩ = some (.map (some M)) := cell_of_one hB
  have hJ := h0 W.heap.size (W.alloc (.mapIter (some M) k #[] k)) ⟨(Upd.refl W []).alloc _, Nat.le_refl _⟩
  have HJ := Lib.hid hJ
  clear hJ h0
  have hrg := run_range_map (P := Tryz.prog) W 47 3 89 M #[] k Tryz.underlying47 hM
  have hM2 : (W.alloc (.mapIter (some M) k #[] k)).heap[M]? = some (.map #[] k) := ((Upd.refl W []).alloc _).keeps hM (fun h => by cases h)
  have hI2 : (W.alloc (.mapIter (some M) k #[] k)).heap[W.heap.size]? = some (.mapIter (some M) k #[] k) := World.alloc_heap_new W _
  have hnx : ∀ ty, (Instr.next (.pointer (some ⟨W.heap.size, 0, none⟩)) false ty).run Tryz.prog (W.alloc (.mapIter (some M) k #[] k)) = .ok (.tuple #[.bool false]) (W.alloc (.mapIter (some M) k #[] k)) := fun ty => run_next_empty _ ty M k W.heap.size hM2 hI2
  refine callsIn_of_wp Tryz.func61 rfl trivial ?_ rfl
  simp only [Tryz.ntmps61, List.size_toArray, List.length_cons, List.length_nil, Nat.reduceAdd, Nat.reduceSub, Array.replicate_succ, Array.replicate_zero, List.push_toArray, List.append_toArray, List.nil_append, List.cons_append]
  gi_wp2
  refine wpIn_loop_rounds 1 ?_
  rw [roundsIn_succ]
  gi_wp2
  refine bodyPost_end (results_none rfl _ _ _) rfl ?_
  exact ⟨⟨_, rfl⟩, _, .inl HJ.out⟩

set_option maxRecDepth 100000 in
set_option maxHeartbeats 2000000 in
theorem append_seq (M B k : Nat) (w : World) (hM : w.heap[M]? = some (.map #[] k)) (hB : w.heap[B]? = some (.cells #[.map (some M)] 47 (0, 0))) :
    Calls Tryz.prog 88 #[.slice none 0 0, .func (.func 61) #[] #[.pointer (some ⟨B, 0, none⟩)]] w fun e w' => e = .returned (.slice none 0 0) ∧ Upd w [] w' [] := by
  have hu0 : Upd w [] (w.alloc (.cells #[.slice none 0 0] 22)) [] := (Upd.refl w []).alloc _
  have hM1 := hu0.keeps hM (fun h => by cases h)
  have hB1 := hu0.keeps hB (fun h => by cases h)
  have hs1 : (w.alloc (.cells #[.slice none 0 0] 22)).cell? ⟨w.heap.size, 0, none⟩ = some (.slice none 0 0) := cell_of_one (World.alloc_heap_new w _)
  have hz1 : (w.alloc (.cells #[.slice none 0 0] 22)).heap.size = w.heap.size + 1 := by simp
  refine (callsIn_wide (n := 0)).1 ?_
  refine callsIn_of_wp_marks Tryz.func88 rfl trivial ?_ rfl
  simp only [Tryz.ntmps88, List.size_toArray, List.length_cons, List.length_nil, Nat.reduceAdd, Nat.reduceSub, Array.replicate_succ, Array.replicate_zero, List.push_toArray, List.append_toArray, List.nil_append, List.cons_append]
  gi_wp2_with fail
  generalize hw1 : w.alloc (.cells #[.slice none 0 0] 22) = w1 at *
  refine range_law rfl (enters_of Tryz.func61 (by kernel_rfl) rfl) (fun _ => rfl)
    (fun fn => keys_spec M B k _ (entered_upd.keeps hM1 (fun h => by cases h)) (entered_upd.keeps hB1 (fun h => by cases h)))
    (fun fn g W1 hS => ⟨hS.1.block _ (by rw [entered_size]; omega) (fun h => by cases h), hS.1.block _ (by rw [entered_size]; omega) (fun h => by cases h)⟩)
    (fun g _ W => Upd w1 [] W [] ∧ w1.heap.size + 2 ≤ g) (fun _ _ _ _ => False)
    (fun g _ W ⟨_, h⟩ => by omega) ?stab (fun _ _ _ _ _ h => h) ?start ?a1 ?assign ?body ?done (fun _ _ _ _ _ h => h.elim)
  case stab =>
    rintro g i W o ⟨hU, hB⟩
    exact ⟨hU.putObj (.inr (by omega)) o, hB⟩
  case start =>
    rintro fn g W1 ⟨hU, hg⟩
    exact ⟨entered_upd.trans hU, by rw [entered_size] at hg; exact hg⟩
  case assign =>
    intro x W K hK
    gi_wp2
    exact hK
  case body =>
    rintro g i c W _ hx
    cases hx
  case done =>
    rintro g W ⟨hU, hB⟩ hK
    have hs2 := hU.cell hs1 (fun h => by cases h)
    gi_wp2
    refine ⟨by simp, .inl ⟨_, _, rfl, run_takeDeferred hK, ?_⟩⟩
    refine ⟨_, results_tmp rfl _ _ _, ?_⟩
    exact ⟨rfl, (hu0.trans hU).putObj (.inr (by omega)) _⟩

theorem collect_empty (M B k : Nat) (w : World) (hM : w.heap[M]? = some (.map #[] k)) (hB : w.heap[B]? = some (.cells #[.map (some M)] 47 (0, 0))) :
    Calls Tryz.prog 59 #[.func (.func 61) #[] #[.pointer (some ⟨B, 0, none⟩)]] w fun e w' => e = .returned (.slice none 0 0) ∧ Upd w [] w' [] := by
  go_enter Tryz.func59, Tryz.ntmps59
  go_wp2_with (go_at_call 88; refine (append_seq M B k w hM hB).mono ?_; rintro e w1 ⟨rfl, hU1⟩)
  go_ret
  exact ⟨rfl, hU1⟩

end Go.Proofs.YtlnhacbdbhmgkaaGreatDoor
