/- A slice that a structure owns, told by a function of its elements' cells ('Tab'), and append onto it. -/
import Derived.Test.YtlnhacbdbhmgkaaGreatDoorBase
namespace Go.Proofs.YtlnhacbdbhmgkaaGreatDoor
open Go.RowKit

/-- The slice v owns n elements of type e (sz cells each); cell j of element i is c i j. It is nil, or heads a block of its own. -/
def Tab (w : World) (v : Value) (e : TypeId) (sz n : Nat) (c : Nat → Nat → Value) : Prop :=
  (v = .slice none 0 0 ∧ n = 0) ∨
  ∃ g cap cur, v = .slice (some ⟨g, 0, none⟩) n cap ∧ w.heap[g]? = some (.cells cur e (0, 0)) ∧ n ≤ cap ∧ cap ≤ maxLen ∧ cur.size = cap * sz ∧
    ∀ i j, i < n → j < sz → cur[i * sz + j]? = some (c i j)

section
variable {w w' : World} {v : Value} {e : TypeId} {sz n : Nat} {c c' : Nat → Nat → Value}

theorem Tab.nil (w : World) (e sz : Nat) (c : Nat → Nat → Value) : Tab w (.slice none 0 0) e sz 0 c := .inl ⟨rfl, rfl⟩

theorem Tab.congr (h : Tab w v e sz n c) (hc : ∀ i j, i < n → j < sz → c i j = c' i j) : Tab w v e sz n c' := by
  rcases h with h | ⟨g, cap, cur, hv, hg, hn, hm, hs, hcell⟩
  · exact .inl h
  · exact .inr ⟨g, cap, cur, hv, hg, hn, hm, hs, fun i j hi hj => by rw [hcell i j hi hj, hc i j hi hj]⟩

theorem Tab.len (h : Tab w v e sz n c) : ∃ a cap, v = .slice a n cap ∧ n ≤ maxLen := by
  rcases h with ⟨rfl, rfl⟩ | ⟨g, cap, cur, hv, hg, hn, hm, _⟩
  · exact ⟨none, 0, rfl, Nat.zero_le _⟩
  · exact ⟨_, cap, hv, by omega⟩

/-- With an element there is a block. -/
theorem Tab.block (h : Tab w v e sz n c) (h0 : 0 < n) : ∃ g cap, v = .slice (some ⟨g, 0, none⟩) n cap ∧ v.ownBlock = some g ∧ g < w.heap.size ∧
    (∀ i j, i < n → j < sz → w.cell? ⟨g, i * sz + j, none⟩ = some (c i j)) ∧ (∀ k, w.frozen? ⟨g, k, none⟩ = false) ∧ (∃ cur, w.heap[g]? = some (.cells cur e (0, 0))) := by
  rcases h with ⟨rfl, rfl⟩ | ⟨g, cap, cur, hv, hg, hn, hm, hs, hcell⟩
  · omega
  · exact ⟨g, cap, hv, by rw [hv]; rfl, lt_of_block hg, fun i j hi hj => cell_at hg (hcell i j hi hj), fun k => free_at hg k, cur, hg⟩

theorem Tab.free (h : Tab w v e sz n c) {g : Nat} (hg : v.ownBlock = some g) (k : Nat) : w.frozen? ⟨g, k, none⟩ = false := by
  rcases h with ⟨rfl, rfl⟩ | ⟨g', cap, cur, rfl, hg', _⟩
  · simp [Value.ownBlock] at hg
  · obtain rfl : g' = g := by simpa [Value.ownBlock] using hg
    exact free_at hg' k

theorem Tab.keeps (h : Tab w v e sz n c) (hk : ∀ g, v.ownBlock = some g → w'.heap[g]? = w.heap[g]?) : Tab w' v e sz n c := by
  rcases h with h | ⟨g, cap, cur, rfl, hg, rest⟩
  · exact .inl h
  · exact .inr ⟨g, cap, cur, rfl, (hk g rfl).trans hg, rest⟩

theorem Tab.upd {S S' : List Nat} (h : Tab w v e sz n c) (hu : Upd w S w' S') (hk : ∀ g, v.ownBlock = some g → g ∉ S) : Tab w' v e sz n c := by
  rcases h with h | ⟨g, cap, cur, rfl, hg, rest⟩
  · exact .inl h
  · exact .inr ⟨g, cap, cur, rfl, hu.keeps hg (hk g rfl), rest⟩

theorem Tab.lt (h : Tab w v e sz n c) : ∀ g, v.ownBlock = some g → g < w.heap.size := by
  rcases h with ⟨rfl, _⟩ | ⟨g, cap, cur, rfl, hg, rest⟩
  · intro g hg; simp [Value.ownBlock] at hg
  · intro g' hg'; simp [Value.ownBlock] at hg'; subst hg'; exact lt_of_block hg

/-- Blocks of unlike types are unlike. -/
theorem Tab.ne (h : Tab w v e sz n c) {b t : Nat} {cs : Array Value} (hb : w.heap[b]? = some (.cells cs t (0, 0))) (hne : e ≠ t) : v.ownBlock ≠ some b := by
  rcases h with ⟨rfl, _⟩ | ⟨g, cap, cur, rfl, hg, rest⟩
  · simp [Value.ownBlock]
  · intro he
    have : g = b := by simpa [Value.ownBlock] using he
    subst this
    rw [hg] at hb
    injection hb with hb
    injection hb with _ ht
    exact hne ht

theorem Tab.ne' (h : Tab w v e sz n c) {v2 : Value} {e2 sz2 n2 : Nat} {c2 : Nat → Nat → Value} (h2 : Tab w v2 e2 sz2 n2 c2) (hne : e ≠ e2) : ∀ g, v.ownBlock = some g → v2.ownBlock ≠ some g := by
  intro g hg
  rcases h with ⟨rfl, _⟩ | ⟨g', cap, cur, rfl, hg', rest⟩
  · simp [Value.ownBlock] at hg
  · have : g' = g := by simpa [Value.ownBlock] using hg
    subst this
    exact h2.ne hg' (fun e => hne e.symm)

/-- A store into a cell of it. -/
theorem Tab.set (h : Tab w v e sz n c) {g cap : Nat} (hv : v = .slice (some ⟨g, 0, none⟩) n cap) (i j : Nat) (hj : j < sz) (u : Value) :
    Tab (w.setCell ⟨g, i * sz + j, none⟩ u) v e sz n (fun i' j' => if i' = i ∧ j' = j then u else c i' j') := by
  rcases h with ⟨rfl, _⟩ | ⟨g', cap', cur, rfl, hg, hn, hm, hs, hcell⟩
  · simp at hv
  · obtain ⟨rfl, rfl⟩ : g' = g ∧ cap' = cap := by simpa using hv
    refine .inr ⟨g', cap', _, rfl, heap_setCell_at u hg, hn, hm, by simpa using hs, fun i' j' hi' hj' => ?_⟩
    rw [Array.getElem?_setIfInBounds]
    have hin : i' * sz + j' < cur.size := by
      rw [hs]
      calc i' * sz + j' < i' * sz + sz := by omega
        _ = (i' + 1) * sz := by rw [Nat.add_mul, Nat.one_mul]
        _ ≤ cap' * sz := Nat.mul_le_mul_right _ (by omega)
    by_cases he : i * sz + j = i' * sz + j'
    · have hij : i' = i ∧ j' = j := by
        have h1 : (i * sz + j) / sz = i := by rw [Nat.mul_comm, Nat.mul_add_div (by omega), Nat.div_eq_of_lt hj]; rfl
        have h2 : (i' * sz + j') / sz = i' := by rw [Nat.mul_comm, Nat.mul_add_div (by omega), Nat.div_eq_of_lt hj']; rfl
        rw [he, h2] at h1
        subst h1
        exact ⟨rfl, by omega⟩
      rw [if_pos he, if_pos (by omega)]
      exact congrArg some (if_pos hij).symm
    · rw [if_neg he, hcell i' j' hi' hj']
      exact congrArg some (if_neg (fun hij => he (by rw [hij.1, hij.2]))).symm

/-- An element more. -/
def snoc (c : Nat → Nat → Value) (n : Nat) (news : List Value) : Nat → Nat → Value := fun i j => if i = n then news.getD j undef else c i j

theorem Tab.of_take {g cap : Nat} {cur : Array Value} {news : List Value} (hg : w'.heap[g]? = some (.cells cur e (0, 0))) (hn : n + 1 ≤ cap) (hm : cap ≤ maxLen) (hs : cur.size = cap * sz) (hl : news.length = sz)
    (hold : ∀ i j, i < n → j < sz → cur[i * sz + j]? = some (c i j)) (hnew : ∀ j, j < sz → cur[n * sz + j]? = news[j]?) :
    Tab w' (.slice (some ⟨g, 0, none⟩) (n + 1) cap) e sz (n + 1) (snoc c n news) := by
  refine .inr ⟨g, cap, cur, rfl, hg, hn, hm, hs, fun i j hi hj => ?_⟩
  unfold snoc
  by_cases he : i = n
  · subst he
    rw [if_pos rfl, hnew j hj, List.getD_eq_getElem?_getD, List.getElem?_eq_getElem (by omega)]
    rfl
  · rw [if_neg he, hold i j (by omega) hj]
end

/-- For a loop's measure: how long the slice in a cell is. -/
def lenAt (w : World) (a : Addr) : Nat := match w.cell? a with | some (.slice _ k _) => k | _ => 0
theorem lenAt_of {w : World} {a : Addr} {p : Option Addr} {k c : Nat} (h : w.cell? a = some (.slice p k c)) : lenAt w a = k := by simp [lenAt, h]

section
variable {P : Program} (w : World)

theorem run_append_tab (t ty e : TypeId) (i : TypeInfo) (z : Value) (size bytes : Nat) (ht : P.underlying t = some (.slice e)) (hi : P.info? e = some i) (hz : i.zero = some z)
    (hsize : i.size = size) (hby : i.bytes = bytes) (hzs : z.cells.size = size)
    (v : Value) (n : Nat) (cf : Nat → Nat → Value) (htab : Tab w v e size n cf)
    (a : Addr) (c : Nat) (news : List Value) (hl : news.length = size) (hnews : ∀ j u, news[j]? = some u → w.cell? (a.add j) = some u) (h1 : ∀ u ∈ news, u.oneCell' = true)
    (hbytes : (n + 1) * bytes ≤ 140737488355328) (h63 : n + 1 ≤ maxLen) :
    ∃ v' w', (Builtin.append_ #[t, t] ty #[v, .slice (some a) 1 c]).run P w = .ok v' w' ∧ Tab w' v' e size (n + 1) (snoc cf n news) ∧ w.grownBy w' v.ownBlock ∧
      (∀ k, v'.ownBlock = some k → v.ownBlock = some k ∨ w.heap.size ≤ k) ∧ ∃ g cap, v' = .slice (some ⟨g, 0, none⟩) (n + 1) cap := by
  subst hsize
  subst hby
  have hsmall : n + 1 ≤ 9223372036854775807 := by simp only [maxLen] at h63; omega
  rcases htab with ⟨rfl, rfl⟩ | ⟨g, cap, cur, rfl, hg, hnc, hcm, hcs, hcell⟩
  · have hr := run_append_nil (P := P) w t ty e i z ht hi hz a 1 c news (by omega) hnews (by omega) (by omega) (by omega)
    refine ⟨_, _, hr, ?_, ⟨rfl, rfl, rfl, by simp, fun k hk _ => Below.heap_alloc w.drew _ k hk⟩, fun k hk => ?_, _, _, rfl⟩
    · have hge := grownCap_ge w 1 0 e
      refine Tab.of_take (heap_alloc_new w.drew _) (by omega) (grownCap_le_maxLen w 1 0 e (by omega)) ?_ hl (fun i j hi => by omega) (fun j hj => ?_)
      · simp only [Array.size_append, List.size_toArray, size_zeroCells, hzs, hl]
        rw [Nat.sub_mul, Nat.one_mul]
        have := Nat.mul_le_mul_right i.size hge
        omega
      · rw [Array.getElem?_append_left (by simp; omega)]
        simp
    · simp [Value.ownBlock] at hk
      exact .inr (by omega)
  · by_cases hroom : n + 1 ≤ cap
    · have hfit : n * i.size + news.length ≤ cur.size := by rw [hl, hcs, ← Nat.succ_mul]; exact Nat.mul_le_mul_right _ hroom
      have hr := run_append_room (P := P) w t ty e i ht hi g n cap cur hg a 1 c news (by omega) hnews h1 hroom hfit
      refine ⟨_, _, hr, ?_, ⟨rfl, rfl, rfl, by simp, fun k _ hk => setRow_other w g k _ (fun e => hk (by simp [Value.ownBlock, e]))⟩, fun k hk => .inl hk, _, _, rfl⟩
      refine Tab.of_take (setRow_heap w g cur _ e _ hg) hroom hcm ?_ hl (fun i' j hi' hj => ?_) (fun j hj => ?_)
      · simp only [List.size_toArray, List.length_append, List.length_take, List.length_drop, Array.length_toList]
        omega
      · have hlt : i' * i.size + j < n * i.size := by
          calc i' * i.size + j < (i' + 1) * i.size := by rw [Nat.succ_mul]; omega
            _ ≤ n * i.size := Nat.mul_le_mul_right _ (by omega)
        rw [← hcell i' j hi' hj, List.getElem?_toArray, List.append_assoc, List.getElem?_append_left (by rw [List.length_take, Array.length_toList]; omega), List.getElem?_take, if_pos hlt, Array.getElem?_toList]
      · have hlt : (cur.toList.take (n * i.size)).length = n * i.size := by rw [List.length_take, Array.length_toList]; omega
        rw [List.getElem?_toArray, List.append_assoc, List.getElem?_append_right (by rw [hlt]; omega), hlt, List.getElem?_append_left (by omega)]
        congr 1
        omega
    · have holds : ∀ j u, (cur.toList.take (n * i.size))[j]? = some u → w.cell? ((⟨g, 0, none⟩ : Addr).add j) = some u := by
        intro j u hu
        have hadd : (⟨g, 0, none⟩ : Addr).add j = ⟨g, j, none⟩ := by unfold Addr.add; split <;> simp_all
        rw [hadd, cell_of_row w g j cur e (0, 0) hg]
        rw [List.getElem?_take] at hu
        split at hu
        · simpa using hu
        · cases hu
      have hle : n * i.size ≤ cur.size := by rw [hcs]; exact Nat.mul_le_mul_right _ hnc
      have hlo : (cur.toList.take (n * i.size)).length = n * i.size := by simp; omega
      have hr := run_append_grow (P := P) w t ty e i z ht hi hz ⟨g, 0, none⟩ n cap _ hlo holds a 1 c news (by omega) hnews (by omega) (by omega) (growslice_fits (by omega) hbytes)
      refine ⟨_, _, hr, ?_, ⟨rfl, rfl, rfl, by simp, fun k hk _ => Below.heap_alloc w.drew _ k hk⟩, fun k hk => ?_, _, _, rfl⟩
      · have hge := grownCap_ge w (n + 1) cap e
        refine Tab.of_take (heap_alloc_new w.drew _) hge (grownCap_le_maxLen w (n + 1) cap e h63) ?_ hl (fun i' j hi' hj => ?_) (fun j hj => ?_)
        · simp only [Array.size_append, List.size_toArray, size_zeroCells, hzs, hl, hlo]
          rw [Nat.sub_mul, Nat.succ_mul]
          have := Nat.mul_le_mul_right i.size hge
          rw [Nat.succ_mul] at this
          omega
        · have hlt : i' * i.size + j < n * i.size := by
            calc i' * i.size + j < (i' + 1) * i.size := by rw [Nat.succ_mul]; omega
              _ ≤ n * i.size := Nat.mul_le_mul_right _ (by omega)
          rw [← hcell i' j hi' hj, Array.getElem?_append_left (by simp; omega), Array.getElem?_append_left (by simp; omega), List.getElem?_toArray, List.getElem?_take, if_pos hlt, Array.getElem?_toList]
        · rw [Array.getElem?_append_left (by simp [hl]; omega), Array.getElem?_append_right (by simp; omega), List.size_toArray, hlo, List.getElem?_toArray]
          congr 1
          omega
      · simp [Value.ownBlock] at hk
        exact .inr (by omega)

theorem wpList_append_tab {ops : Array Oper} {rest : List Oper} {o : Oper} {a : Act} {Q : Exit → Act → World → Prop} (hgd : o.guard = none) (s x : Operand) (t : TypeId)
    (ho : o.op = .call { callee := .builtin .append, args := #[s, x], argTypes := #[t, t] })
    (e : TypeId) (i : TypeInfo) (z : Value) (size bytes : Nat) (ht : P.underlying t = some (.slice e)) (hi : P.info? e = some i) (hz : i.zero = some z)
    (hsize : i.size = size) (hby : i.bytes = bytes) (hzs : z.cells.size = size)
    (v : Value) (n : Nat) (cf : Nat → Nat → Value) (htab : Tab w v e size n cf) (hs : a.eval s = v)
    (ad : Addr) (c : Nat) (news : List Value) (hx : a.eval x = .slice (some ad) 1 c) (hl : news.length = size) (hnews : ∀ j u, news[j]? = some u → w.cell? (ad.add j) = some u) (h1 : ∀ u ∈ news, u.oneCell' = true)
    (hbytes : (n + 1) * bytes ≤ 140737488355328) (h63 : n + 1 ≤ maxLen)
    (h : ∀ v' w', Tab w' v' e size (n + 1) (snoc cf n news) → w.grownBy w' v.ownBlock → (∀ k, v'.ownBlock = some k → v.ownBlock = some k ∨ w.heap.size ≤ k) → (∃ g cap, v' = .slice (some ⟨g, 0, none⟩) (n + 1) cap) →
      wpList P ops Q rest (a.put o.dst v') w') : wpList P ops Q (o :: rest) a w := by
  refine wpList_plain hgd fun K hK => ?_
  obtain ⟨v', w', hr, h2, h3, h4, h5⟩ := run_append_tab (P := P) w t o.type e i z size bytes ht hi hz hsize hby hzs v n cf htab ad c news hl hnews h1 hbytes h63
  unfold Oper.wp execOp
  simp only [ho, resolve, invoke, builtin, Sem.run_bind, Sem.run_pure, Result.andThen_ok, List.map_toArray, List.map_cons, List.map_nil, hs, hx, hr]
  exact hK _ _ (h v' w' h2 h3 h4 h5)

theorem grownBy_of_alloc {w w1 : World} {o : Obj} {row : Option Nat} (h : (w.alloc o).grownBy w1 row) : w.grownBy w1 row :=
  ⟨h.os, h.tape, h.output, by have := h.size; simp at this; omega, fun k hk hne => (h.block k (by simp; omega) hne).trans (Below.heap_alloc w o k hk)⟩

theorem new_cells (w : World) (vs : List Value) (t : TypeId) : ∀ j u, vs[j]? = some u → (w.alloc (.cells vs.toArray t)).cell? ((⟨w.heap.size, 0, none⟩ : Addr).add j) = some u := by
  intro j u hu
  have hadd : (⟨w.heap.size, 0, none⟩ : Addr).add j = ⟨w.heap.size, j, none⟩ := by unfold Addr.add; split <;> simp_all
  rw [hadd, cell_of_row _ _ j _ t (0, 0) (heap_alloc_new w _)]
  simpa using hu

/-- 'append(s, x)': x lies in the new block of one element that the statement has just made. -/
theorem wpList_append_new {ops : Array Oper} {rest : List Oper} {o : Oper} {a : Act} {Q : Exit → Act → World → Prop} (hgd : o.guard = none) (s x : Operand) (t : TypeId)
    (ho : o.op = .call { callee := .builtin .append, args := #[s, x], argTypes := #[t, t] })
    (e : TypeId) (i : TypeInfo) (z : Value) (size bytes : Nat) (ht : P.underlying t = some (.slice e)) (hi : P.info? e = some i) (hz : i.zero = some z)
    (hsize : i.size = size) (hby : i.bytes = bytes) (hzs : z.cells.size = size)
    (v : Value) (n : Nat) (cf : Nat → Nat → Value) (htab : Tab w v e size n cf) (hs : a.eval s = v)
    (news : List Value) (hx : a.eval x = .slice (some ⟨w.heap.size, 0, none⟩) 1 1) (hl : news.length = size) (h1 : news.all Value.oneCell' = true)
    (hbytes : (n + 1) * bytes ≤ 140737488355328) (h63 : n + 1 ≤ maxLen)
    (h : ∀ v' w', Tab w' v' e size (n + 1) (snoc cf n news) → w.grownBy w' v.ownBlock → (∀ k, v'.ownBlock = some k → v.ownBlock = some k ∨ w.heap.size ≤ k) → (∃ g cap, v' = .slice (some ⟨g, 0, none⟩) (n + 1) cap) →
      wpList P ops Q rest (a.put o.dst v') w') : wpList P ops Q (o :: rest) a (w.alloc (.cells news.toArray e)) :=
  wpList_append_tab (w.alloc (.cells news.toArray e)) hgd s x t ho e i z size bytes ht hi hz hsize hby hzs v n cf (htab.keeps fun g e => Below.heap_alloc _ _ _ (htab.lt g e)) hs ⟨w.heap.size, 0, none⟩ 1 news hx hl
    (new_cells w news e) (fun u hu => List.all_eq_true.1 h1 u hu) hbytes h63 fun v' w' h1 h2 h3 h4 => h v' w' h1 (grownBy_of_alloc h2) (fun k hk => (h3 k hk).imp id (fun h => by simp at h; omega)) h4

end

end Go.Proofs.YtlnhacbdbhmgkaaGreatDoor
