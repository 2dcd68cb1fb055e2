/- Append of one element onto nil, and onto a slice that the code owns, with the element type's facts in one place. -/
import Derived.Test.YtlnhacbdbhmgkaaGreatDoorTab
namespace Go.Proofs.YtlnhacbdbhmgkaaGreatDoor
open Go.RowKit

structure ElemOk (P : Program) (t e : TypeId) (size bytes : Nat) : Prop where
  ex : ∃ i z, P.underlying t = some (.slice e) ∧ P.info? e = some i ∧ i.zero = some z ∧ i.size = size ∧ i.bytes = bytes ∧ z.cells.size = size

theorem ElemOk.mk' {P : Program} {t e : TypeId} {size bytes : Nat} {z : Value} (h0 : P.underlying t = some (.slice e)) (h : (P.info? e).map (fun i => (i.zero, i.size, i.bytes)) = some (some z, size, bytes)) (hz : z.cells.size = size) : ElemOk P t e size bytes := by
  obtain ⟨i, hi, hx⟩ := Option.map_eq_some_iff.1 h
  simp only [Prod.mk.injEq] at hx
  exact ⟨i, z, h0, hi, hx.1, hx.2.1, hx.2.2, hz⟩

section
variable {P : Program} {w : World}

/-- 'append(nil, x)'. -/
theorem append_first {t e : TypeId} {size bytes : Nat} (he : ElemOk P t e size bytes) {ops : Array Oper} {rest : List Oper} {o : Oper} {a : Act} {Q : Exit → Act → World → Prop} (hgd : o.guard = none) (s x : Operand)
    (ho : o.op = .call { callee := .builtin .append, args := #[s, x], argTypes := #[t, t] }) (hs : a.eval s = .slice none 0 0)
    (news : List Value) {k : Nat} (hx : a.eval x = .slice (some ⟨k, 0, none⟩) 1 1) (hsz : k = w.heap.size) (hl : news.length = size) (h1 : news.all Value.oneCell' = true)
    (hbytes : bytes ≤ 140737488355328)
    (h : ∀ g cap w', (∀ j u, news[j]? = some u → w'.cell? ⟨g, j, none⟩ = some u) → (∀ j, w'.frozen? ⟨g, j, none⟩ = false) → Upd w [] w' [g] → w.heap.size ≤ g → g < w'.heap.size →
      Tab w' (.slice (some ⟨g, 0, none⟩) 1 cap) e size 1 (snoc (fun _ _ => undef) 0 news) →
      wpList P ops Q rest (a.put o.dst (.slice (some ⟨g, 0, none⟩) 1 cap)) w') : wpList P ops Q (o :: rest) a (w.alloc (.cells news.toArray e)) := by
  subst hsz
  obtain ⟨i, z, ht, hi, hz, hsize, hby, hzs⟩ := he.ex
  refine wpList_append_new w hgd s x t ho e i z size bytes ht hi hz hsize hby hzs (.slice none 0 0) 0 (fun _ _ => undef) (Tab.nil _ _ _ _) hs news hx hl h1 (by omega) (by decide) ?_
  rintro v' w' htab hg hk ⟨g, cap, rfl⟩
  obtain ⟨g', cap', hv, ho', hlt, hc, hf, _⟩ := htab.block (by omega)
  obtain ⟨rfl, rfl⟩ : g = g' ∧ cap = cap' := by simpa using hv
  have hge : w.heap.size ≤ g := by
    rcases hk g rfl with h' | h'
    · simp [Value.ownBlock] at h'
    · exact h'
  refine h g cap w' (fun j u hu => ?_) hf ?_ hge hlt htab
  · have hj : j < size := by
      rw [← hl]
      rcases Nat.lt_or_ge j news.length with h' | h'
      · exact h'
      · rw [List.getElem?_eq_none h'] at hu; cases hu
    have := hc 0 j (by omega) hj
    simp only [Nat.zero_mul, Nat.zero_add] at this
    rw [this]
    simp only [snoc, if_true, List.getD_eq_getElem?_getD, hu, Option.getD_some]
  · exact ((Upd.refl w []).grown hg (fun k hk => by simp [Value.ownBlock] at hk)).to (fun k hk => by simp at hk; subst hk; exact .inr hge)

/-- The same at a step of a region that draws its order, at whatever world. -/
theorem append_first_step {t e : TypeId} {size bytes : Nat} (he : ElemOk P t e size bytes) {ops : Array Oper} {o : Oper} {a : Act} {K : Act → World → Prop} {Q : Exit → Act → World → Prop} {E : Prop} (hgd : o.guard = none) (s x : Operand)
    (ho : o.op = .call { callee := .builtin .append, args := #[s, x], argTypes := #[t, t] }) (hs : a.eval s = .slice none 0 0)
    (news : List Value) {B c : Nat} (hx : a.eval x = .slice (some ⟨B, 0, none⟩) 1 c) (hB : w.heap[B]? = some (.cells news.toArray e (0, 0))) (hl : news.length = size) (h1 : news.all Value.oneCell' = true)
    (hbytes : bytes ≤ 140737488355328)
    (h : ∀ g cap w', (∀ j u, news[j]? = some u → w'.cell? ⟨g, j, none⟩ = some u) → (∀ j, w'.frozen? ⟨g, j, none⟩ = false) → Upd w [] w' [g] → w.heap.size ≤ g → g < w'.heap.size →
      Tab w' (.slice (some ⟨g, 0, none⟩) 1 cap) e size 1 (snoc (fun _ _ => undef) 0 news) →
      K (a.put o.dst (.slice (some ⟨g, 0, none⟩) 1 cap)) w') : if Region.wanted o (yielded ops a.tmps) = true then Oper.wp P o a w K Q else E := by
  have hw : Region.wanted o (yielded ops a.tmps) = true := by simp [Region.wanted, hgd]
  rw [if_pos hw]
  obtain ⟨i, z, ht, hi, hz, hsize, hby, hzs⟩ := he.ex
  have hnews : ∀ j u, news[j]? = some u → w.cell? ((⟨B, 0, none⟩ : Addr).add j) = some u := fun j u hu => by
    have hadd : (⟨B, 0, none⟩ : Addr).add j = ⟨B, j, none⟩ := by unfold Addr.add; split <;> simp_all
    rw [hadd, cell_of_row w B j _ e _ hB]
    simpa using hu
  obtain ⟨v', w', hr, htab, hg, hk, g, cap, rfl⟩ := run_append_tab (P := P) w t o.type e i z size bytes ht hi hz hsize hby hzs (.slice none 0 0) 0 (fun _ _ => undef) (Tab.nil _ _ _ _) ⟨B, 0, none⟩ c news hl hnews (fun u hu => List.all_eq_true.1 h1 u hu) (by omega) (by decide)
  obtain ⟨g', cap', hv, ho', hlt, hc, hf, _⟩ := htab.block (by omega)
  obtain ⟨rfl, rfl⟩ : g = g' ∧ cap = cap' := by simpa using hv
  have hge : w.heap.size ≤ g := by
    rcases hk g rfl with h' | h'
    · simp [Value.ownBlock] at h'
    · exact h'
  unfold Oper.wp execOp
  simp only [ho, resolve, invoke, builtin, Sem.run_bind, Sem.run_pure, Result.andThen_ok, List.map_toArray, List.map_cons, List.map_nil, hs, hx, hr]
  refine h g cap w' (fun j u hu => ?_) hf ?_ hge hlt htab
  · have hj : j < size := by
      rw [← hl]
      rcases Nat.lt_or_ge j news.length with h' | h'
      · exact h'
      · rw [List.getElem?_eq_none h'] at hu; cases hu
    have := hc 0 j (by omega) hj
    simp only [Nat.zero_mul, Nat.zero_add] at this
    rw [this]
    simp only [snoc, if_true, List.getD_eq_getElem?_getD, hu, Option.getD_some]
  · exact ((Upd.refl w []).grown hg (fun k hk => by simp [Value.ownBlock] at hk)).to (fun k hk => by simp at hk; subst hk; exact .inr hge)

end

theorem Tab.cell {w : World} {g n cap e sz : Nat} {c : Nat → Nat → Value} (h : Tab w (.slice (some ⟨g, 0, none⟩) n cap) e sz n c) {i j : Nat} (hi : i < n) (hj : j < sz) : w.cell? ⟨g, i * sz + j, none⟩ = some (c i j) := by
  obtain ⟨g', cap', hv, _, _, hc, _⟩ := h.block (by omega)
  obtain ⟨rfl, rfl⟩ : g = g' ∧ cap = cap' := by simpa using hv
  exact hc i j hi hj

theorem Upd.bare {w w' : World} {S S' : List Nat} (h : Upd w S w' S') (hs : ∀ k, k ∈ S → w.heap.size ≤ k) : Upd w [] w' [] :=
  ⟨h.os, h.tape, h.output, h.size, fun k hk _ => h.block k hk (fun hm => absurd (hs k hm) (by omega)), by simp⟩
theorem Upd.nil {w w' : World} {S' : List Nat} (h : Upd w [] w' S') : Upd w [] w' [] := h.to (by simp)

theorem Upd.on {w w' : World} {o : Obj} {S' : List Nat} (h : Upd (w.alloc o) [] w' S') : Upd w [] w' S' := ((Upd.refl w []).alloc o).trans h

theorem Upd.froz {w w' : World} {S S' : List Nat} (h : Upd w S w' S') {a : Addr} {v : Value} (hc : w.cell? a = some v) (hn : a.block ∉ S) (hf : w.frozen? a = false) : w'.frozen? a = false :=
  (World.frozen?_of_block (h.block a.block (block_lt_of_cell hc) hn)).trans hf
theorem Upd.frozAll {w w' : World} {S S' : List Nat} (h : Upd w S w' S') {b k : Nat} {v : Value} (hc : w.cell? ⟨b, k, none⟩ = some v) (hn : b ∉ S) (hf : ∀ j, w.frozen? ⟨b, j, none⟩ = false) : ∀ j, w'.frozen? ⟨b, j, none⟩ = false :=
  fun j => (World.frozen?_of_block (a := ⟨b, j, none⟩) (h.block b (block_lt_of_cell hc) hn)).trans (hf j)
theorem results_cell1 {P : Program} {fn : Func} {tmps : Array Value} {w : World} {p u : Tmp} {T : TypeId} {A : Addr} {v : Value} (h : fn.results = #[.cell p T, .tmp u]) (hp : tmps.getD p undef = .pointer (some A))
    (hv : (loadVar T A).run P w = .ok v w) : (results fn tmps).run P w = .ok (.tuple #[v, tmps.getD u undef]) w := by
  have hp' : tmps[p]?.getD undef = .pointer (some A) := by simpa using hp
  simp [results, h, hp', asAddr, hv, Result.andThen_ok]
theorem results_cell2 {P : Program} {fn : Func} {tmps : Array Value} {w : World} {p u u2 : Tmp} {T : TypeId} {A : Addr} {v : Value} (h : fn.results = #[.cell p T, .tmp u, .tmp u2]) (hp : tmps.getD p undef = .pointer (some A))
    (hv : (loadVar T A).run P w = .ok v w) : (results fn tmps).run P w = .ok (.tuple #[v, tmps.getD u undef, tmps.getD u2 undef]) w := by
  have hp' : tmps[p]?.getD undef = .pointer (some A) := by simpa using hp
  simp [results, h, hp', asAddr, hv, Result.andThen_ok]
theorem setCell_far {w : World} {b k : Nat} {a : Addr} {v u : Value} (hb : b ≠ a.block) (h : w.cell? ⟨b, k, none⟩ = some v) : (w.setCell a u).cell? ⟨b, k, none⟩ = some v :=
  (World.cell?_of_block (a := ⟨b, k, none⟩) (heap_setCell_other w a b u hb)).trans h
/-- The world under a name of its own. -/
theorem wp_gen {P : Program} {c : Code} {Q : Exit → Act → World → Prop} {a : Act} {w : World} (h : ∀ w', w' = w → c.wp P Q a w') : c.wp P Q a w := h w rfl
theorem lts {a b : Nat} (h : a < b) : a < b ∧ (∀ n, a < b + n) ∧ (∀ n m, a < b + n + m) ∧ (∀ n m k, a < b + n + m + k) ∧ (∀ n m k i, a < b + n + m + k + i) ∧ (∀ n m k i j, a < b + n + m + k + i + j) :=
  ⟨h, fun _ => by omega, fun _ _ => by omega, fun _ _ _ => by omega, fun _ _ _ _ => by omega, fun _ _ _ _ _ => by omega⟩
theorem boxed {w w1 : World} {cs : Array Value} {t : TypeId} {S' : List Nat} (hu : Upd (w.alloc (.cells cs t)) [] w1 S') {j : Nat} {v : Value} (h : cs[j]? = some v) : w1.cell? ⟨w.heap.size, j, none⟩ = some v :=
  hu.cell (cell_at (heap_alloc_new w _) h) (by simp)
theorem boxed_free {w w1 : World} {cs : Array Value} {t : TypeId} {S' : List Nat} (hu : Upd (w.alloc (.cells cs t)) [] w1 S') (j : Nat) : w1.frozen? ⟨w.heap.size, j, none⟩ = false :=
  free_at (hu.keeps (heap_alloc_new w _) (by simp)) j
theorem boxed1 {w w1 : World} {o : Obj} {cs : Array Value} {t : TypeId} {S' : List Nat} (hu : Upd ((w.alloc o).alloc (.cells cs t)) [] w1 S') {j : Nat} {v : Value} (h : cs[j]? = some v) : w1.cell? ⟨w.heap.size + 1, j, none⟩ = some v := by
  simpa using boxed hu h
theorem boxed1_free {w w1 : World} {o : Obj} {cs : Array Value} {t : TypeId} {S' : List Nat} (hu : Upd ((w.alloc o).alloc (.cells cs t)) [] w1 S') (j : Nat) : w1.frozen? ⟨w.heap.size + 1, j, none⟩ = false := by
  simpa using boxed_free hu j
theorem boxed1_lt {w w1 : World} {o o' : Obj} {S' : List Nat} (hu : Upd ((w.alloc o).alloc o') [] w1 S') : w.heap.size + 1 < w1.heap.size := by
  have := hu.size
  simp at this
  omega
theorem boxed_lt {w w1 : World} {o : Obj} {S' : List Nat} (hu : Upd (w.alloc o) [] w1 S') : w.heap.size < w1.heap.size := by
  have := hu.size
  simp at this
  omega

end Go.Proofs.YtlnhacbdbhmgkaaGreatDoor
