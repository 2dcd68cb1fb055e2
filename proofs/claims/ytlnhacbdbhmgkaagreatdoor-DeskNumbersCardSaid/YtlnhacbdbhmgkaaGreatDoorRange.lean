/- 'for x := range seq': the caller's law over an iterator's contract 'IterSpec'. -/
import Derived.Test.YtlnhacbdbhmgkaaGreatDoorTabIn
namespace Go.Proofs.YtlnhacbdbhmgkaaGreatDoor
open Go.RowKit

theorem Upd.putObj {w w' : World} {S S' : List Nat} (h : Upd w S w' S') {l : Nat} (hl : l ∈ S ∨ w.heap.size ≤ l) (o : Obj) : Upd w S (w'.putObj l o) S' :=
  ⟨h.os, h.tape, h.output, by rw [World.putObj_size]; exact h.size, fun k hk hn => (World.putObj_heap_other (fun e => by subst e; exact or_no hl hn hk)).trans (h.block k hk hn), h.fresh⟩

/-- An iterator's contract: value (gf, lb), called in W at the yield of any loop l: it tells xs, one by one. Start: what holds behind its own first steps (g: a block of its own). -/
def IterSpec {α : Type} (P : Program) (gf : Nat) (lb : Array Value) (encs : α → Array Value) (xs : List α) (Start : World → Nat → World → Prop) (W : World) : Prop :=
  ∀ (l : Nat) (J Jx : Nat → Nat → World → Prop), (∀ g W1, Start W g W1 → J g 0 W1) →
    (∀ g k x W1, J g k W1 → xs[k]? = some x → YieldAt Fence.wide 0 P l (encs x) W1 fun e W' =>
      (e = .returned (.bool true) ∧ J g (k + 1) W' ∧ W'.heap[g]? = W1.heap[g]?) ∨ (e = .returned (.bool false) ∧ Jx g (k + 1) W')) →
    CallsIn Fence.wide 0 P gf (#[.func (.yield l) #[] #[]] ++ lb) W fun e W' => (∃ v, e = .returned v) ∧ ∃ g, J g xs.length W' ∨ ∃ k, k ≤ xs.length ∧ Jx g k W'

/-- How a round's body may be left. -/
def leftBy (l D : Nat) (g : Nat) (W : World) (I : World → Prop) (Ix : Code → World → Prop) : Exit → Act → World → Prop
  | .normal, _, W' => (W'.heap[l]? = W.heap[l]? ∧ W'.heap[D]? = W.heap[D]?) ∧ W'.heap[g]? = W.heap[g]? ∧ I W'
  | .ret, _, W' => (W'.heap[l]? = W.heap[l]? ∧ W'.heap[D]? = W.heap[D]?) ∧ Ix .ret W'
  | .exit id, _, W' => (W'.heap[l]? = W.heap[l]? ∧ W'.heap[D]? = W.heap[D]?) ∧ Ix (.exit id) W'
  | .goto t, _, W' => (W'.heap[l]? = W.heap[l]? ∧ W'.heap[D]? = W.heap[D]?) ∧ Ix (.goto t) W'
  | .panic _, _, _ => False
  | .outgrown, _, _ => False

/-- The world in which the iterator is called. -/
def entered (w : World) (fn : FuncId) (tmps : Array Value) (ps : Array Tmp) (assign body : Code) : World :=
  (w.alloc (.deferred (some []))).alloc (.loop { state := .ready, pending := none, fn, tmps, params := ps, assign, body, defers := w.heap.size })

theorem entered_upd {w : World} {fn : FuncId} {tmps : Array Value} {ps : Array Tmp} {assign body : Code} : Upd w [] (entered w fn tmps ps assign body) [] :=
  ((Upd.refl w []).alloc _).alloc _
theorem entered_size {w : World} {fn : FuncId} {tmps : Array Value} {ps : Array Tmp} {assign body : Code} : (entered w fn tmps ps assign body).heap.size = w.heap.size + 2 := by simp [entered]

theorem range_law {P : Program} {α : Type} {g : Operand} {ps : Array Tmp} {assign body : Code} {Q : Exit → Act → World → Prop} {a : Act} {w : World} {gf : Nat} {lb : Array Value}
    (hg : a.eval g = .func (.func gf) #[] lb) (eg : ∀ args w, (callFunc gf args).run P w = .ok (.enter gf args) w)
    {encs : α → Array Value} {xs : List α} {Start : World → Nat → World → Prop} (hps : ∀ x, (encs x).size = ps.size)
    (hit : ∀ fn, IterSpec P gf lb encs xs Start (entered w fn a.tmps ps assign body))
    (hkeep : ∀ fn g W1, Start (entered w fn a.tmps ps assign body) g W1 → W1.heap[w.heap.size + 1]? = (entered w fn a.tmps ps assign body).heap[w.heap.size + 1]? ∧ W1.heap[w.heap.size]? = (entered w fn a.tmps ps assign body).heap[w.heap.size]?)
    (I : Nat → Nat → World → Prop) (Ix : Code → Nat → Nat → World → Prop)
    (hne : ∀ g k W, I g k W → g ≠ w.heap.size + 1)
    (hI : ∀ g k W o, I g k W → I g k (W.putObj (w.heap.size + 1) o)) (hIx : ∀ c g k W o, Ix c g k W → Ix c g k (W.putObj (w.heap.size + 1) o))
    (h0 : ∀ fn g W1, Start (entered w fn a.tmps ps assign body) g W1 → I g 0 W1) (a₁ : α → Act)
    (hassign : ∀ (x : α) (W : World) (K : Act → World → Prop), K (a₁ x) W →
      assign.wpIn (Fence.wide.inRound (w.heap.size + 1)) 0 P (Exit.then K (fun _ _ _ => False)) { tmps := (ps.zip (encs x)).foldl (fun t (p, v) => t.setIfInBounds p v) a.tmps, defers := [] } W)
    (hbody : ∀ (g k : Nat) (x : α) (W : World), I g k W → xs[k]? = some x →
      body.wpIn (Fence.wide.inRound (w.heap.size + 1)) 0 P (leftBy (w.heap.size + 1) w.heap.size g W (I g (k + 1)) (fun c => Ix c g (k + 1))) (a₁ x) W)
    (hdone : ∀ g W, I g xs.length W → W.heap[w.heap.size]? = some (.deferred (some [])) → Q .normal { a with defers := { target := .collected w.heap.size, args := #[] } :: a.defers } W)
    (hstop : ∀ c g k W, k ≤ xs.length → Ix c g k W → W.heap[w.heap.size]? = some (.deferred (some [])) → c.wpIn Fence.wide 0 P Q { a with defers := { target := .collected w.heap.size, args := #[] } :: a.defers } W) :
    (Code.rangeFunc g ps assign body).wpIn Fence.wide 0 P Q a w := by
  refine wpIn_rangeFunc ?_
  intro fn _
  have hro : Fence.wide.round = none := rfl
  rw [hro]
  obtain ⟨rec, hrec⟩ : ∃ rec : LoopState → Option Code → Loop, rec = fun st pe => { state := st, pending := pe, fn, tmps := a.tmps, params := ps, assign, body, defers := w.heap.size } := ⟨_, rfl⟩
  obtain ⟨W1, hW1⟩ : ∃ W1, entered w fn a.tmps ps assign body = W1 := ⟨_, rfl⟩
  have hL1 : W1.heap[w.heap.size + 1]? = some (.loop (rec .ready none)) := by
    rw [← hW1, hrec]; have := World.alloc_heap_new (w.alloc (.deferred (some []))) (.loop { state := .ready, pending := none, fn, tmps := a.tmps, params := ps, assign, body, defers := w.heap.size }); rwa [World.size_alloc] at this
  have hK1 : W1.heap[w.heap.size]? = some (.deferred (some [])) := by
    rw [← hW1]; exact (Below.heap_alloc _ _ _ (by simp)).trans (World.alloc_heap_new w _)
  refine ⟨w.heap.size + 1, [{ target := .collected w.heap.size, args := #[] }], W1, { target := .fn (.func gf) lb, args := #[.func (.yield (w.heap.size + 1)) #[] #[]] }, W1, gf,
    #[.func (.yield (w.heap.size + 1)) #[] #[]] ++ lb, W1, ?_, ?_, ?_, ?_, ?_, ?_⟩
  · rw [← hW1]; exact run_enterLoop_outer _ _ _ _ _
  · simp only [resolve, hg]
    simp [go_sem]
  · intro f' _; trivial
  · simp [invoke, go_sem, eg]
  · intro h; cases h
  · have hit' := hit fn
    rw [hW1] at hit'
    refine (hit' (w.heap.size + 1)
      (fun g k W => I g k W ∧ W.heap[w.heap.size + 1]? = some (.loop (rec .ready none)) ∧ W.heap[w.heap.size]? = some (.deferred (some [])))
      (fun g k W => ∃ c, Ix c g k W ∧ W.heap[w.heap.size + 1]? = some (.loop (rec .done (some c))) ∧ W.heap[w.heap.size]? = some (.deferred (some []))) ?_ ?_).mono ?_
    · intro g W2 hS
      have hk := hkeep fn g W2 (by rw [hW1]; exact hS)
      rw [hW1] at hk
      exact ⟨h0 fn g W2 (by rw [hW1]; exact hS), hk.1.trans hL1, hk.2.trans hK1⟩
    · rintro g k x W ⟨hi, hl, hk⟩ hx
      have hlt : w.heap.size + 1 < W.heap.size := (Array.getElem?_eq_some_iff.1 hl).1
      have hy := run_yield (P := P) (args := encs x) hl (by rw [hrec]; exact hps x)
      rw [hrec] at hy
      refine ⟨fn, _, assign, body, hy, roundIn_of_wpIn trivial (hassign x W _ ⟨_, run_beginRound hl (by rw [hrec]), ?_⟩)⟩
      obtain ⟨W', hW'⟩ : ∃ W', W.putObj (w.heap.size + 1) (.loop { rec .ready none with state := .busy }) = W' := ⟨_, rfl⟩
      have hl2 : W'.heap[w.heap.size + 1]? = some (.loop { rec .ready none with state := .busy }) := by rw [← hW']; exact World.putObj_heap_same hlt
      have hk2 : W'.heap[w.heap.size]? = some (.deferred (some [])) := by rw [← hW']; exact (World.putObj_heap_other (by omega)).trans hk
      have hgk : ∀ o, g ≠ w.heap.size + 1 → (W.putObj (w.heap.size + 1) o).heap[g]? = W.heap[g]? := fun o h => World.putObj_heap_other h
      rw [hW']
      have fin : ∀ (jump : Option Code) (W3 : World), (W3.heap[w.heap.size + 1]? = W'.heap[w.heap.size + 1]? ∧ W3.heap[w.heap.size]? = W'.heap[w.heap.size]?) →
          (Instr.endRound (w.heap.size + 1) jump).run P W3 = .ok (.bool jump.isNone) (W3.putObj (w.heap.size + 1) (.loop (rec (if jump.isNone then .ready else .done) jump))) ∧
          (W3.putObj (w.heap.size + 1) (.loop (rec (if jump.isNone then .ready else .done) jump))).heap[w.heap.size + 1]? = some (.loop (rec (if jump.isNone then .ready else .done) jump)) ∧
          (W3.putObj (w.heap.size + 1) (.loop (rec (if jump.isNone then .ready else .done) jump))).heap[w.heap.size]? = some (.deferred (some [])) := fun jump W3 hk3 => by
        have hl3 := hk3.1.trans hl2
        have := run_endRound (P := P) jump hl3
        rw [hrec] at this ⊢
        exact ⟨this, World.putObj_heap_same (Array.getElem?_eq_some_iff.1 hl3).1, (World.putObj_heap_other (by omega)).trans (hk3.2.trans hk2)⟩
      refine wpIn_mono (hbody g k x W' (by rw [← hW']; exact hI _ _ _ _ hi) hx) ?_
      rintro e a3 W3 hp
      cases e with
      | normal =>
        obtain ⟨hk3, hg3, hi3⟩ := hp
        obtain ⟨hr, hl4, hk4⟩ := fin none W3 hk3
        have hgl := hne g _ _ hi
        exact ⟨_, _, hr, .inl ⟨rfl, ⟨hI _ _ _ _ hi3, hl4, hk4⟩, (World.putObj_heap_other hgl).trans (hg3.trans (by rw [← hW']; exact hgk _ hgl))⟩⟩
      | ret =>
        obtain ⟨hk3, hi3⟩ := hp
        obtain ⟨hr, hl4, hk4⟩ := fin (some .ret) W3 hk3
        exact ⟨_, _, hr, .inr ⟨rfl, .ret, hIx _ _ _ _ _ hi3, hl4, hk4⟩⟩
      | exit id =>
        obtain ⟨hk3, hi3⟩ := hp
        obtain ⟨hr, hl4, hk4⟩ := fin (some (.exit id)) W3 hk3
        exact ⟨_, _, hr, .inr ⟨rfl, .exit id, hIx _ _ _ _ _ hi3, hl4, hk4⟩⟩
      | goto t =>
        obtain ⟨hk3, hi3⟩ := hp
        obtain ⟨hr, hl4, hk4⟩ := fin (some (.goto t)) W3 hk3
        exact ⟨_, _, hr, .inr ⟨rfl, .goto t, hIx _ _ _ _ _ hi3, hl4, hk4⟩⟩
      | panic ch => exact hp.elim
      | outgrown => exact hp.elim
    · rintro e W2 ⟨⟨v, rfl⟩, g, (⟨hi, hl, hk⟩ | ⟨k, hkl, c, hi, hl, hk⟩)⟩
      · exact ⟨none, _, by have := run_endLoop (P := P) hl (by rw [hrec]; simp); rw [hrec] at this; exact this, hdone g _ (hI _ _ _ _ hi) ((World.putObj_heap_other (by omega)).trans hk)⟩
      · exact ⟨some c, _, by have := run_endLoop (P := P) hl (by rw [hrec]; simp); rw [hrec] at this; exact this, hstop c g k _ hkl (hIx _ _ _ _ _ hi) ((World.putObj_heap_other (by omega)).trans hk)⟩

end Go.Proofs.YtlnhacbdbhmgkaaGreatDoor
