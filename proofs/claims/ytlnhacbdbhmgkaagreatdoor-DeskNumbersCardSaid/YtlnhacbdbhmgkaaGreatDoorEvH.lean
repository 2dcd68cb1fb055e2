/- One operation of a calculation: append, and all of them. -/
import Derived.Test.YtlnhacbdbhmgkaaGreatDoorEvG
import Derived.Deep.AppendSrc
namespace Go.Proofs.YtlnhacbdbhmgkaaGreatDoor

section
variable {P : Program} {ρ : Ren}

/-- What only loads leaves the world as it is. -/
theorem loadCellsFrom_same {a : Addr} {w : World} : ∀ (n i : Nat) (acc : Array Value) {x : Array Value} {w' : World}, (loadCellsFrom a i n acc).run P w = .ok x w' → w' = w
  | 0, i, acc, x, w', h => by cases h; rfl
  | n + 1, i, acc, x, w', h => by
    unfold Go.loadCellsFrom Go.load at h
    change (Sem.bind (.load .plain (a.add i) .pure) _).run P w = _ at h
    simp only [Sem.bind, Sem.run] at h
    split at h
    · exact loadCellsFrom_same n _ _ h
    · split at h
      · exact loadCellsFrom_same n _ _ h
      · cases h
theorem firstCells_same {size n : Nat} {x : Value} {w : World} {c : Array Value} {w' : World} (h : (Builtin.firstCells size n x).run P w = .ok c w') : w' = w := by
  unfold Builtin.firstCells at h
  split at h
  · exact loadCellsFrom_same _ _ _ h
  · cases h; rfl
  · cases h; rfl
  · cases h
theorem loadCellsFrom_still {a : Addr} {σ : AS} : ∀ (n i : Nat) (acc : Array Value) {x : Array Value} {σ' : AS}, arun P (loadCellsFrom a i n acc) σ = some (x, σ') → σ' = σ
  | 0, i, acc, x, w', h => by cases h; rfl
  | n + 1, i, acc, x, w', h => by
    unfold Go.loadCellsFrom Go.load at h
    change arun P (Sem.bind (.load .plain (a.add i) .pure) _) σ = _ at h
    simp only [Sem.bind, arun] at h
    split at h
    · cases h
    · split at h
      · split at h
        · exact loadCellsFrom_still n _ _ h
        · cases h
      · cases h
theorem firstCells_still {size n : Nat} {x : Value} {σ : AS} {c : Array Value} {σ' : AS} (h : arun P (Builtin.firstCells size n x) σ = some (c, σ')) : σ' = σ := by
  unfold Builtin.firstCells at h
  split at h
  · exact loadCellsFrom_still _ _ _ h
  · cases h; rfl
  · cases h; rfl
  · cases h

/-- How long what is appended is. -/
def lenV : Value → Option Nat
  | .slice _ n _ => some n
  | .string s => some s.size
  | _ => none
def isSliceOrString (P : Program) (t : TypeId) : Bool :=
  match P.underlying t with
  | some (.slice _) => true
  | some .string => true
  | _ => false

/-- Append, at a calculation's memory: where it is not known whether there is room, what comes out has a number of its own, and what was appended to is not looked at again. -/
def absAppend (P : Program) (st xt : TypeId) (s x : Value) (σ : AS) : Option (Value × AS) :=
  match P.underlying st, s, lenV x with
  | some (.slice e), .slice base n c, some m =>
    match P.info? e with
    | none => none
    | some i =>
      match i.zero, arun P (Builtin.firstCells i.size n s) σ, arun P (Builtin.firstCells i.size m x) σ with
      | some z, some (old, _), some (new, _) =>
        if isSliceOrString P xt && (z.cells.size == i.size) && (old.size == n * i.size) && (new.size == m * i.size) && new.all Value.oneCell && decide (n + m < 1048576) && decide (i.bytes ≤ 65536) && decide (σ.next < 9223372036854775806) then
          if c < BIG then
            if n + m ≤ c then
              match base with
              | none => some (.slice none (n + m) c, σ)
              | some a =>
                match arun P (storeCells (a.add (n * i.size)) new.toList) σ with
                | some (_, σ') => some (.slice base (n + m) c, σ')
                | none => none
            else some (.slice (some ⟨σ.next, 0, none⟩) (n + m) (2 * BIG), σ.push (.cells (old ++ new) e (0, 0)))
          else if m = 0 then some (s, σ)
          else
            match base with
            | some ⟨r, 0, none⟩ =>
              match σ.get r with
              | some (.cells _ e' f) => if e' = e ∧ f.1 = 0 ∧ GLOBS ≤ r then some (.slice (some ⟨σ.next, 0, none⟩) (n + m) (2 * BIG), (σ.put r none).push (.cells (old ++ new) e (0, 0))) else none
              | _ => none
            | _ => none
        else none
      | _, _, _ => none
  | _, _, _ => none

theorem WRel.drew {σ : AS} {w : World} (hw : WRel P ρ σ w) : WRel P ρ σ w.drew := ⟨hw.obj, hw.dom, hw.img, hw.inj, hw.glob, hw.small⟩
theorem Fr.from {n m n' : Nat} {w w' : World} {ρ' : Ren} (e : n = m) (h : Fr n n' ρ w ρ' w') : Fr m n' ρ w ρ' w' := e ▸ h
theorem Fr.drew {n n' : Nat} {w w' : World} {ρ' : Ren} (h : Fr n n' ρ w ρ' w') : Fr n n' ρ w ρ' w'.drew := ⟨h.le, h.os, h.tape, h.output, h.size, h.keep, h.fresh, h.up, h.names⟩
theorem loadCellsFrom_drew {a : Addr} {w : World} : ∀ (n i : Nat) (acc : Array Value) {x : Array Value} {w' : World}, (loadCellsFrom a i n acc).run P w = .ok x w' → (loadCellsFrom a i n acc).run P w.drew = .ok x w.drew
  | 0, i, acc, x, w', h => by cases h; rfl
  | n + 1, i, acc, x, w', h => by
    unfold Go.loadCellsFrom Go.load at h ⊢
    change (Sem.bind (.load .plain (a.add i) .pure) _).run P w = _ at h
    change (Sem.bind (.load .plain (a.add i) .pure) _).run P w.drew = _
    simp only [Sem.bind, Sem.run] at h ⊢
    have hc : w.drew.cell? (a.add i) = w.cell? (a.add i) := rfl
    rw [hc]
    split at h
    · rename_i v hv
      exact loadCellsFrom_drew n _ _ h
    · split at h
      · rename_i v _ hv
        have : w.drew.farLoad P (a.add i) (Mode.plain == .atomic) = w.farLoad P (a.add i) (Mode.plain == .atomic) := rfl
        rw [this, hv]
        exact loadCellsFrom_drew n _ _ h
      · cases h
theorem firstCells_drew {size n : Nat} {x : Value} {w : World} {c : Array Value} {w' : World} (h : (Builtin.firstCells size n x).run P w = .ok c w') : (Builtin.firstCells size n x).run P w.drew = .ok c w.drew := by
  unfold Builtin.firstCells at h ⊢
  split at h
  · exact loadCellsFrom_drew _ _ _ h
  · cases h; rfl
  · cases h; rfl
  · cases h

theorem VsRel.oneCells : ∀ {l l' : List Value}, VsRel ρ l l' → l.all Value.oneCell = true → ∀ u ∈ l', u.oneCell' = true
  | _, _, .nil, _ => fun u hu => by cases hu
  | _, _, .cons hv hs, ho => by
    simp only [List.all_cons, Bool.and_eq_true] at ho
    intro u hu
    rcases List.mem_cons.1 hu with rfl | hu
    · have := hv.oneCell
      rw [ho.1] at this
      cases u <;> first | rfl | (simp [Value.oneCell] at this)
    · exact hs.oneCells ho.2 u hu

theorem loadCellsFrom_get {a : Addr} {σ : AS} {cs : Array Value} {e : TypeId} {f : Nat × Nat} (hg : σ.get a.block = some (.cells cs e f)) : ∀ (n i : Nat) (acc : Array Value) {x : Array Value} {σ' : AS}, arun P (loadCellsFrom a i n acc) σ = some (x, σ') →
    ∀ (k : Nat) (u : Value), x[k]? = some u → acc[k]? = some u ∨ acc.size ≤ k ∧ cs[a.off + i + (k - acc.size)]? = some u
  | 0, i, acc, x, w', h, k, u, hu => by cases h; exact .inl hu
  | n + 1, i, acc, x, w', h, k, u, hu => by
    unfold Go.loadCellsFrom Go.load at h
    change arun P (Sem.bind (.load .plain (a.add i) .pure) _) σ = _ at h
    simp only [Sem.bind, arun] at h
    have hb : (a.add i).block = a.block := by unfold Addr.add; split <;> rfl
    have hoff : (a.add i).off = a.off + i := by
      unfold Addr.add; split
      · rename_i h0; simp [h0]
      · rfl
    rw [hb, hg] at h
    dsimp only at h
    split at h
    · cases h
    · split at h
      · rename_i v hv
        rw [hoff, Array.getElem?_toList] at hv
        rcases loadCellsFrom_get hg n _ _ h k u hu with h1 | ⟨h1, h2⟩
        · rw [Array.getElem?_push] at h1
          split at h1
          · rename_i hk
            cases h1
            subst hk
            exact .inr ⟨Nat.le_refl _, by simpa using hv⟩
          · exact .inl h1
        · simp only [Array.size_push] at h1 h2
          refine .inr ⟨by omega, ?_⟩
          rw [← h2]
          congr 1
          omega
      · cases h

/-- The cells of an argument, at the run. -/
theorem cells_at {σ : AS} {w : World} (hw : WRel P ρ σ w) {size n : Nat} {x x' : Value} (hx : VRel ρ x x') (hn : ∀ r m c, x = .slice r m c → n ≤ m) {c : Array Value} {σ' : AS} (h : arun P (Builtin.firstCells size n x) σ = some (c, σ')) :
    ∃ ρ1 c', (Builtin.firstCells size n x').run P w = .ok c' w ∧ WRel P ρ1 σ w ∧ Fr σ.next σ.next ρ w ρ1 w ∧ AsRel ρ1 c c' := by
  obtain ⟨ρ1, c', w1, h1, h2, h3, h4⟩ := Sim.firstCells size n hx hn σ w hw c σ' h
  obtain rfl := firstCells_same h1
  obtain rfl := firstCells_still h
  exact ⟨ρ1, c', h1, h2, h3, h4⟩

theorem lenV_rel {x x' : Value} (h : VRel ρ x x') : lenV x' = lenV x := by cases h <;> rfl
theorem lenV_run {x : Value} {m : Nat} (h : lenV x = some m) (w : World) : (Builtin.lenOf x).run P w = .ok m w := by
  cases x <;> first | (cases h; done) | (cases h; rfl)
theorem kind_of {t : TypeId} (h : isSliceOrString P t = true) : (∃ e', P.underlying t = some (.slice e')) ∨ P.underlying t = some .string := by
  unfold isSliceOrString at h
  split at h
  · exact .inl ⟨_, ‹_›⟩
  · exact .inr ‹_›
  · cases h

def fillL : Nat → Array Value → List Value → Array Value
  | _, c, [] => c
  | o, c, v :: vs => fillL (o + 1) (c.setIfInBounds o v) vs
theorem fillL_size : ∀ (vs : List Value) (o : Nat) (c : Array Value), (fillL o c vs).size = c.size
  | [], _, _ => rfl
  | v :: vs, o, c => by simp [fillL, fillL_size vs]
theorem fillL_out : ∀ (vs : List Value) (o : Nat) (c : Array Value) (i : Nat), i < o ∨ o + vs.length ≤ i → (fillL o c vs)[i]? = c[i]?
  | [], _, _, _, _ => rfl
  | v :: vs, o, c, i, h => by
    simp only [List.length_cons] at h
    rw [fillL, fillL_out vs (o + 1) _ i (by omega), Array.getElem?_setIfInBounds_ne (by omega)]
theorem fillL_in : ∀ (vs : List Value) (o : Nat) (c : Array Value) (j : Nat) (v : Value), o + vs.length ≤ c.size → vs[j]? = some v → (fillL o c vs)[o + j]? = some v
  | [], _, _, _, _, _, h => by simp at h
  | v :: vs, o, c, 0, u, hl, h => by
    simp only [List.length_cons] at hl
    simp at h
    subst h
    rw [fillL, fillL_out vs (o + 1) _ (o + 0) (by omega)]
    rw [Nat.add_zero, Array.getElem?_setIfInBounds_self_of_lt (by omega)]
  | v :: vs, o, c, j + 1, u, hl, h => by
    simp only [List.length_cons] at hl
    have := fillL_in vs (o + 1) (c.setIfInBounds o v) j u (by simp; omega) (by simpa using h)
    rw [fillL, ← this]
    congr 1
    omega
theorem setCells_heap (b : Nat) {e : TypeId} {f : Nat × Nat} : ∀ (vs : List Value) (o : Nat) (w : World) (c : Array Value), w.heap[b]? = some (.cells c e f) →
    (w.setCells b o vs).heap = w.heap.setIfInBounds b (.cells (fillL o c vs) e f)
  | [], o, w, c, h => by
    unfold World.setCells fillL
    apply Array.ext
    · simp
    · intro i h1 h2
      by_cases hi : b = i
      · subst hi
        simp only [Array.getElem_setIfInBounds_self]
        rw [Array.getElem?_eq_getElem h1] at h
        exact Option.some.inj h
      · rw [Array.getElem_setIfInBounds_ne h1 hi]
  | v :: vs, o, w, c, h => by
    have h1 := setCell_heap w b o v h
    have hb : b < w.heap.size := by
      rcases Nat.lt_or_ge b w.heap.size with h' | h'
      · exact h'
      · simp [Array.getElem?_eq_none h'] at h
    unfold World.setCells fillL
    have h2 : (w.setCell ⟨b, o, none⟩ v).heap[b]? = some (.cells (c.setIfInBounds o v) e f) := by rw [h1]; simp [hb]
    rw [setCells_heap b vs (o + 1) _ _ h2, h1, Array.setIfInBounds_setIfInBounds]
theorem setCells_rest (b : Nat) : ∀ (vs : List Value) (o : Nat) (w : World), (w.setCells b o vs).os = w.os ∧ (w.setCells b o vs).tape = w.tape ∧ (w.setCells b o vs).output = w.output
  | [], _, _ => ⟨rfl, rfl, rfl⟩
  | v :: vs, o, w => by
    unfold World.setCells
    exact setCells_rest b vs (o + 1) _

/-- A block that is not looked at again. -/
theorem AS.get_put {σ : AS} {r j : Nat} {o : Option Obj} (h : r < 2 ^ 64 - 1 ∨ o = none) : (σ.put r o).get j = if j = r then o else σ.get j := Tr.get_set _ _ _ _ h
theorem AS.get_push {σ : AS} {j : Nat} {o : Obj} (h : σ.next < 2 ^ 64 - 1) : (σ.push o).get j = if j = σ.next then some o else σ.get j := Tr.get_set _ _ _ _ (.inl h)
theorem WRel.kill {σ : AS} {w : World} (hw : WRel P ρ σ w) (r : Nat) : WRel P ρ (σ.put r none) w := by
  have hg : ∀ {j x}, (σ.put r none).get j = some x → σ.get j = some x := fun {j x} h => by
    rw [AS.get_put (.inr rfl)] at h
    split at h
    · cases h
    · exact h
  exact ⟨fun j x l h1 h2 => hw.obj j x l (hg h1) h2, hw.dom, hw.img, fun a b l l' x y h1 h2 => hw.inj a b l l' x y (hg h1) (hg h2), hw.glob, hw.small⟩
/-- A new number for the block of one that is not looked at again. -/
theorem WRel.alias {σ : AS} {w : World} (hw : WRel P ρ σ w) {r : Nat} {x o o' : Obj} {l : Lies} (hg : σ.get r = some x) (hr : ρ r = some l) (ho : ORel P (ρ.more σ.next l) l o o') (hn : σ.next < 9223372036854775806) {w' : World}
    (hw' : w'.heap = w.heap.setIfInBounds l.b o') : WRel P (ρ.more σ.next l) ((σ.put r none).push o) w' := by
  have hle := Ren.le_more (l := l) hw.free
  have hb : l.b < w.heap.size := hw.img _ _ hr
  have hother : ∀ {j y}, ((σ.put r none).push o).get j = some y → j ≠ σ.next → j ≠ r ∧ σ.get j = some y := fun {j y} h hne => by
    rw [AS.get_push (by show σ.next < _; omega)] at h
    rw [if_neg (show ¬ j = (σ.put r none).next from hne), AS.get_put (.inr rfl)] at h
    split at h
    · cases h
    · exact ⟨‹_›, h⟩
  refine ⟨fun j y k hy hk => ?_, fun j k hk => ?_, fun j k hk => ?_, fun r1 r2 l1 l2 y z hy hz h1 h2 he => ?_, fun g hg => ?_, ?_⟩
  · unfold Ren.more at hk
    split at hk
    · rename_i e
      cases hk
      subst e
      rw [AS.get_push (by show σ.next < _; omega)] at hy
      rw [if_pos (show σ.next = (σ.put r none).next from rfl)] at hy
      cases hy
      exact ⟨o', by rw [hw']; simp [hb], ho⟩
    · rename_i e
      obtain ⟨hjr, hy⟩ := hother hy e
      obtain ⟨y', h3, h4⟩ := hw.obj j y k hy hk
      refine ⟨y', ?_, h4.mono hle⟩
      have : l.b ≠ k.b := fun e => hjr (hw.inj j r k l _ _ hy hg hk hr e.symm)
      rw [hw', Array.getElem?_setIfInBounds_ne this, h3]
  · unfold Ren.more at hk
    show j < σ.next + 1
    split at hk
    · omega
    · have := hw.dom _ _ hk; omega
  · unfold Ren.more at hk
    rw [hw', Array.size_setIfInBounds]
    split at hk
    · cases hk; exact hb
    · exact hw.img _ _ hk
  · unfold Ren.more at h1 h2
    split at h1 <;> split at h2
    · omega
    · rename_i e1 e2
      cases h1
      obtain ⟨hjr, hz⟩ := hother hz e2
      exact absurd (hw.inj r2 r l2 l _ _ hz hg h2 hr he.symm) hjr
    · rename_i e1 e2
      cases h2
      obtain ⟨hjr, hy⟩ := hother hy e1
      exact absurd (hw.inj r1 r l1 l _ _ hy hg h1 hr he) hjr
    · rename_i e1 e2
      exact hw.inj r1 r2 l1 l2 y z (hother hy e1).2 (hother hz e2).2 h1 h2 he
  · obtain ⟨k, hk, e⟩ := hw.glob g hg
    exact ⟨k, hle _ _ hk, e⟩
  · show σ.next + 1 < 2 ^ 63
    omega
theorem Fr.alias {σ : AS} {w : World} (hw : WRel P ρ σ w) {r : Nat} {o' : Obj} {l : Lies} (hgl : GLOBS ≤ r) (hr : ρ r = some l) {w' : World} (hw' : w'.heap = w.heap.setIfInBounds l.b o') (hos : w'.os = w.os) (ht : w'.tape = w.tape) (hout : w'.output = w.output) :
    Fr σ.next (σ.next + 1) ρ w (ρ.more σ.next l) w' :=
  ⟨Ren.le_more hw.free, hos, ht, hout, by rw [hw']; simp, fun b hb hn => by rw [hw', Array.getElem?_setIfInBounds_ne (hn r l hr hgl)], fun j k hk hg => by
    unfold Ren.more at hk
    split at hk
    · cases hk; exact .inl ⟨r, l, hr, hgl, rfl⟩
    · exact .inl ⟨j, k, hk, hg, rfl⟩, Nat.le_succ _, fun r k h0 hk => by
    unfold Ren.more at hk
    split at hk
    · rename_i e; exact Nat.le_of_eq e.symm
    · rw [h0] at hk; cases hk⟩

/-- What a piece of the run comes to. -/
def Comes1 (P : Program) (ρ : Ren) {α β : Type} (R : Ren → α → β → Prop) (σ : AS) (w : World) (a : α) (σ' : AS) (r : Result β) : Prop :=
  ∃ ρ' b w', r = .ok b w' ∧ WRel P ρ' σ' w' ∧ Fr σ.next σ'.next ρ w ρ' w' ∧ R ρ' a b

theorem absAppend_sound {σ : AS} {w : World} (hw : WRel P ρ σ w) {st xt : TypeId} {s s' x x' v : Value} {σ' : AS} (hs : VRel ρ s s') (hx : VRel ρ x x') (h : absAppend P st xt s x σ = some (v, σ')) (ty : TypeId) :
    Comes1 P ρ VRel σ w v σ' ((Builtin.append_ #[st, xt] ty #[s', x']).run P w) := by
  unfold absAppend at h
  split at h
  case h_2 => cases h
  rename_i e base n c m hst hlen
  split at h
  · cases h
  rename_i i hi
  split at h
  case h_2 => cases h
  rename_i z old σ1 new σ2 hz hold hnew
  split at h
  case isFalse => cases h
  rename_i hg
  simp only [Bool.and_eq_true, beq_iff_eq, decide_eq_true_eq] at hg
  obtain ⟨⟨⟨⟨⟨⟨⟨hk, hzs⟩, hos⟩, hns⟩, hone⟩, hnm⟩, hby⟩, hnext⟩ := hg
  obtain ⟨ρ1, old', ho1, hw1, hf1, hold'⟩ := cells_at hw hs (fun r m c h => by cases h; exact Nat.le_refl _) hold
  obtain ⟨ρ2, new', hn1, hw2, hf2, hnew'⟩ := cells_at hw1 (hx.mono hf1.le) (fun r k c h => by subst h; cases hlen; exact Nat.le_refl _) hnew
  have hf := hf1.trans hf2
  have hs2 := hs.mono hf.le
  have hold2 := hold'.mono hf2.le
  have hesz : esz P e = i.size := by simp [esz, hi]
  have hsrc : Src P i.size xt x' m new'.toList w :=
    ⟨kind_of hk, fun w' => lenV_run (by rw [lenV_rel hx]; exact hlen) w', by simpa using hn1, by simpa using firstCells_drew hn1, by rw [Array.length_toList, hnew'.size, hns], VsRel.oneCells hnew' (by simpa using hone)⟩
  have hfit : ∀ {k : Nat}, k < n + m → Builtin.nextslicecap (n + m) k * i.bytes ≤ 281474976710656 := fun {k} hk => growslice_fits hk (by
    have : (n + m) * i.bytes ≤ 1048576 * 65536 := Nat.mul_le_mul (by omega) hby
    omega)
  -- a new row
  have grow : ∀ (a' : Option Addr) (c' : Nat) (σ3 : AS), s' = .slice a' n c' → c' < n + m → WRel P ρ2 σ3 w → σ3.next = σ.next → Comes1 P ρ VRel σ w (.slice (some ⟨σ.next, 0, none⟩) (n + m) (2 * BIG)) (σ3.push (.cells (old ++ new) e (0, 0))) ((Builtin.append_ #[st, xt] ty #[s', x']).run P w) := by
    intro a' c' σ3 hs' hlt hw3 hn3
    subst hs'
    have hr := run_append_grow_src (P := P) w st xt ty e i z hst hi hz a' n c' old'.toList (by simpa using firstCells_drew ho1) x' m new'.toList hsrc hlt (by omega) (hfit hlt)
    have hge := grownCap_ge w (n + m) c' e
    have hsize : ((old'.toList ++ new'.toList).toArray ++ Builtin.zeroCells z.cells (grownCap w (n + m) c' e - (n + m))).size = grownCap w (n + m) c' e * i.size := by
      simp only [Array.size_append, List.size_toArray, List.length_append, Array.length_toList, size_zeroCells, hold'.size, hnew'.size, hos, hns, hzs]
      rw [← Nat.add_mul, ← Nat.add_mul]
      congr 1
      omega
    have hor : ORel P (ρ2.more σ3.next ⟨w.heap.size, grownCap w (n + m) c' e * i.size, i.size⟩) ⟨w.heap.size, grownCap w (n + m) c' e * i.size, i.size⟩ (.cells (old ++ new) e (0, 0)) (.cells ((old'.toList ++ new'.toList).toArray ++ Builtin.zeroCells z.cells (grownCap w (n + m) c' e - (n + m))) e) := by
      refine .cells hsize (fun k u hu => ?_) (fun o _ h => by simp at h) hesz
      have happ : AsRel ρ2 (old ++ new) (old' ++ new') := hold2.append hnew'
      obtain ⟨u', h1, h2⟩ := happ.get hu
      refine ⟨u', ?_, h2.mono (Ren.le_more hw3.free)⟩
      have hlt' : k < (old' ++ new').size := by
        rcases Nat.lt_or_ge k (old' ++ new').size with h | h
        · exact h
        · simp [Array.getElem?_eq_none h] at h1
      rw [show (old'.toList ++ new'.toList).toArray = old' ++ new' by apply Array.ext'; simp, Array.getElem?_append_left hlt']
      exact h1
    refine ⟨_, _, _, hr, WRel.push hw3.drew rfl hor (by omega) rfl, hf.trans (Fr.from hn3 (Fr.push hw3 rfl rfl rfl rfl rfl)), ?_⟩
    rw [hn3]
    exact .sliceF (l := ⟨w.heap.size, grownCap w (n + m) c' e * i.size, i.size⟩) (by simp [Ren.more]) (by simp [BIG]) hge (by simp) (.inl rfl)
  split at h
  · rename_i hcb
    split at h
    · rename_i hroom
      split at h
      · -- nil
        cases h
        cases hs2
        refine ⟨ρ2, _, w, ?_, hw2, hf, .sliceNil _ _ hcb⟩
        rcases hsrc.kind with ⟨e', hk'⟩ | hk' <;> simp [Builtin.append_, run_underlying hst, run_underlying hk', sizeOf, typeInfo, hi, hsrc.len, hroom, hsrc.cells]
      · rename_i a
        split at h
        case h_2 => cases h
        rename_i u σ3 hst3
        cases h
        cases hs2 with
        | sliceF hr hb => exact absurd hb (Nat.not_le.2 hcb)
        | sliceX _ _ hr hc =>
        obtain ⟨ρ3, b, w3, h3, hw3, hf3, -⟩ := Sim.storeCells 0 ((AR.of hr).add (n * i.size)) hnew' σ w hw2 u σ' hst3
        refine ⟨ρ3, _, w3, ?_, hw3, hf.trans hf3, .sliceX _ _ (hf3.le _ _ hr) hcb⟩
        rcases hsrc.kind with ⟨e', hk'⟩ | hk' <;> simp [Builtin.append_, run_underlying hst, run_underlying hk', sizeOf, typeInfo, hi, hsrc.len, hroom, hsrc.cells, h3]
    · rename_i hroom
      cases h
      cases hs2 with
      | sliceF hr hb => exact absurd hb (Nat.not_le.2 hcb)
      | sliceNil _ _ hc => exact grow none c σ rfl (by omega) hw2 rfl
      | sliceX _ _ hr hc => exact grow _ c σ rfl (by omega) hw2 rfl
  · rename_i hcb
    split at h
    · rename_i hm
      cases h
      subst hm
      have hnil : new'.toList = [] := by
        have := hsrc.newsLen
        simpa using this
      refine ⟨ρ2, s', w, ?_, hw2, hf, hs2⟩
      cases hs2 with
      | sliceNil _ _ hc => exact absurd hc hcb
      | sliceX _ _ hr hc => exact absurd hc hcb
      | sliceF hr hb hn hl ho =>
        have hcells := hsrc.cells
        rw [hnil] at hcells
        rcases hsrc.kind with ⟨e', hk'⟩ | hk' <;> simp [Builtin.append_, run_underlying hst, run_underlying hk', sizeOf, typeInfo, hi, hsrc.len, hn, hcells, Go.storeCells]
    · rename_i hm
      split at h
      case h_2 => cases h
      rename_i r
      split at h
      case h_2 => cases h
      rename_i cs e' f hgr
      split at h
      case isFalse => cases h
      rename_i hee
      obtain ⟨hee, hf0, hgl⟩ := hee
      subst hee
      cases h
      cases hs2 with
      | sliceX _ _ hr hc => exact absurd hc hcb
      | sliceF hr hb hn hl ho =>
      rename_i o' c' l
      by_cases hroom : n + m ≤ c'
      · obtain rfl : o' = 0 := by
          rcases ho with rfl | ⟨h0, h0'⟩
          · rfl
          · omega
        obtain ⟨cs', f', hb', hsz, hcs, hfz, hel⟩ := hw2.fits hgr hf0 hr
        have hels : l.esz = i.size := by rw [← hel, hesz]
        have hlim : (n + m) * i.size ≤ l.lim := by
          rw [hels] at hl
          have := Nat.mul_le_mul_right i.size hroom
          omega
        have hlen' : new'.toList.length = m * i.size := hsrc.newsLen
        have hadd : n * i.size + m * i.size = (n + m) * i.size := (Nat.add_mul _ _ _).symm
        have hr' := run_append_room_src (P := P) w st xt ty e' i hst hi l.b 0 n c' x' m new'.toList hsrc hroom (fun j hj => ?_) (fun j hj => ?_)
        · have hheap := setCells_heap l.b new'.toList (0 + n * i.size) w cs' hb'
          obtain ⟨q1, q2, q3⟩ := setCells_rest l.b new'.toList (0 + n * i.size) w
          have hor : ORel P (ρ2.more σ.next l) l (.cells (old ++ new) e' (0, 0)) (.cells (fillL (0 + n * i.size) cs' new'.toList) e' f') := by
            refine .cells (by rw [fillL_size, hsz]) (fun k u hu => ?_) hfz hel
            rw [Array.getElem?_append] at hu
            split at hu
            · rename_i hk
              rw [hos] at hk
              have hcu : cs[k]? = some u := by
                rcases loadCellsFrom_get (a := ⟨r, 0, none⟩) hgr _ _ _ hold k u hu with h1 | ⟨-, h1⟩
                · simp at h1
                · simpa using h1
              obtain ⟨u', h1, h2⟩ := hcs _ _ hcu
              refine ⟨u', ?_, h2.mono (Ren.le_more hw2.free)⟩
              rw [fillL_out _ _ _ _ (by omega), h1]
            · rename_i hk
              rw [hos] at hu hk
              obtain ⟨u', h1, h2⟩ := hnew'.get hu
              refine ⟨u', ?_, h2.mono (Ren.le_more hw2.free)⟩
              have := fillL_in new'.toList (0 + n * i.size) cs' (k - n * i.size) u' (by omega) (by simpa using h1)
              rw [← this]
              congr 1
              omega
          exact ⟨_, _, _, hr', hw2.alias hgr hr hor hnext hheap, hf.trans (Fr.alias hw2 hgl hr hheap q1 q2 q3), .sliceF (l := l) (by simp [Ren.more]) (by simp [BIG]) hroom hl (.inl rfl)⟩
        · unfold World.cell?
          simp only [hb']
          simp
          omega
        · unfold World.frozen?
          simp only [hb']
          have := hfz (0 + n * i.size + j) (by omega)
          obtain ⟨lo, hi'⟩ := f'
          simp only [Bool.and_eq_false_iff, decide_eq_false_iff_not] at *
          by_cases hh : lo ≤ 0 + n * i.size + j
          · exact .inr fun h => this ⟨hh, h⟩
          · exact .inl hh
      · exact grow _ c' (σ.put r none) rfl (by omega) (hw2.kill r) rfl

end
end Go.Proofs.YtlnhacbdbhmgkaaGreatDoor
