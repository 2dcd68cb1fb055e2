/- Sem at a calculation's memory ('arun'), and its likeness to a run ('Sim'). -/
import Derived.Test.YtlnhacbdbhmgkaaGreatDoorEvB
namespace Go.Proofs.YtlnhacbdbhmgkaaGreatDoor

def Obj.isCells : Obj → Bool
  | .cells .. => true
  | _ => false

/-- The calculation. Where it would look at what it doesn't know it gives up. -/
def arun (P : Program) {α : Type} : Sem α → AS → Option (α × AS)
  | .pure a, σ => some (a, σ)
  | .load _ a k, σ =>
    match a.spot with
    | some _ => none
    | none =>
      match σ.get a.block with
      | some (.cells c _ _) =>
        match c.toList[a.off]? with
        | some v => arun P (k v) σ
        | none => none
      | _ => none
  | .store _ a v k, σ =>
    match v.oneCell, a.spot, Nat.blt a.block GLOBS with
    | true, none, false =>
      match σ.get a.block with
      | some (.cells c e f) =>
        match c.toList[a.off]?, Nat.beq f.1 0 with
        | some _, true => arun P k (σ.put a.block (some (.cells ⟨c.toList.set a.off v⟩ e f)))
        | _, _ => none
      | _ => none
    | _, _, _ => none
  | .new o k, σ =>
    match Nat.blt σ.next 9223372036854775806 with
    | true => arun P (k σ.next) (σ.push o)
    | false => none
  | .shape _ _, _ => none
  | .freeze _ _ _, _ => none
  | .frozen _ _, _ => none
  | .getObj r k, σ =>
    match σ.get r with
    | some o =>
      match Obj.isCells o with
      | true => none
      | false => arun P (k o) σ
    | none => none
  | .setObj r o k, σ =>
    match σ.get r with
    | some o0 =>
      match Obj.isCells o0 || Obj.isCells o || Nat.blt r GLOBS with
      | true => none
      | false => arun P k (σ.put r (some o))
    | none => none
  | .choose q k, σ =>
    match q.forced with
    | true => arun P (k 0) σ
    | false => none
  | .sys _ _, _ => none
  | .program k, σ => arun P (k P) σ
  | .mark _ k, σ => arun P k σ
  | .halt _, _ => none

/-- The run at a world that holds the like goes as the calculation. -/
def Sim (P : Program) (ρ : Ren) {α β : Type} (R : Ren → α → β → Prop) (s : Sem α) (s' : Sem β) : Prop :=
  ∀ σ w, WRel P ρ σ w → ∀ a σ', arun P s σ = some (a, σ') → ∃ ρ' b w', s'.run P w = .ok b w' ∧ WRel P ρ' σ' w' ∧ Fr σ.next σ'.next ρ w ρ' w' ∧ R ρ' a b

section
variable {P : Program} {ρ : Ren} {α β γ δ : Type}

theorem Sim.ret {R : Ren → α → β → Prop} {a : α} {b : β} (h : R ρ a b) : Sim P ρ R (Pure.pure a) (Pure.pure b) := by
  intro σ w hw x σ' hx
  simp only [Pure.pure, arun, Option.some.injEq, Prod.mk.injEq] at hx
  obtain ⟨rfl, rfl⟩ := hx
  exact ⟨ρ, b, w, rfl, hw, .refl _ _, h⟩

theorem arun_bind {f : α → Sem γ} : ∀ (s : Sem α) (σ : AS), arun P (s.bind f) σ = (arun P s σ).bind fun x => arun P (f x.1) x.2
  | .pure a, σ => rfl
  | .load m a k, σ => by
    simp only [Sem.bind, arun]
    cases a.spot with
    | some _ => rfl
    | none =>
      dsimp only
      split
      · split
        · exact arun_bind _ _
        · rfl
      · rfl
  | .store m a v k, σ => by
    simp only [Sem.bind, arun]
    split
    · split
      · split
        · exact arun_bind _ _
        · rfl
      · rfl
    · rfl
  | .new o k, σ => by
    simp only [Sem.bind, arun]
    split
    · exact arun_bind _ _
    · rfl
  | .shape _ _, _ => rfl
  | .freeze _ _ _, _ => rfl
  | .frozen _ _, _ => rfl
  | .getObj r k, σ => by
    simp only [Sem.bind, arun]
    split
    · split
      · rfl
      · exact arun_bind _ _
    · rfl
  | .setObj r o k, σ => by
    simp only [Sem.bind, arun]
    split
    · split
      · rfl
      · exact arun_bind _ _
    · rfl
  | .choose q k, σ => by
    simp only [Sem.bind, arun]
    split
    · exact arun_bind _ _
    · rfl
  | .sys _ _, _ => rfl
  | .program k, σ => by simp only [Sem.bind, arun]; exact arun_bind _ _
  | .mark _ k, σ => by simp only [Sem.bind, arun]; exact arun_bind _ _
  | .halt _, _ => rfl

theorem Sim.bind {R : Ren → α → β → Prop} {R' : Ren → γ → δ → Prop} {s : Sem α} {s' : Sem β} {f : α → Sem γ} {f' : β → Sem δ}
    (h : Sim P ρ R s s') (k : ∀ ρ', ρ.le ρ' → ∀ a b, R ρ' a b → Sim P ρ' R' (f a) (f' b)) : Sim P ρ R' (s >>= f) (s' >>= f') := by
  intro σ w hw x σ' hx
  change arun P (s.bind f) σ = _ at hx
  rw [arun_bind] at hx
  cases h1 : arun P s σ with
  | none => rw [h1] at hx; cases hx
  | some y =>
    obtain ⟨a, σ1⟩ := y
    rw [h1] at hx
    obtain ⟨ρ1, b, w1, hr, hw1, hf, hR⟩ := h σ w hw a σ1 h1
    obtain ⟨ρ2, c, w2, hr2, hw2, hf2, hR2⟩ := k ρ1 hf.le a b hR σ1 w1 hw1 x σ' hx
    refine ⟨ρ2, c, w2, ?_, hw2, hf.trans hf2, hR2⟩
    rw [Sem.run_bind, hr]
    exact hr2

theorem Sim.skip {R : Ren → γ → δ → Prop} {a : α} {b : β} {f : α → Sem γ} {g : β → Sem δ} (h : Sim P ρ R (f a) (g b)) : Sim P ρ R (Pure.pure a >>= f) (Pure.pure b >>= g) := h
theorem Sim.mono {R R' : Ren → α → β → Prop} {s : Sem α} {s' : Sem β} (h : Sim P ρ R s s') (k : ∀ ρ' a b, ρ.le ρ' → R ρ' a b → R' ρ' a b) : Sim P ρ R' s s' := by
  intro σ w hw x σ' hx
  obtain ⟨ρ1, b, w1, hr, hw1, hf, hR⟩ := h σ w hw x σ' hx
  exact ⟨ρ1, b, w1, hr, hw1, hf, k _ _ _ hf.le hR⟩

theorem Sim.halt {R : Ren → α → β → Prop} {h : Halt} {s' : Sem β} : Sim P ρ R (.halt h) s' := by
  intro σ w hw x σ' hx; cases hx
theorem Sim.stuck {R : Ren → α → β → Prop} {h : String} {s' : Sem β} : Sim P ρ R (stuck h) s' := Sim.halt
theorem Sim.unsupported {R : Ren → α → β → Prop} {h : Unsupported} {s' : Sem β} : Sim P ρ R (unsupported h) s' := Sim.halt
theorem Sim.goPanic {R : Ren → α → β → Prop} {h : Value} {s' : Sem β} : Sim P ρ R (goPanic h) s' := Sim.halt

/-- What gives up at the first half gives up. -/
def Dead (P : Program) (s : Sem α) : Prop := ∀ σ, arun P s σ = none
theorem Dead.sim {R : Ren → α → β → Prop} {s : Sem α} {s' : Sem β} (h : Dead P s) : Sim P ρ R s s' := by
  intro σ w hw x σ' hx; rw [h σ] at hx; cases hx
theorem Dead.bind {s : Sem α} {f : α → Sem γ} (h : Dead P s) : Dead P (s >>= f) := by
  intro σ; change arun P (s.bind f) σ = _; rw [arun_bind, h σ]; rfl
theorem Dead.then {s : Sem α} {f : α → Sem γ} (h : ∀ a, Dead P (f a)) : Dead P (s >>= f) := by
  intro σ; change arun P (s.bind f) σ = _; rw [arun_bind]
  cases arun P s σ with
  | none => rfl
  | some x => exact h _ _
theorem Dead.halt {h : Halt} : Dead P (.halt h : Sem α) := fun _ => rfl
theorem Dead.panics {e : RuntimeError} : Dead P (runtimePanic e : Sem α) := by
  unfold runtimePanic
  refine Dead.then fun p => ?_
  cases e <;> dsimp only <;> first | exact Dead.halt | exact Dead.then fun _ => Dead.then fun _ => Dead.halt
theorem Dead.bounds {k : IntKind} {x y : Int} {c : BoundsCode} : Dead P (boundsPanic k x y c : Sem α) := by
  unfold boundsPanic
  dsimp only
  split <;> exact Dead.then fun _ => Dead.panics
theorem Sim.panics {R : Ren → α → β → Prop} {e : RuntimeError} {s' : Sem β} : Sim P ρ R (runtimePanic e) s' := Dead.panics.sim
theorem Sim.bounds {R : Ren → α → β → Prop} {k : IntKind} {x y : Int} {c : BoundsCode} {s' : Sem β} : Sim P ρ R (boundsPanic k x y c) s' := Dead.bounds.sim

theorem Sim.program : Sim P ρ (fun _ a b => a = P ∧ b = P) program program := by
  intro σ w hw x σ' hx
  simp only [Go.program, arun, Option.some.injEq, Prod.mk.injEq] at hx
  obtain ⟨rfl, rfl⟩ := hx
  exact ⟨ρ, P, w, rfl, hw, .refl _ _, rfl, rfl⟩

/-- One and the same Sem that only reads the program. -/
def still (P : Program) : Sem α → Option α
  | .pure a => some a
  | .program k => still P (k P)
  | .mark _ k => still P k
  | .choose q k => if q.forced then still P (k 0) else none
  | _ => none
theorem still_run : ∀ (s : Sem α) {a : α}, still P s = some a → ∀ w, s.run P w = .ok a w
  | .pure x, a, h, w => by cases h; rfl
  | .program k, a, h, w => still_run (k P) h w
  | .mark m k, a, h, w => still_run k h w
  | .choose q k, a, h, w => by
    simp only [still] at h
    split at h
    · rename_i hq; simp only [Sem.run, hq, if_true]; exact still_run (k 0) h w
    · cases h
  | .load .., a, h, w => by cases h
  | .store .., a, h, w => by cases h
  | .new .., a, h, w => by cases h
  | .shape .., a, h, w => by cases h
  | .freeze .., a, h, w => by cases h
  | .frozen .., a, h, w => by cases h
  | .getObj .., a, h, w => by cases h
  | .setObj .., a, h, w => by cases h
  | .sys .., a, h, w => by cases h
  | .halt .., a, h, w => by cases h
/-- The calculation of such a Sem. -/
theorem still_arun : ∀ (s : Sem α) {a : α}, still P s = some a → ∀ σ, arun P s σ = some (a, σ)
  | .pure x, a, h, w => by cases h; rfl
  | .program k, a, h, w => still_arun (k P) h w
  | .mark m k, a, h, w => still_arun k h w
  | .choose q k, a, h, w => by
    simp only [still] at h
    split at h
    · rename_i hq; simp only [arun, hq]; exact still_arun (k 0) h w
    · cases h
  | .load .., a, h, w => by cases h
  | .store .., a, h, w => by cases h
  | .new .., a, h, w => by cases h
  | .shape .., a, h, w => by cases h
  | .freeze .., a, h, w => by cases h
  | .frozen .., a, h, w => by cases h
  | .getObj .., a, h, w => by cases h
  | .setObj .., a, h, w => by cases h
  | .sys .., a, h, w => by cases h
  | .halt .., a, h, w => by cases h

/-- A Sem that reads the program alone, or gives up. -/
def Dull (P : Program) (s : Sem α) : Prop := Dead P s ∨ ∃ a, still P s = some a
theorem Dull.sim {s : Sem α} (h : Dull P s) : Sim P ρ (fun _ a b => a = b ∧ still P s = some a) s s := by
  rcases h with h | ⟨a, h⟩
  · exact h.sim
  · intro σ w hw x σ' hx
    rw [still_arun s h] at hx
    cases hx
    exact ⟨ρ, _, w, still_run s h w, hw, .refl _ _, rfl, h⟩

theorem Sim.typeInfo (t : TypeId) : Sim P ρ (fun _ a b => a = b ∧ P.info? t = some a) (typeInfo t) (typeInfo t) := by
  unfold Go.typeInfo
  refine Sim.bind Sim.program ?_
  rintro ρ' hle a b ⟨ha, hb⟩
  rw [ha, hb]
  cases h : P.info? t with
  | none => exact Sim.stuck
  | some i => exact Sim.ret ⟨rfl, rfl⟩
theorem Sim.underlying (t : TypeId) : Sim P ρ (fun _ a b => a = b ∧ P.underlying t = some a) (underlying t) (underlying t) := by
  unfold Go.underlying
  refine Sim.bind Sim.program ?_
  rintro ρ' hle a b ⟨ha, hb⟩
  rw [ha, hb]
  cases h : P.underlying t with
  | none => exact Sim.stuck
  | some i => exact Sim.ret ⟨rfl, rfl⟩
theorem Sim.sizeOf (t : TypeId) : Sim P ρ (fun _ a b => a = b ∧ esz P t = a) (sizeOf t) (sizeOf t) := by
  unfold Go.sizeOf
  refine Sim.bind (Sim.typeInfo t) ?_
  rintro ρ' hle a b ⟨rfl, h⟩
  exact Sim.ret ⟨rfl, by simp [esz, h]⟩
theorem Sim.isAgg (t : TypeId) : Sim P ρ (fun _ a b => a = b) (isAgg t) (isAgg t) := by
  unfold Go.isAgg
  refine Sim.bind (Sim.underlying t) ?_
  rintro ρ' hle a b ⟨rfl, h⟩
  cases a <;> exact Sim.ret rfl

/-- The zero values bear no place. -/
def ZerosOk (P : Program) : Prop := ∀ t i z, P.info? t = some i → i.zero = some z → ∀ ρ, VRel ρ z z
theorem Sim.zeroValue (hz : ZerosOk P) (t : TypeId) : Sim P ρ (fun ρ' a b => a = b ∧ VRel ρ' a b) (zeroValue t) (zeroValue t) := by
  unfold Go.zeroValue
  refine Sim.bind (Sim.typeInfo t) ?_
  rintro ρ' hle a b ⟨rfl, h⟩
  cases hx : a.zero with
  | none => exact Sim.unsupported
  | some z => exact Sim.ret ⟨rfl, hz _ _ _ h hx _⟩

end

/-! The memory's primitives. -/
section
variable {P : Program} {ρ : Ren}

theorem WRel.fits {σ : AS} {w : World} (hw : WRel P ρ σ w) {r : Nat} {l : Lies} {c : Array Value} {e : TypeId} {f : Nat × Nat} (h : σ.get r = some (.cells c e f)) (h0 : f.1 = 0) (hr : ρ r = some l) :
    ∃ c' f', w.heap[l.b]? = some (.cells c' e f') ∧ c'.size = l.lim ∧ (∀ (i : Nat) (v : Value), c[i]? = some v → ∃ v' : Value, c'[i]? = some v' ∧ VRel ρ v v') ∧ (∀ o, o < l.lim → ¬ (f'.1 ≤ o ∧ o < f'.2)) ∧ esz P e = l.esz := by
  obtain ⟨o', h1, h2⟩ := hw.obj r _ l h hr
  cases h2 with
  | cells hs hc hf he => exact ⟨_, _, h1, hs, hc, hf, he⟩
  | rom hc => cases h0
theorem WRel.seen {σ : AS} {w : World} (hw : WRel P ρ σ w) {r : Nat} {l : Lies} {c : Array Value} {e : TypeId} {f : Nat × Nat} (h : σ.get r = some (.cells c e f)) (hr : ρ r = some l) :
    ∃ c' e' f', w.heap[l.b]? = some (.cells c' e' f') ∧ (∀ (i : Nat) (v : Value), c[i]? = some v → ∃ v' : Value, c'[i]? = some v' ∧ VRel ρ v v') := by
  obtain ⟨o', h1, h2⟩ := hw.obj r _ l h hr
  cases h2 with
  | cells hs hc hf he => exact ⟨_, _, _, h1, hc⟩
  | rom hc => exact ⟨_, _, _, h1, hc⟩

theorem Sim.load {r o : Nat} {s : Option Nat} {l : Lies} (hr : ρ r = some l) {m : Mode} :
    Sim P ρ (fun ρ' a b => VRel ρ' a b) (load ⟨r, o, s⟩ m) (load ⟨l.b, o, s⟩ m) := by
  intro σ w hw x σ' hx
  simp only [Go.load, arun] at hx
  cases s with
  | some _ => cases hx
  | none =>
  dsimp only at hx
  split at hx
  case h_2 => cases hx
  rename_i c e f hg
  split at hx
  case h_2 => cases hx
  rename_i v hv
  rw [Array.getElem?_toList] at hv
  cases hx
  obtain ⟨c', e', f', h1, h3⟩ := hw.seen hg hr
  obtain ⟨v', hv', hR⟩ := h3 _ _ hv
  refine ⟨ρ, v', w, ?_, hw, .refl _ _, hR⟩
  have : w.cell? ⟨l.b, o, none⟩ = some v' := by
    unfold World.cell?
    simp only [h1]
    rw [if_neg (by simp), hv']
  simp only [Go.load, Sem.run, this]

theorem WRel.write {σ : AS} {w : World} (hw : WRel P ρ σ w) {r : Nat} {l : Lies} {o o2 o' : Obj} (h : σ.get r = some o) (hr : ρ r = some l) (h2 : ORel P ρ l o2 o') {w' : World}
    (hw' : w'.heap = w.heap.setIfInBounds l.b o') : WRel P ρ (σ.put r (some o2)) w' := by
  have hb : l.b < w.heap.size := hw.img _ _ hr
  have hrn : r < 2 ^ 64 - 1 ∨ some o2 = none := .inl (by have := hw.dom _ _ hr; have := hw.small; omega)
  refine ⟨fun r1 x l1 hx hl1 => ?_, hw.dom, fun r1 l1 h1 => ?_, fun r1 r2 l1 l2 x y hx hy h1 h2 he => ?_, hw.glob, hw.small⟩
  · simp only [AS.get, AS.put, Tr.get_set _ _ _ _ hrn] at hx
    split at hx
    · rename_i e
      subst e
      cases hx
      obtain rfl : l = l1 := by rw [hr] at hl1; exact Option.some.inj hl1
      exact ⟨o', by rw [hw']; simp [hb], h2⟩
    · rename_i hne
      obtain ⟨x', h3, h4⟩ := hw.obj r1 x l1 hx hl1
      refine ⟨x', ?_, h4⟩
      have : l.b ≠ l1.b := fun e => hne (hw.inj r1 r l1 l _ _ hx h hl1 hr e.symm)
      rw [hw', Array.getElem?_setIfInBounds_ne this, h3]
  · rw [hw', Array.size_setIfInBounds]; exact hw.img _ _ h1
  · simp only [AS.get, AS.put, Tr.get_set _ _ _ _ hrn] at hx hy
    have fx : ∃ z, σ.get r1 = some z := by
      split at hx
      · rename_i e; exact e ▸ ⟨_, h⟩
      · exact ⟨_, hx⟩
    have fy : ∃ z, σ.get r2 = some z := by
      split at hy
      · rename_i e; exact e ▸ ⟨_, h⟩
      · exact ⟨_, hy⟩
    obtain ⟨_, fx⟩ := fx
    obtain ⟨_, fy⟩ := fy
    exact hw.inj r1 r2 l1 l2 _ _ fx fy h1 h2 he

theorem not_glob {r : Nat} (h : Nat.blt r GLOBS = false) : GLOBS ≤ r := by
  rcases Nat.lt_or_ge r GLOBS with h1 | h1
  · rw [← Nat.blt_eq, h] at h1; cases h1
  · exact h1
theorem Fr.write {w w' : World} {r : Nat} {l : Lies} {o' : Obj} (hg : GLOBS ≤ r) (hr : ρ r = some l) (hw' : w'.heap = w.heap.setIfInBounds l.b o') (hos : w'.os = w.os) (ht : w'.tape = w.tape) (hout : w'.output = w.output) {n : Nat} : Fr n n ρ w ρ w' :=
  ⟨.refl _, hos, ht, hout, by rw [hw']; simp, fun b hb hn => by rw [hw', Array.getElem?_setIfInBounds_ne (hn r l hr hg)], fun r l h g => .inl ⟨r, l, h, g, rfl⟩, Nat.le_refl _, fun r l h k => by rw [h] at k; cases k⟩

theorem setCell_heap (w : World) (b o : Nat) (v : Value) {c : Array Value} {e : TypeId} {f : Nat × Nat} (h : w.heap[b]? = some (.cells c e f)) :
    (w.setCell ⟨b, o, none⟩ v).heap = w.heap.setIfInBounds b (.cells (c.setIfInBounds o v) e f) := by
  unfold World.setCell
  dsimp only
  apply Array.ext
  · simp
  · intro i h1 h2
    by_cases e : b = i
    · subst e
      simp only [Array.size_modify] at h1
      rw [Array.getElem?_eq_getElem h1] at h
      simp only [Option.some.injEq] at h
      simp [Array.getElem_modify, h]
    · have hi : i < w.heap.size := by simpa using h1
      rw [Array.getElem_setIfInBounds_ne hi e]; simp [Array.getElem_modify, e]

theorem Sim.store {r o : Nat} {s : Option Nat} {l : Lies} (hr : ρ r = some l) {m : Mode} {v v' : Value} (hv : VRel ρ v v') :
    Sim P ρ (fun _ _ _ => True) (store ⟨r, o, s⟩ v m) (store ⟨l.b, o, s⟩ v' m) := by
  intro σ w hw x σ' hx
  simp only [Go.store, arun] at hx
  cases s with
  | some _ => split at hx <;> first | (cases hx; done) | (rename_i hh _; cases hh)
  | none =>
  split at hx
  case h_2 => cases hx
  rename_i h1c _ hgl
  have hgl := not_glob hgl
  split at hx
  case h_2 => cases hx
  rename_i c e f hg
  split at hx
  case h_2 => cases hx
  rename_i u hu h0
  rw [Array.getElem?_toList] at hu
  have h0 : f.1 = 0 := Nat.eq_of_beq_eq_true h0
  have hlt : o < c.size := (Array.getElem?_eq_some_iff.1 hu).1
  rw [show (⟨c.toList.set o v⟩ : Array Value) = c.setIfInBounds o v by apply Array.ext'; simp] at hx
  cases hx
  obtain ⟨c', f', h1, h2, h3, hf, he⟩ := hw.fits hg h0 hr
  obtain ⟨u', hu', -⟩ := h3 _ _ hu
  have hlim : o < l.lim := by
    rw [← h2]
    rcases Nat.lt_or_ge o c'.size with h | h
    · exact h
    · simp [Array.getElem?_eq_none h] at hu'
  have hcell : w.cell? ⟨l.b, o, none⟩ = some u' := by
    unfold World.cell?
    simp only [h1]
    simp [hu']
  have hfz : w.frozen? ⟨l.b, o, none⟩ = false := by
    unfold World.frozen?
    simp only [h1]
    have := hf o hlim
    obtain ⟨lo, hi⟩ := f'
    simp only [Bool.and_eq_false_iff, decide_eq_false_iff_not] at *
    by_cases hh : lo ≤ o
    · exact .inr fun h => this ⟨hh, h⟩
    · exact .inl hh
  have hset := setCell_heap w l.b o v' h1
  refine ⟨ρ, (), w.setCell ⟨l.b, o, none⟩ v', ?_, hw.write hg hr (ORel.cells (f := f) (f' := f') ?_ ?_ hf he h0) hset, .write hgl hr hset rfl rfl rfl, trivial⟩
  · have hone := hv.oneCell
    rw [h1c] at hone
    cases v' <;> simp [Value.oneCell] at hone <;> simp only [Go.store, Sem.run, hcell, hfz, Bool.false_eq_true, if_false]
  · simp [h2]
  · intro i y hy
    by_cases e : o = i
    · subst e
      rw [Array.getElem?_setIfInBounds_self_of_lt hlt] at hy
      cases hy
      exact ⟨v', by rw [Array.getElem?_setIfInBounds_self_of_lt (by omega)], hv⟩
    · rw [Array.getElem?_setIfInBounds_ne e] at hy
      rw [Array.getElem?_setIfInBounds_ne e]
      exact h3 _ _ hy

/-- The renaming with one more block. -/
def Ren.more (ρ : Ren) (r : Nat) (l : Lies) : Ren := fun k => if k = r then some l else ρ k
theorem Ren.le_more {ρ : Ren} {r : Nat} {l : Lies} (h : ρ r = none) : ρ.le (ρ.more r l) := fun k x hk => by
  unfold Ren.more
  split
  · rename_i e; subst e; rw [h] at hk; cases hk
  · exact hk
theorem WRel.free {σ : AS} {w : World} (hw : WRel P ρ σ w) : ρ σ.next = none := by
  cases h : ρ σ.next with
  | none => rfl
  | some l => exact absurd (hw.dom _ _ h) (Nat.lt_irrefl _)

theorem WRel.push {σ : AS} {w : World} (hw : WRel P ρ σ w) {o o' : Obj} {l : Lies} (hl : l.b = w.heap.size) (ho : ORel P (ρ.more σ.next l) l o o') (hn : σ.next < 9223372036854775806) {w' : World} (hw' : w'.heap = w.heap.push o') :
    WRel P (ρ.more σ.next l) (σ.push o) w' := by
  have hle := Ren.le_more (l := l) hw.free
  have hrn : σ.next < 2 ^ 64 - 1 ∨ some o = none := .inl (by omega)
  have hother : ∀ {r x}, (σ.push o).get r = some x → r ≠ σ.next → σ.get r = some x := fun {r x} h hne => by
    simpa only [AS.get, AS.push, Tr.get_set _ _ _ _ hrn, if_neg hne] using h
  refine ⟨fun r x k hx hk => ?_, fun r k hk => ?_, fun r k hk => ?_, fun r1 r2 l1 l2 x y hx hy h1 h2 he => ?_, fun g hg => ?_, ?_⟩
  · unfold Ren.more at hk
    split at hk
    · rename_i e
      cases hk
      subst e
      simp only [AS.get, AS.push, Tr.get_set _ _ _ _ hrn, if_true] at hx
      cases hx
      exact ⟨o', by rw [hw', hl]; simp, ho⟩
    · rename_i e
      obtain ⟨x', h3, h4⟩ := hw.obj r x k (hother hx e) hk
      refine ⟨x', ?_, h4.mono hle⟩
      rw [hw', Array.getElem?_push, if_neg (by have := hw.img _ _ hk; omega), h3]
  · unfold Ren.more at hk
    show r < σ.next + 1
    split at hk
    · omega
    · have := hw.dom _ _ hk; omega
  · unfold Ren.more at hk
    rw [hw', Array.size_push]
    split at hk
    · cases hk; omega
    · have := hw.img _ _ hk; omega
  · unfold Ren.more at h1 h2
    split at h1 <;> split at h2
    · omega
    · cases h1
      have := hw.img _ _ h2
      omega
    · cases h2
      have := hw.img _ _ h1
      omega
    · exact hw.inj r1 r2 l1 l2 x y (hother hx ‹_›) (hother hy ‹_›) h1 h2 he
  · obtain ⟨k, hk, e⟩ := hw.glob g hg
    exact ⟨k, hle _ _ hk, e⟩
  · show σ.next + 1 < 2 ^ 63
    omega

theorem Fr.push {σ : AS} {w : World} (hw : WRel P ρ σ w) {o' : Obj} {l : Lies} (hl : l.b = w.heap.size) {w' : World} (hw' : w'.heap = w.heap.push o') (hos : w'.os = w.os) (ht : w'.tape = w.tape) (hout : w'.output = w.output) :
    Fr σ.next (σ.next + 1) ρ w (ρ.more σ.next l) w' :=
  ⟨Ren.le_more hw.free, hos, ht, hout, by rw [hw']; simp, fun b hb _ => by rw [hw', Array.getElem?_push, if_neg (by omega)], fun r k hk hg => by
    unfold Ren.more at hk
    split at hk
    · cases hk; exact .inr (by omega)
    · exact .inl ⟨r, k, hk, hg, rfl⟩, Nat.le_succ _, fun r k h0 hk => by
    unfold Ren.more at hk
    split at hk
    · rename_i e; exact Nat.le_of_eq e.symm
    · rw [h0] at hk; cases hk⟩

/-- What a new object's number stands for. -/
def NumR (ρ : Ren) (r r' : Nat) : Prop := ∃ l, ρ r = some l ∧ r' = l.b
theorem Sim.new {o o' : Obj} (ho : ∀ n b, ρ n = none → ∃ l : Lies, l.b = b ∧ ORel P (ρ.more n l) l o o') : Sim P ρ NumR (newObj o) (newObj o') := by
  intro σ w hw x σ' hx
  simp only [Go.newObj, arun] at hx
  split at hx
  case h_2 => cases hx
  rename_i hn
  have hn : σ.next < 9223372036854775806 := by rw [← Nat.blt_eq]; exact hn
  cases hx
  obtain ⟨l, hl, ho⟩ := ho σ.next w.heap.size hw.free
  refine ⟨ρ.more σ.next l, w.heap.size, { w with heap := w.heap.push o' }, rfl, hw.push hl ho hn rfl, .push hw hl rfl rfl rfl rfl, l, by simp [Ren.more], hl.symm⟩

theorem Sim.getObj {r : Nat} {l : Lies} (hr : ρ r = some l) : Sim P ρ (fun ρ' a b => ρ' = ρ ∧ Obj.isCells a = false ∧ ORel P ρ l a b) (getObj r) (getObj l.b) := by
  intro σ w hw x σ' hx
  simp only [Go.getObj, arun] at hx
  split at hx
  case h_2 => cases hx
  rename_i o hg
  split at hx
  · cases hx
  rename_i hc
  cases hx
  obtain ⟨o', h1, h2⟩ := hw.obj _ _ _ hg hr
  refine ⟨ρ, o', w, ?_, hw, .refl _ _, rfl, by simpa using hc, h2⟩
  simp only [Go.getObj, Sem.run, h1]
  cases h2 <;> first | rfl | (simp [Obj.isCells] at hc)

theorem Sim.setObj {r : Nat} {l : Lies} (hr : ρ r = some l) {o o' : Obj} (ho : ORel P ρ l o o') : Sim P ρ (fun _ _ _ => True) (setObj r o) (setObj l.b o') := by
  intro σ w hw x σ' hx
  simp only [Go.setObj, arun] at hx
  split at hx
  case h_2 => cases hx
  rename_i o0 hg
  split at hx
  · cases hx
  rename_i hc
  simp only [Bool.or_eq_false_iff] at hc
  cases hx
  obtain ⟨o1, h1, h2⟩ := hw.obj _ _ _ hg hr
  have hfr : Fr σ.next σ.next ρ w ρ { w with heap := w.heap.setIfInBounds l.b o' } := by
    apply Fr.write (not_glob hc.2) hr (o' := o') <;> rfl
  refine ⟨ρ, (), { w with heap := w.heap.setIfInBounds l.b o' }, ?_, hw.write hg hr ho rfl, hfr, trivial⟩
  simp only [Go.setObj, Sem.run, h1]
  cases h2 <;> first | rfl | (simp [Obj.isCells] at hc)

theorem Sim.choose {q : Question} : Sim P ρ (fun _ a b => a = b) (choose q) (choose q) := by
  intro σ w hw x σ' hx
  simp only [Go.choose, arun] at hx
  split at hx
  case h_2 => cases hx
  rename_i hq
  cases hx
  exact ⟨ρ, 0, w, by simp only [Go.choose, Sem.run, hq, if_true], hw, .refl _ _, rfl⟩
theorem Sim.mark {m : Mark} : Sim P ρ (fun _ _ _ => True) (mark m) (mark m) := by
  intro σ w hw x σ' hx
  simp only [Go.mark, arun] at hx
  cases hx
  exact ⟨ρ, (), w, rfl, hw, .refl _ _, trivial⟩

end
end Go.Proofs.YtlnhacbdbhmgkaaGreatDoor
