/- The memory of a calculation, its relation to a world, and the primitives of Sem at both. -/
import Derived.Test.YtlnhacbdbhmgkaaGreatDoorEvA
import Derived.Laws.Sem
namespace Go.Proofs.YtlnhacbdbhmgkaaGreatDoor

/-! A map from numbers, as a tree by binary digits. -/
inductive Tr (α : Type) where
  | e : Tr α
  | n (l : Tr α) (v : Option α) (r : Tr α) : Tr α
def Tr.get {α : Type} : Tr α → Nat → Option α
  | .e, _ => none
  | .n _ v _, 0 => v
  | .n l _ r, j + 1 =>
    match Nat.beq (j % 2) 0 with
    | true => r.get (j / 2)
    | false => l.get (j / 2)
def Tr.sing {α : Type} (v : Option α) : Nat → Nat → Tr α
  | 0, _ => .e
  | _ + 1, 0 => .n .e v .e
  | f + 1, j + 1 =>
    match Nat.beq (j % 2) 0 with
    | true => .n .e none (Tr.sing v f (j / 2))
    | false => .n (Tr.sing v f (j / 2)) none .e
def Tr.set {α : Type} (v : Option α) : Tr α → Nat → Tr α
  | .e, k => Tr.sing v 64 k
  | .n l _ r, 0 => .n l v r
  | .n l u r, j + 1 =>
    match Nat.beq (j % 2) 0 with
    | true => .n l u (r.set v (j / 2))
    | false => .n (l.set v (j / 2)) u r

theorem beq_mod {j : Nat} : (Nat.beq (j % 2) 0 = true ∧ j % 2 = 0) ∨ (Nat.beq (j % 2) 0 = false ∧ j % 2 = 1) := by
  rcases Nat.mod_two_eq_zero_or_one j with h | h <;> rw [h]
  · exact .inl ⟨rfl, rfl⟩
  · exact .inr ⟨rfl, rfl⟩
theorem half_inj {i j : Nat} (h : i % 2 = j % 2) : i / 2 = j / 2 ↔ i = j := by omega
theorem Tr.get_sing {α : Type} (v : Option α) : ∀ (f k j : Nat), k < 2 ^ f - 1 ∨ v = none → (Tr.sing v f k).get j = if j = k then v else none
  | 0, k, j, h => by
    simp [Tr.sing, Tr.get] at *
    intro _; exact h.symm
  | f + 1, 0, j, h => by
    cases j <;> simp [Tr.sing, Tr.get]
    split <;> rfl
  | f + 1, k + 1, j, h => by
    have hp : 2 ^ (f + 1) = 2 * 2 ^ f := by rw [Nat.pow_succ, Nat.mul_comm]
    have hk : k / 2 < 2 ^ f - 1 ∨ v = none := h.imp (fun h => by omega) id
    rcases beq_mod (j := k) with ⟨e1, e2⟩ | ⟨e1, e2⟩
    · simp only [Tr.sing, e1]
      cases j with
      | zero => simp [Tr.get]
      | succ j =>
        rcases beq_mod (j := j) with ⟨e3, e4⟩ | ⟨e3, e4⟩
        · simp only [Tr.get, e3]
          rw [Tr.get_sing v f _ _ hk]
          simp only [half_inj (e4.trans e2.symm), Nat.add_right_cancel_iff]
        · simp only [Tr.get, e3]
          rw [if_neg (by omega)]
    · simp only [Tr.sing, e1]
      cases j with
      | zero => simp [Tr.get]
      | succ j =>
        rcases beq_mod (j := j) with ⟨e3, e4⟩ | ⟨e3, e4⟩
        · simp only [Tr.get, e3]
          rw [if_neg (by omega)]
        · simp only [Tr.get, e3]
          rw [Tr.get_sing v f _ _ hk]
          simp only [half_inj (e4.trans e2.symm), Nat.add_right_cancel_iff]
theorem Tr.get_set {α : Type} (v : Option α) : ∀ (t : Tr α) (k j : Nat), k < 2 ^ 64 - 1 ∨ v = none → (t.set v k).get j = if j = k then v else t.get j
  | .e, k, j, h => by
    simp only [Tr.set]; rw [Tr.get_sing v 64 k j h]
    cases j <;> simp [Tr.get]
  | .n l u r, 0, j, h => by
    cases j <;> simp [Tr.set, Tr.get]
  | .n l u r, k + 1, j, h => by
    have hk : k / 2 < 2 ^ 64 - 1 ∨ v = none := h.imp (fun h => by omega) id
    rcases beq_mod (j := k) with ⟨e1, e2⟩ | ⟨e1, e2⟩
    · simp only [Tr.set, e1]
      cases j with
      | zero => simp [Tr.get]
      | succ j =>
        rcases beq_mod (j := j) with ⟨e3, e4⟩ | ⟨e3, e4⟩
        · simp only [Tr.get, e3]
          rw [Tr.get_set v r _ _ hk]
          simp only [half_inj (e4.trans e2.symm), Nat.add_right_cancel_iff]
        · simp only [Tr.get, e3]
          rw [if_neg (by omega)]
    · simp only [Tr.set, e1]
      cases j with
      | zero => simp [Tr.get]
      | succ j =>
        rcases beq_mod (j := j) with ⟨e3, e4⟩ | ⟨e3, e4⟩
        · simp only [Tr.get, e3]
          rw [if_neg (by omega)]
        · simp only [Tr.get, e3]
          rw [Tr.get_set v l _ _ hk]
          simp only [half_inj (e4.trans e2.symm), Nat.add_right_cancel_iff]

/-- How many of the package-level variables are known. -/
def GLOBS : Nat := 1
/-- The memory of a calculation: blocks, how many numbers are given, how often it turned. -/
structure AS where
  heap : Tr Obj
  next : Nat
  ver : Nat
def AS.get (σ : AS) (r : Nat) : Option Obj := σ.heap.get r
def AS.put (σ : AS) (r : Nat) (o : Option Obj) : AS := { σ with heap := σ.heap.set o r, ver := σ.ver + 1 }
def AS.push (σ : AS) (o : Obj) : AS := { σ with heap := σ.heap.set (some o) σ.next, next := σ.next + 1, ver := σ.ver + 1 }

/-! Objects. -/
structure TargetR (ρ : Ren) (t t' : Target) : Prop where
  h : (∃ f c f' c', t = .fn f c ∧ t' = .fn f' c' ∧ FnR ρ f f' ∧ AsRel ρ c c') ∨ (t = .nil ∧ t' = .nil) ∨ (∃ b a y cs, t = .builtin b a y cs ∧ t' = .builtin b a y cs) ∨
    (∃ r l, ρ r = some l ∧ t = .collected r ∧ t' = .collected l.b)
structure DefR (ρ : Ren) (d d' : Deferred) : Prop where
  t : TargetR ρ d.target d'.target
  a : AsRel ρ d.args d'.args
inductive DsR (ρ : Ren) : List Deferred → List Deferred → Prop
  | nil : DsR ρ [] []
  | cons {d d' ds ds'} (h : DefR ρ d d') (hs : DsR ρ ds ds') : DsR ρ (d :: ds) (d' :: ds')
structure EntryR (ρ : Ren) (e e' : MapEntry) : Prop where
  key : VRel ρ e.key e'.key
  val : VRel ρ e.val e'.val
  born : e'.born = e.born
inductive EsR (ρ : Ren) : List MapEntry → List MapEntry → Prop
  | nil : EsR ρ [] []
  | cons {d d' ds ds'} (h : EntryR ρ d d') (hs : EsR ρ ds ds') : EsR ρ (d :: ds) (d' :: ds')
structure LoopR (ρ : Ren) (a b : Loop) : Prop where
  state : b.state = a.state
  pending : b.pending = a.pending
  fn : b.fn = a.fn
  tmps : AsRel ρ a.tmps b.tmps
  params : b.params = a.params
  assign : b.assign = a.assign
  body : b.body = a.body
  defers : ∃ l, ρ a.defers = some l ∧ b.defers = l.b

def esz (P : Program) (e : TypeId) : Nat := ((P.info? e).map (·.size)).getD 0

inductive ORel (P : Program) (ρ : Ren) (l : Lies) : Obj → Obj → Prop
  | cells {c c' : Array Value} {e : TypeId} {f f' : Nat × Nat} (hs : c'.size = l.lim) (hc : ∀ (i : Nat) (v : Value), c[i]? = some v → ∃ v' : Value, c'[i]? = some v' ∧ VRel ρ v v') (hf : ∀ o, o < l.lim → ¬ (f'.1 ≤ o ∧ o < f'.2)) (he : esz P e = l.esz) (h0 : f.1 = 0 := by rfl) :
      ORel P ρ l (.cells c e f) (.cells c' e f')
  | rom {c c' : Array Value} {e e' : TypeId} {f' : Nat × Nat} (hc : ∀ (i : Nat) (v : Value), c[i]? = some v → ∃ v' : Value, c'[i]? = some v' ∧ VRel ρ v v') : ORel P ρ l (.cells c e (1, 0)) (.cells c' e' f')
  | map {es es' : Array MapEntry} {k : Nat} (h : EsR ρ es.toList es'.toList) : ORel P ρ l (.map es k) (.map es' k)
  | stringIter (s p) : ORel P ρ l (.stringIter s p) (.stringIter s p)
  | mapIterNil (a b c) : ORel P ρ l (.mapIter none a b c) (.mapIter none a b c)
  | mapIter {r : Nat} {k : Lies} (a b c) (h : ρ r = some k) : ORel P ρ l (.mapIter (some r) a b c) (.mapIter (some k.b) a b c)
  | loop {a b : Loop} (h : LoopR ρ a b) : ORel P ρ l (.loop a) (.loop b)
  | deferred {a b : List Deferred} (h : DsR ρ a b) : ORel P ρ l (.deferred (some a)) (.deferred (some b))
  | deferredNone : ORel P ρ l (.deferred none) (.deferred none)

theorem TargetR.mono {ρ ρ' : Ren} (hle : ρ.le ρ') {t t' : Target} (h : TargetR ρ t t') : TargetR ρ' t t' := by
  rcases h.h with ⟨f, c, f', c', h1, h2, h3, h4⟩ | h | h | ⟨r, l, h1, h2, h3⟩
  · exact ⟨.inl ⟨f, c, f', c', h1, h2, h3.mono hle, h4.mono hle⟩⟩
  · exact ⟨.inr (.inl h)⟩
  · exact ⟨.inr (.inr (.inl h))⟩
  · exact ⟨.inr (.inr (.inr ⟨r, l, hle _ _ h1, h2, h3⟩))⟩
theorem DefR.mono {ρ ρ' : Ren} (hle : ρ.le ρ') {t t' : Deferred} (h : DefR ρ t t') : DefR ρ' t t' := ⟨h.t.mono hle, h.a.mono hle⟩
theorem DsR.mono {ρ ρ' : Ren} (hle : ρ.le ρ') : ∀ {t t' : List Deferred}, DsR ρ t t' → DsR ρ' t t'
  | _, _, .nil => .nil
  | _, _, .cons h hs => .cons (h.mono hle) (hs.mono hle)
theorem EsR.mono {ρ ρ' : Ren} (hle : ρ.le ρ') : ∀ {t t' : List MapEntry}, EsR ρ t t' → EsR ρ' t t'
  | _, _, .nil => .nil
  | _, _, .cons h hs => .cons ⟨h.key.mono hle, h.val.mono hle, h.born⟩ (hs.mono hle)
theorem LoopR.mono {ρ ρ' : Ren} (hle : ρ.le ρ') {a b : Loop} (h : LoopR ρ a b) : LoopR ρ' a b :=
  ⟨h.state, h.pending, h.fn, h.tmps.mono hle, h.params, h.assign, h.body, let ⟨l, x, y⟩ := h.defers; ⟨l, hle _ _ x, y⟩⟩
theorem ORel.mono {P : Program} {ρ ρ' : Ren} (hle : ρ.le ρ') {l : Lies} {a b : Obj} (h : ORel P ρ l a b) : ORel P ρ' l a b := by
  cases h with
  | cells hs hc hf he h0 => exact .cells hs (fun i v hv => let ⟨v', h1, h2⟩ := hc i v hv; ⟨v', h1, h2.mono hle⟩) hf he h0
  | rom hc => exact .rom fun i v hv => let ⟨v', h1, h2⟩ := hc i v hv; ⟨v', h1, h2.mono hle⟩
  | map h => exact .map (h.mono hle)
  | stringIter s p => exact .stringIter s p
  | mapIterNil a b c => exact .mapIterNil a b c
  | mapIter a b c h => exact .mapIter a b c (hle _ _ h)
  | loop h => exact .loop (h.mono hle)
  | deferred h => exact .deferred (h.mono hle)
  | deferredNone => exact .deferredNone

/-- A memory of a calculation and a world that holds the like. -/
structure WRel (P : Program) (ρ : Ren) (σ : AS) (w : World) : Prop where
  obj : ∀ r o l, σ.get r = some o → ρ r = some l → ∃ o', w.heap[l.b]? = some o' ∧ ORel P ρ l o o'
  dom : ∀ r l, ρ r = some l → r < σ.next
  img : ∀ r l, ρ r = some l → l.b < w.heap.size
  inj : ∀ r r' l l' o o', σ.get r = some o → σ.get r' = some o' → ρ r = some l → ρ r' = some l' → l.b = l'.b → r = r'
  glob : ∀ g, g < GLOBS → ∃ l, ρ g = some l ∧ l.b = g
  small : σ.next < 2 ^ 63

/-- What a step leaves of a world. -/
structure Fr (n n' : Nat) (ρ : Ren) (w : World) (ρ' : Ren) (w' : World) : Prop where
  le : ρ.le ρ'
  os : w'.os = w.os
  tape : w'.tape = w.tape
  output : w'.output = w.output
  size : w.heap.size ≤ w'.heap.size
  keep : ∀ b, b < w.heap.size → (∀ r l, ρ r = some l → GLOBS ≤ r → l.b ≠ b) → w'.heap[b]? = w.heap[b]?
  fresh : ∀ r l, ρ' r = some l → GLOBS ≤ r → (∃ r0 l0, ρ r0 = some l0 ∧ GLOBS ≤ r0 ∧ l0.b = l.b) ∨ w.heap.size ≤ l.b
  up : n ≤ n'
  names : ∀ r l, ρ r = none → ρ' r = some l → n ≤ r

theorem Fr.refl {n : Nat} (ρ : Ren) (w : World) : Fr n n ρ w ρ w := ⟨.refl _, rfl, rfl, rfl, Nat.le_refl _, fun _ _ _ => rfl, fun r l h g => .inl ⟨r, l, h, g, rfl⟩, Nat.le_refl _, fun r l h k => by rw [h] at k; cases k⟩
theorem Fr.trans {n n1 n2 : Nat} {ρ ρ1 ρ2 : Ren} {w w1 w2 : World} (h : Fr n n1 ρ w ρ1 w1) (k : Fr n1 n2 ρ1 w1 ρ2 w2) : Fr n n2 ρ w ρ2 w2 where
  le := h.le.trans k.le
  os := k.os.trans h.os
  tape := k.tape.trans h.tape
  output := k.output.trans h.output
  size := Nat.le_trans h.size k.size
  keep := fun b hb hn => by
    refine (k.keep b (Nat.lt_of_lt_of_le hb h.size) (fun r l hr hg e => ?_)).trans (h.keep b hb hn)
    rcases h.fresh r l hr hg with ⟨r0, l0, h0, g0, e0⟩ | hlt
    · exact hn r0 l0 h0 g0 (e0.trans e)
    · omega
  fresh := fun r l hr hg => by
    rcases k.fresh r l hr hg with ⟨r0, l0, h0, g0, e0⟩ | hlt
    · rcases h.fresh r0 l0 h0 g0 with ⟨r1, l1, h1, g1, e1⟩ | hlt
      · exact .inl ⟨r1, l1, h1, g1, e1.trans e0⟩
      · exact .inr (e0 ▸ hlt)
    · exact .inr (Nat.le_trans h.size hlt)
  up := Nat.le_trans h.up k.up
  names := fun r l h0 h2 => by
    cases h1 : ρ1 r with
    | none => exact Nat.le_trans h.up (k.names r l h1 h2)
    | some l1 => exact h.names r l1 h0 h1

end Go.Proofs.YtlnhacbdbhmgkaaGreatDoor
