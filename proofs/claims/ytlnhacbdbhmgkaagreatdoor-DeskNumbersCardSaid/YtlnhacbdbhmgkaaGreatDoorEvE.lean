/- The operations at a calculation and at a run: slices, maps, iterators. -/
import Derived.Test.YtlnhacbdbhmgkaaGreatDoorEvD
namespace Go.Proofs.YtlnhacbdbhmgkaaGreatDoor

section
variable {P : Program} {ρ : Ren}

theorem Sim.sliceBound {v v' : Value} (hv : VRel ρ v v') (y : Nat) (c : BoundsCode) : Sim P ρ (fun _ a b => a = b ∧ a ≤ y) (Instr.sliceBound v y c) (Instr.sliceBound v' y c) := by
  unfold Instr.sliceBound
  refine Sim.bind (Sim.asIntOf hv) ?_
  rintro ρ1 h1 ⟨k, i⟩ _ rfl
  dsimp only
  split
  · rename_i h; exact Sim.ret ⟨rfl, by omega⟩
  · exact Sim.bounds

def OptR (ρ : Ren) (a b : Option Value) : Prop := (a = none ∧ b = none) ∨ ∃ x y, a = some x ∧ b = some y ∧ VRel ρ x y
theorem OptR.mono {ρ' : Ren} (hle : ρ.le ρ') {a b : Option Value} (h : OptR ρ a b) : OptR ρ' a b :=
  h.imp id fun ⟨x, y, h1, h2, h3⟩ => ⟨x, y, h1, h2, h3.mono hle⟩

theorem Sim.sliceBounds {lo lo' hi hi' mx mx' : Option Value} (hl : OptR ρ lo lo') (hh : OptR ρ hi hi') (hm : OptR ρ mx mx') (b : Bool) (n c : Nat) :
    Sim P ρ (fun _ a b => a = b) (Instr.sliceBounds b n c lo hi mx) (Instr.sliceBounds b n c lo' hi' mx') := by
  have B : ∀ {ρ' : Ren} {v v' : Value} (y : Nat) (k : BoundsCode), VRel ρ' v v' → Sim P ρ' (fun _ a b => a = b) (Instr.sliceBound v y k) (Instr.sliceBound v' y k) := fun y k h => (Sim.sliceBound h y k).mono fun _ _ _ _ h => h.1
  unfold Instr.sliceBounds
  rcases hm with ⟨rfl, rfl⟩ | ⟨x, y, rfl, rfl, h⟩ <;> rcases hh with ⟨rfl, rfl⟩ | ⟨x2, y2, rfl, rfl, h'⟩ <;> rcases hl with ⟨rfl, rfl⟩ | ⟨x3, y3, rfl, rfl, h''⟩ <;> dsimp only [Option.isSome]
  · exact Sim.ret rfl
  · refine Sim.skip (Sim.skip ?_)
    refine Sim.bind (B _ _ h'') ?_
    rintro ρ1 h1 l _ rfl
    exact Sim.ret rfl
  · refine Sim.skip ?_
    refine Sim.bind (B _ _ h') ?_
    rintro ρ1 h1 l _ rfl
    exact Sim.ret rfl
  · refine Sim.skip ?_
    refine Sim.bind (B _ _ h') ?_
    rintro ρ1 h1 l _ rfl
    refine Sim.bind (B _ _ (h''.mono h1)) ?_
    rintro ρ1 h1 l _ rfl
    exact Sim.ret rfl
  · exact (Dead.then fun _ => Dead.bind Dead.halt).sim
  · exact (Dead.then fun _ => Dead.bind Dead.halt).sim
  · refine Sim.bind (B _ _ h) ?_
    rintro ρ1 h1 l _ rfl
    refine Sim.bind (B _ _ (h'.mono h1)) ?_
    rintro ρ1 h1 l _ rfl
    exact Sim.ret rfl
  · refine Sim.bind (B _ _ h) ?_
    rintro ρ1 h1 l _ rfl
    refine Sim.bind (B _ _ (h'.mono h1)) ?_
    rintro ρ2 h2 l _ rfl
    refine Sim.bind (B _ _ ((h''.mono h1).mono h2)) ?_
    rintro ρ1 h1 l _ rfl
    exact Sim.ret rfl

/-- The bounds where the capacity is not known. -/
theorem Sim.sliceBoundsF {lo lo' hi hi' : Option Value} (hl : OptR ρ lo lo') (hh : OptR ρ hi hi') (n c c' : Nat) (hn : n ≤ c') (hg : ∀ v, hi = some v → ∃ k i, v = .int k i ∧ i ≤ n) :
    Sim P ρ (fun _ a b => a.1 = b.1 ∧ a.2.1 = b.2.1 ∧ a.2.2 = c ∧ b.2.2 = c' ∧ a.1 ≤ a.2.1 ∧ a.2.1 ≤ n) (Instr.sliceBounds true n c lo hi none) (Instr.sliceBounds true n c' lo' hi' none) := by
  unfold Instr.sliceBounds
  have low : ∀ (ρ' : Ren) (v v' : Value) (h : Nat), VRel ρ' v v' → h ≤ n → Sim P ρ' (fun _ (a b : Nat × Nat × Nat) => a.1 = b.1 ∧ a.2.1 = b.2.1 ∧ a.2.2 = c ∧ b.2.2 = c' ∧ a.1 ≤ a.2.1 ∧ a.2.1 ≤ n)
      (do let l ← Instr.sliceBound v h .sliceB; pure (l, h, c)) (do let l ← Instr.sliceBound v' h .sliceB; pure (l, h, c')) := by
    intro ρ' v v' h hv hhn
    refine Sim.bind (Sim.sliceBound hv _ _) ?_
    rintro ρ1 h1 l _ ⟨rfl, hle⟩
    exact Sim.ret ⟨rfl, rfl, rfl, rfl, hle, hhn⟩
  have high : ∀ (ρ' : Ren) (v v' : Value), VRel ρ' v v' → (∃ k i, v = .int k i ∧ i ≤ n) → Sim P ρ' (fun _ a b => a = b ∧ a ≤ n) (Instr.sliceBound v c .sliceAcap) (Instr.sliceBound v' c' .sliceAcap) := by
    rintro ρ' v v' hv ⟨k, i, rfl, hin⟩
    cases hv
    unfold Instr.sliceBound
    refine Sim.bind (R := fun _ a b => a = (k, i) ∧ b = (k, i)) (Sim.ret ⟨rfl, rfl⟩) ?_
    rintro ρ2 h2 _ _ ⟨rfl, rfl⟩
    dsimp only
    split
    · rename_i hb
      rw [if_pos ⟨hb.1, by omega⟩]
      exact Sim.ret ⟨rfl, by omega⟩
    · exact Sim.bounds
  rcases hh with ⟨rfl, rfl⟩ | ⟨x2, y2, rfl, rfl, h'⟩ <;> rcases hl with ⟨rfl, rfl⟩ | ⟨x3, y3, rfl, rfl, h''⟩ <;> dsimp only [Option.isSome]
  · exact Sim.ret ⟨rfl, rfl, rfl, rfl, Nat.zero_le _, Nat.le_refl _⟩
  · exact low ρ x3 y3 n h'' (Nat.le_refl _)
  · refine Sim.skip ?_
    refine Sim.bind (high ρ x2 y2 h' (hg _ rfl)) ?_
    rintro ρ1 h1 l _ ⟨rfl, hle⟩
    exact Sim.ret ⟨rfl, rfl, rfl, rfl, Nat.zero_le _, hle⟩
  · refine Sim.skip ?_
    refine Sim.bind (high ρ x2 y2 h' (hg _ rfl)) ?_
    rintro ρ1 h1 l _ ⟨rfl, hle⟩
    exact low ρ1 x3 y3 l (h''.mono h1) hle

/-- What a slice expression has to meet: a capacity that is not known is not looked at, and the element's size is the block's. -/
def sliceOk (P : Program) (σ : AS) (t : TypeId) (x : Value) (hi mx : Option Value) : Bool :=
  match x with
  | .slice (some a) n c =>
    if c < BIG then true else
      match P.underlying t, σ.get a.block, mx with
      | some (.slice e), some (.cells _ e' f), none => esz P e == esz P e' && f.1 == 0 && decide (n < BIG) && (match hi with | some (.int _ i) => decide (i ≤ n) | some _ => false | none => true)
      | _, _, _ => false
  | _ => true
/-- The capacity of what comes out: known, or still not. -/
def capStays (x y : Value) : Bool :=
  match x, y with
  | .slice (some _) _ c, .slice _ _ d => if c < BIG then decide (d < BIG) else decide (BIG ≤ d)
  | _, .slice _ _ d => decide (d < BIG)
  | _, _ => true

theorem Sim.slice (t : TypeId) {v v' : Value} {lo lo' hi hi' mx mx' : Option Value} (hv : VRel ρ v v') (hl : OptR ρ lo lo') (hh : OptR ρ hi hi') (hm : OptR ρ mx mx') {σ : AS} {w : World} (hw : WRel P ρ σ w) (hok : sliceOk P σ t v hi mx = true) :
    Sim P ρ (fun ρ' a b => capStays v a = true → VRel ρ' a b) (Instr.slice t v lo hi mx) (Instr.slice t v' lo' hi' mx') := by
  unfold Instr.slice
  refine Sim.bind (Sim.underlying t) ?_
  rintro ρ1 h1 d _ ⟨rfl, hd⟩
  have hv1 := hv.mono h1
  have hl1 := hl.mono h1
  have hh1 := hh.mono h1
  have hm1 := hm.mono h1
  cases d
  case string =>
    cases hv1 <;> first | (dsimp only; exact Sim.stuck) | skip
    rename_i s
    rcases hm1 with ⟨rfl, rfl⟩ | ⟨x, y, rfl, rfl, h⟩
    · dsimp only [Option.isSome]
      refine Sim.bind (Sim.sliceBounds hl1 hh1 (.inl ⟨rfl, rfl⟩) _ _ _) ?_
      rintro ρ3 h3 ⟨l, h, m⟩ _ rfl
      exact Sim.ret fun _ => .string _
    · exact (Dead.bind Dead.halt).sim
  case slice e =>
    cases hv1 <;> first | (dsimp only; exact Sim.stuck) | skip
    case sliceNil n c hc =>
      dsimp only
      refine Sim.bind (Sim.sliceBounds hl1 hh1 hm1 _ _ _) ?_
      rintro ρ2 h2 ⟨l, h, m⟩ _ rfl
      refine Sim.bind (Sim.sizeOf e) ?_
      rintro ρ3 h3 k _ ⟨rfl, -⟩
      refine Sim.ret fun hcap => ?_
      simp only [Option.map_none, ite_self] at hcap ⊢
      exact .sliceNil _ _ (by simpa [capStays] using hcap)
    case sliceX r o s l n c hr hc =>
      dsimp only
      refine Sim.bind (Sim.sliceBounds hl1 hh1 hm1 _ _ _) ?_
      rintro ρ2 h2 ⟨lw, h, m⟩ _ rfl
      refine Sim.bind (Sim.sizeOf e) ?_
      rintro ρ3 h3 k _ ⟨rfl, -⟩
      refine Sim.ret fun hcap => ?_
      have har : AR ρ3 ⟨r, o, s⟩ ⟨l.b, o, s⟩ := ⟨l, h3 _ _ (h2 _ _ hr), rfl⟩
      dsimp only at hcap ⊢
      have hm' : m - lw < BIG := by simpa [capStays, hc] using hcap
      split
      · exact har.sliceX _ _ (by simpa [okCap] using hm')
      · exact (har.add _).sliceX _ _ (by simpa [okCap] using hm')
    case sliceF r o o' n c c' l hr hc hn hlm ho =>
      dsimp only
      have hnb : ¬ c < BIG := Nat.not_lt.2 hc
      have hmx : mx = none ∧ mx' = none := by
        rcases hm with ⟨rfl, rfl⟩ | ⟨x, y, rfl, rfl, h⟩
        · exact ⟨rfl, rfl⟩
        · exfalso
          simp [sliceOk, hnb] at hok
      obtain ⟨rfl, rfl⟩ := hmx
      simp only [sliceOk, hnb, if_false, hd] at hok
      split at hok
      case h_2 => cases hok
      rename_i e2 cs e' f he2 hg hm2
      cases he2
      simp only [Bool.and_eq_true, beq_iff_eq, decide_eq_true_eq] at hok
      obtain ⟨⟨⟨he, hf0⟩, hnB⟩, hhi⟩ := hok
      obtain ⟨l0, hl0, hl0e⟩ : ∃ l0, ρ r = some l0 ∧ ρ1 r = some l0 := by
        generalize hx : (Value.slice (some ⟨l.b, o', none⟩) n c') = x at hv
        cases hv with
        | sliceF h => exact ⟨_, h, h1 _ _ h⟩
        | sliceX _ _ h hc' => exact absurd hc' hnb
      obtain rfl : l0 = l := by rw [hr] at hl0e; exact (Option.some.inj hl0e).symm
      obtain ⟨-, -, -, -, -, -, hesz⟩ := hw.fits hg hf0 hl0
      refine Sim.bind (Sim.sliceBoundsF hl1 hh1 n c c' hn (fun v e => by subst e; cases v <;> first | (cases hhi; done) | exact ⟨_, _, rfl, by simpa using hhi⟩)) ?_
      rintro ρ2 h2 ⟨lw, h, m⟩ ⟨lw', h', m'⟩ ⟨e1, e2, e3, e4, hlh, hhn⟩
      dsimp only at e1 e2 e3 e4 hlh hhn
      subst e1 e2 e3 e4
      refine Sim.bind (Sim.sizeOf e) ?_
      rintro ρ3 h3 k _ ⟨rfl, hk⟩
      refine Sim.ret fun hcap => ?_
      dsimp only at hcap ⊢
      have hr3 := h3 _ _ (h2 _ _ hr)
      have hne : ¬ m = lw := by omega
      have hcap' : BIG ≤ m - lw := by simpa [capStays, hnb] using hcap
      rw [if_neg hne]
      have hadd : ∀ (b q : Nat), (⟨b, q, none⟩ : Addr).add (lw * k) = ⟨b, q + lw * k, none⟩ := fun b q => by
        unfold Addr.add; split
        · rename_i hz; simp [hz]
        · rfl
      have hke : l0.esz = k := by rw [← hesz, ← he, hk]
      simp only [Option.map_some, hadd]
      split
      · rename_i e
        subst e
        refine .sliceF hr3 hcap' (by omega) ?_ (.inr ⟨by omega, by omega⟩)
        have : (m' - m') * l0.esz = 0 := by simp
        rw [this]
        have := Nat.le_trans (Nat.le_add_right o' (m' * l0.esz)) hlm
        omega
      · rename_i hne'
        rcases ho with rfl | ⟨h0, h0'⟩
        · refine .sliceF hr3 hcap' (by omega) ?_ (.inl rfl)
          have hle : lw ≤ m' := by omega
          have : o' + lw * k + (m' - lw) * l0.esz = o' + m' * l0.esz := by
            rw [hke, Nat.add_assoc, ← Nat.add_mul, Nat.add_sub_cancel' hle]
          omega
        · omega
  case pointer arr =>
    cases hv1 <;> first | (refine Dead.sim (Dead.bind ?_); intro _; rfl) | (refine Dead.sim (Dead.bind ?_); exact Dead.panics) | skip
    case ptr r o s l hp =>
    refine Sim.bind (R := fun ρ' a b => AR ρ' a b) (Sim.ret ⟨l, hp, rfl⟩) ?_
    intro ρ2 h2 a b hab
    refine Sim.bind (Sim.underlying arr) ?_
    rintro ρ3 h3 d _ ⟨rfl, -⟩
    cases d <;> first | exact Sim.stuck | skip
    rename_i n e
    dsimp only
    refine Sim.bind (Sim.sliceBounds ((hl1.mono h2).mono h3) ((hh1.mono h2).mono h3) ((hm1.mono h2).mono h3) _ _ _) ?_
    rintro ρ4 h4 ⟨lw, h, m⟩ _ rfl
    refine Sim.bind (Sim.sizeOf e) ?_
    rintro ρ5 h5 k _ ⟨rfl, -⟩
    refine Sim.ret fun hcap => ?_
    have har := ((hab.mono h3).mono h4).mono h5
    dsimp only at hcap ⊢
    have hm' : m - lw < BIG := by simpa [capStays] using hcap
    split
    · exact har.sliceX _ _ (by simpa [okCap] using hm')
    · exact (har.add _).sliceX _ _ (by simpa [okCap] using hm')
  all_goals first | exact Sim.stuck | (cases hv1 <;> exact Sim.stuck)

/-! Maps. -/
theorem EsR.length : ∀ {a b : List MapEntry}, EsR ρ a b → b.length = a.length
  | _, _, .nil => rfl
  | _, _, .cons _ hs => by simp [hs.length]
theorem EsR.append : ∀ {a b c d : List MapEntry}, EsR ρ a b → EsR ρ c d → EsR ρ (a ++ c) (b ++ d)
  | _, _, _, _, .nil, k => k
  | _, _, _, _, .cons h hs, k => .cons h (hs.append k)
theorem EsR.modify {f g : MapEntry → MapEntry} (hfg : ∀ a b, EntryR ρ a b → EntryR ρ (f a) (g b)) : ∀ {a b : List MapEntry}, EsR ρ a b → ∀ i, EsR ρ (a.modify i f) (b.modify i g)
  | _, _, .nil, i => by simp; exact .nil
  | _, _, .cons h hs, 0 => by simp; exact .cons (hfg _ _ h) hs
  | _, _, .cons h hs, i + 1 => by simp; exact .cons h (hs.modify hfg i)
theorem EsR.erase : ∀ {a b : List MapEntry}, EsR ρ a b → ∀ i, EsR ρ (a.eraseIdx i) (b.eraseIdx i)
  | _, _, .nil, i => by simp; exact .nil
  | _, _, .cons h hs, 0 => by simp; exact hs
  | _, _, .cons h hs, i + 1 => by simp; exact .cons h (hs.erase i)
theorem EsR.get : ∀ {a b : List MapEntry}, EsR ρ a b → ∀ i : Nat, (a[i]? = none ∧ b[i]? = none) ∨ ∃ x y, a[i]? = some x ∧ b[i]? = some y ∧ EntryR ρ x y
  | _, _, .nil, i => .inl (by simp)
  | _, _, .cons h hs, 0 => .inr ⟨_, _, rfl, rfl, h⟩
  | _, _, .cons h hs, i + 1 => by simpa using hs.get i
theorem EsR.filter {f : Nat → Bool} : ∀ {a b : List MapEntry}, EsR ρ a b → EsR ρ (a.filter fun e => f e.born) (b.filter fun e => f e.born)
  | _, _, .nil => .nil
  | _, _, .cons h hs => by
    simp only [List.filter_cons, h.born]
    split
    · exact .cons h hs.filter
    · exact hs.filter
theorem EsR.all {f : Nat → Bool} : ∀ {a b : List MapEntry}, EsR ρ a b → (b.all fun e => f e.born) = (a.all fun e => f e.born)
  | _, _, .nil => rfl
  | _, _, .cons h hs => by simp only [List.all_cons, h.born, hs.all]

/-- A key that is a number, a text or a truth value. -/
def plainKey : Value → Bool
  | .int .. | .string _ | .bool _ => true
  | _ => false
theorem plainKey_rel {v v' : Value} (hv : VRel ρ v v') (h : plainKey v = true) : v' = v := by
  cases hv <;> first | rfl | cases h

theorem sameNow_rel {d : TypeDesc} {k x x' : Value} (hx : VRel ρ x x') {b : Bool} (h : Instr.sameNow d k x = some b) : Instr.sameNow d k x' = some b := by
  cases hx <;> first | exact h | (exfalso; revert h; cases d <;> cases k <;> simp [Instr.sameNow])
theorem findNow_rel {d : TypeDesc} {k : Value} : ∀ {a b : List MapEntry} (i : Nat), EsR ρ a b → ∀ {r}, Instr.findNow d k a i = some r →
    ∃ r', Instr.findNow d k b i = some r' ∧ ((r = none ∧ r' = none) ∨ ∃ j v v', r = some (j, v) ∧ r' = some (j, v') ∧ VRel ρ v v')
  | _, _, i, .nil, r, h => by
    simp only [Instr.findNow, Option.some.injEq] at h ⊢
    subst h
    exact ⟨_, rfl, .inl ⟨rfl, rfl⟩⟩
  | _, _, i, .cons he hs, r, h => by
    unfold Instr.findNow at h ⊢
    split at h
    · rename_i hb
      rw [sameNow_rel he.key hb]
      cases h
      exact ⟨_, rfl, .inr ⟨_, _, _, rfl, rfl, he.val⟩⟩
    · rename_i hb
      rw [sameNow_rel he.key hb]
      exact findNow_rel (i + 1) hs h
    · cases h

/-- A key of this kind is found, or not, at once. -/
def keyOk (P : Program) (t : TypeId) (k : Value) (es : List MapEntry) : Bool :=
  plainKey k && (match P.underlying t with
    | some d => (Instr.findNow d k es 0).isSome
    | none => false)

def FoundR (ρ : Ren) (r r' : Option (Nat × Value)) : Prop := (r = none ∧ r' = none) ∨ ∃ j v v', r = some (j, v) ∧ r' = some (j, v') ∧ VRel ρ v v'
theorem Sim.findKey (t : TypeId) (k : Value) {a b : List MapEntry} (h : EsR ρ a b) (hk : keyOk P t k a = true) : Sim P ρ FoundR (Instr.findKey t k a) (Instr.findKey t k b) := by
  unfold Instr.findKey
  refine Sim.bind (Sim.underlying t) ?_
  rintro ρ1 h1 d _ ⟨rfl, hd⟩
  simp only [keyOk, hd, Bool.and_eq_true] at hk
  obtain ⟨r, hr⟩ := Option.isSome_iff_exists.1 hk.2
  obtain ⟨r', hr', hrr⟩ := findNow_rel 0 (h.mono h1) hr
  rw [hr, hr']
  exact Sim.ret hrr

theorem Sim.checkKey (b : Bool) (n : Nat) (t : TypeId) {k : Value} (hk : plainKey k = true) : Sim P ρ (fun _ _ _ => True) (Instr.checkKey b (n + 1) t k) (Instr.checkKey b (n + 1) t k) := by
  unfold Instr.checkKey
  refine Sim.bind (Sim.underlying t) ?_
  rintro ρ1 h1 d _ ⟨rfl, -⟩
  cases k <;> first | cases hk | skip
  all_goals (cases d <;> first | exact Sim.stuck | exact Sim.ret trivial)

/-- The entries of a map's value. -/
def entriesOf (σ : AS) (x : Value) : Option (List MapEntry) :=
  match x with
  | .map none => some []
  | .map (some r) =>
    match σ.get r with
    | some (.map es _) => some es.toList
    | _ => none
  | _ => none
def mapKeyOk (P : Program) (σ : AS) (t : TypeId) (x k : Value) : Bool :=
  match P.underlying t, entriesOf σ x with
  | some (.map kt _), some es => keyOk P kt k es
  | _, _ => false

/-- A likeness that holds of one memory. -/
def SimAt (P : Program) (ρ : Ren) {α β : Type} (R : Ren → α → β → Prop) (σ : AS) (s : Sem α) (s' : Sem β) : Prop :=
  ∀ w, WRel P ρ σ w → ∀ a σ', arun P s σ = some (a, σ') → ∃ ρ' b w', s'.run P w = .ok b w' ∧ WRel P ρ' σ' w' ∧ Fr σ.next σ'.next ρ w ρ' w' ∧ R ρ' a b
theorem Sim.at {α β : Type} {R : Ren → α → β → Prop} {s : Sem α} {s' : Sem β} (h : Sim P ρ R s s') (σ : AS) : SimAt P ρ R σ s s' := fun w hw => h σ w hw

theorem Sim.getMap {r : Nat} {l : Lies} (hr : ρ r = some l) {σ : AS} {es : List MapEntry} (hes : entriesOf σ (.map (some r)) = some es) :
    SimAt P ρ (fun ρ' a b => ρ' = ρ ∧ ∃ (e e' : Array MapEntry) (k : Nat), a = Obj.map e k ∧ b = Obj.map e' k ∧ e.toList = es ∧ EsR ρ' e.toList e'.toList) σ (Go.getObj r) (Go.getObj l.b) := by
  intro w hw a σ' hx
  obtain ⟨ρ', b, w', h1, h2, h3, rfl, h5, h6⟩ := Sim.getObj hr σ w hw a σ' hx
  refine ⟨ρ', b, w', h1, h2, h3, rfl, ?_⟩
  simp only [entriesOf] at hes
  split at hes
  case h_2 => cases hes
  rename_i e k hg
  cases hes
  simp only [Go.getObj, arun, hg, Obj.isCells, Option.some.injEq, Prod.mk.injEq] at hx
  obtain ⟨rfl, rfl⟩ := hx
  cases h6 with
  | map h => exact ⟨_, _, _, rfl, rfl, rfl, h⟩

theorem SimAt.bind {α β γ δ : Type} {R : Ren → α → β → Prop} {R' : Ren → γ → δ → Prop} {σ : AS} {s : Sem α} {s' : Sem β} {f : α → Sem γ} {f' : β → Sem δ}
    (h : SimAt P ρ R σ s s') (k : ∀ ρ', ρ.le ρ' → ∀ a b, R ρ' a b → Sim P ρ' R' (f a) (f' b)) : SimAt P ρ R' σ (s >>= f) (s' >>= f') := by
  intro w hw x σ' hx
  change arun P (s.bind f) σ = _ at hx
  rw [arun_bind] at hx
  cases h1 : arun P s σ with
  | none => rw [h1] at hx; cases hx
  | some y =>
    obtain ⟨a, σ1⟩ := y
    rw [h1] at hx
    obtain ⟨ρ1, b, w1, hr, hw1, hf, hR⟩ := h w hw a σ1 h1
    obtain ⟨ρ2, c, w2, hr2, hw2, hf2, hR2⟩ := k ρ1 hf.le a b hR σ1 w1 hw1 x σ' hx
    refine ⟨ρ2, c, w2, ?_, hw2, hf.trans hf2, hR2⟩
    rw [Sem.run_bind, hr]
    exact hr2
/-- The first half only reads the program. -/
theorem SimAt.dull {α β γ δ : Type} {R' : Ren → γ → δ → Prop} {σ : AS} {s : Sem α} {s' : Sem β} {f : α → Sem γ} {f' : β → Sem δ} {a : α} {b : β}
    (h : still P s = some a) (h' : still P s' = some b) (k : SimAt P ρ R' σ (f a) (f' b)) : SimAt P ρ R' σ (s >>= f) (s' >>= f') := by
  intro w hw x σ' hx
  change arun P (s.bind f) σ = _ at hx
  rw [arun_bind, still_arun s h] at hx
  obtain ⟨ρ2, c, w2, hr2, hw2, hf2, hR2⟩ := k w hw x σ' hx
  refine ⟨ρ2, c, w2, ?_, hw2, hf2, hR2⟩
  rw [Sem.run_bind, still_run s' h']
  exact hr2
theorem still_underlying {t : TypeId} {d : TypeDesc} (h : P.underlying t = some d) : still P (underlying t) = some d := by
  unfold Go.underlying Go.program
  simp only [Bind.bind, Sem.bind, still, h]
  rfl

theorem Sim.lookup (hz : ZerosOk P) (t : TypeId) {x x' k k' : Value} (hx : VRel ρ x x') (hk : VRel ρ k k') (ok : Bool) {σ : AS} (hok : mapKeyOk P σ t x k = true) :
    SimAt P ρ VRel σ (Instr.lookup t x k ok) (Instr.lookup t x' k' ok) := by
  simp only [mapKeyOk] at hok
  split at hok
  case h_2 => cases hok
  rename_i kt et es hd hes
  have hpk : plainKey k = true := by simp only [keyOk, Bool.and_eq_true] at hok; exact hok.1
  obtain rfl := plainKey_rel hk hpk
  unfold Instr.lookup
  refine SimAt.dull (still_underlying hd) (still_underlying hd) ?_
  dsimp only
  have rest : ∀ (ρ1 : Ren) (e e' : Array MapEntry), e.toList = es → EsR ρ1 e.toList e'.toList → Sim P ρ1 VRel
      (do Instr.checkKey e.isEmpty 10000 kt k'
          let __do_lift ← Instr.findKey kt k' e.toList
          match __do_lift with
          | some (_, v) => do
            let __x ← pure (v, true)
            pure (if ok = true then .tuple #[__x.1, .bool __x.2] else __x.1)
          | none => do
            let __do_lift ← Go.zeroValue et
            let __x ← pure (__do_lift, false)
            pure (if ok = true then .tuple #[__x.1, .bool __x.2] else __x.1))
      (do Instr.checkKey e'.isEmpty 10000 kt k'
          let __do_lift ← Instr.findKey kt k' e'.toList
          match __do_lift with
          | some (_, v) => do
            let __x ← pure (v, true)
            pure (if ok = true then .tuple #[__x.1, .bool __x.2] else __x.1)
          | none => do
            let __do_lift ← Go.zeroValue et
            let __x ← pure (__do_lift, false)
            pure (if ok = true then .tuple #[__x.1, .bool __x.2] else __x.1)) := by
    intro ρ1 e e' h0 he
    subst h0
    have hsz : e'.isEmpty = e.isEmpty := by
      have := he.length
      simp only [Array.length_toList] at this
      simp only [Array.isEmpty, this]
    rw [hsz]
    have fin : ∀ (ρ' : Ren) (v v' : Value) (b : Bool), VRel ρ' v v' → VRel ρ' (if ok = true then .tuple #[v, .bool b] else v) (if ok = true then .tuple #[v', .bool b] else v') := by
      intro ρ' v v' b hv
      split
      · exact .tuple (.cons hv (.cons (.bool _) .nil))
      · exact hv
    refine Sim.bind (Sim.checkKey _ 9999 kt hpk) ?_
    rintro ρ2 h2 _ _ -
    refine Sim.bind (Sim.findKey kt k' (he.mono h2) hok) ?_
    rintro ρ3 h3 _ _ (⟨rfl, rfl⟩ | ⟨j, v, v', rfl, rfl, hv⟩)
    · dsimp only
      refine Sim.bind (Sim.zeroValue hz et) ?_
      rintro ρ4 h4 z _ ⟨rfl, hzz⟩
      exact Sim.ret (fin _ _ _ _ hzz)
    · exact Sim.ret (fin _ _ _ _ hv)
  cases hx <;> first | (simp [entriesOf] at hes; done) | skip
  case mapNil =>
    simp only [entriesOf, Option.some.injEq] at hes
    subst hes
    exact Sim.at (rest ρ #[] #[] rfl .nil) _
  case map hr =>
    refine SimAt.bind (Sim.getMap hr hes) ?_
    rintro ρ1 h1 _ _ ⟨rfl, e, e', c, rfl, rfl, h0, h2⟩
    exact rest _ e e' h0 h2

theorem sameBits_rel {a a' k : Value} (h : VRel ρ a a') (hk : plainKey k = true) (n : Nat) : Instr.sameBits (n + 1) a' k = Instr.sameBits (n + 1) a k := by
  cases h <;> first | rfl | (cases k <;> first | rfl | cases hk)
theorem Sim.keyThatStays {a a' k : Value} (h : VRel ρ a a') (hk : plainKey k = true) : Sim P ρ (fun _ x y => x = k ∧ y = k) (Instr.keyThatStays a k) (Instr.keyThatStays a' k) := by
  unfold Instr.keyThatStays
  rw [show (10000 : Nat) = 9999 + 1 from rfl, sameBits_rel h hk]
  split
  · exact Sim.ret ⟨rfl, rfl⟩
  · exact Dead.sim (Dead.bind fun _ => rfl)
theorem plain_refl {k : Value} (hk : plainKey k = true) (ρ : Ren) : VRel ρ k k := by
  cases k <;> first | exact .bool _ | exact .int _ _ | exact .string _ | cases hk

theorem Sim.mapUpdate (t : TypeId) {x x' k k' v v' : Value} (hx : VRel ρ x x') (hk : VRel ρ k k') (hv : VRel ρ v v') {σ : AS} (hok : mapKeyOk P σ t x k = true) :
    SimAt P ρ (fun _ _ _ => True) σ (Instr.mapUpdate t x k v) (Instr.mapUpdate t x' k' v') := by
  simp only [mapKeyOk] at hok
  split at hok
  case h_2 => cases hok
  rename_i kt et es hd hes
  have hpk : plainKey k = true := by simp only [keyOk, Bool.and_eq_true] at hok; exact hok.1
  obtain rfl := plainKey_rel hk hpk
  unfold Instr.mapUpdate
  refine SimAt.dull (still_underlying hd) (still_underlying hd) ?_
  dsimp only
  cases hx <;> first | (simp [entriesOf] at hes; done) | skip
  case mapNil => exact Sim.at Sim.panics _
  case map r l hr =>
    refine SimAt.bind (Sim.getMap hr hes) ?_
    rintro ρ1 h1 _ _ ⟨rfl, e, e', c, rfl, rfl, rfl, he⟩
    dsimp only
    refine Sim.bind (Sim.checkKey _ 9999 kt hpk) ?_
    rintro ρ2 h2 _ _ -
    refine Sim.bind (Sim.findKey kt k' (he.mono h2) hok) ?_
    rintro ρ3 h3 _ _ (⟨rfl, rfl⟩ | ⟨j, u, u', rfl, rfl, hu⟩)
    · dsimp only
      refine Sim.setObj (h3 _ _ (h2 _ _ hr)) (.map ?_)
      simp only [Array.toList_push]
      exact ((he.mono h2).mono h3).append (.cons ⟨plain_refl hpk _, (hv.mono h2).mono h3, rfl⟩ .nil)
    · dsimp only
      have hold : VRel ρ3 (((e[j]?).map (·.key)).getD k') (((e'[j]?).map (·.key)).getD k') := by
        rcases ((he.mono h2).mono h3).get j with ⟨h4, h5⟩ | ⟨y, z, h4, h5, h6⟩
        · simp only [Array.getElem?_toList] at h4 h5
          rw [h4, h5]; exact plain_refl hpk _
        · simp only [Array.getElem?_toList] at h4 h5
          rw [h4, h5]; exact h6.key
      refine Sim.bind (Sim.keyThatStays hold hpk) ?_
      rintro ρ4 h4 ka kb ⟨hka, hkb⟩
      rw [hka, hkb]
      refine Sim.setObj (h4 _ _ (h3 _ _ (h2 _ _ hr))) (.map ?_)
      simp only [Array.toList_modify]
      exact EsR.modify (f := fun e => { e with key := k', val := v }) (g := fun e => { e with key := k', val := v' }) (fun a b hab => ⟨plain_refl hpk _, ((hv.mono h2).mono h3).mono h4, hab.born⟩) (((he.mono h2).mono h3).mono h4) j

theorem Sim.mapEntry (hz : ZerosOk P) (t : TypeId) {x x' k k' : Value} (hx : VRel ρ x x') (hk : VRel ρ k k') {σ : AS} (hok : mapKeyOk P σ t x k = true) :
    SimAt P ρ VRel σ (Instr.mapEntry t x k) (Instr.mapEntry t x' k') := by
  simp only [mapKeyOk] at hok
  split at hok
  case h_2 => cases hok
  rename_i kt et es hd hes
  have hpk : plainKey k = true := by simp only [keyOk, Bool.and_eq_true] at hok; exact hok.1
  obtain rfl := plainKey_rel hk hpk
  unfold Instr.mapEntry
  refine SimAt.dull (still_underlying hd) (still_underlying hd) ?_
  dsimp only
  cases hx <;> first | (simp [entriesOf] at hes; done) | skip
  case mapNil => exact Sim.at Sim.panics _
  case map r l hr =>
    refine SimAt.bind (Sim.getMap hr hes) ?_
    rintro ρ1 h1 _ _ ⟨rfl, e, e', c, rfl, rfl, rfl, he⟩
    dsimp only
    refine Sim.bind (Sim.checkKey _ 9999 kt hpk) ?_
    rintro ρ2 h2 _ _ -
    refine Sim.bind (Sim.findKey kt k' (he.mono h2) hok) ?_
    rintro ρ3 h3 _ _ (⟨rfl, rfl⟩ | ⟨j, u, u', rfl, rfl, hu⟩)
    · dsimp only
      refine Sim.bind (Sim.zeroValue hz et) ?_
      rintro ρ4 h4 z _ ⟨rfl, hzz⟩
      refine Sim.bind (Sim.setObj (h4 _ _ (h3 _ _ (h2 _ _ hr))) (.map ?_)) ?_
      · simp only [Array.toList_push]
        exact (((he.mono h2).mono h3).mono h4).append (.cons ⟨plain_refl hpk _, hzz, rfl⟩ .nil)
      · rintro ρ5 h5 _ _ -
        exact Sim.ret (.tuple (.cons (hzz.mono h5) (.cons (.int _ _) .nil)))
    · dsimp only
      have hget := ((he.mono h2).mono h3).get j
      simp only [Array.getElem?_toList] at hget
      have hold : VRel ρ3 (((e[j]?).map (·.key)).getD k') (((e'[j]?).map (·.key)).getD k') := by
        rcases hget with ⟨h4, h5⟩ | ⟨y, z, h4, h5, h6⟩
        · rw [h4, h5]; exact plain_refl hpk _
        · rw [h4, h5]; exact h6.key
      have hborn : ((e'[j]?).map (fun x => (x.born : Int))).getD 0 = ((e[j]?).map (fun x => (x.born : Int))).getD 0 := by
        rcases hget with ⟨h4, h5⟩ | ⟨y, z, h4, h5, h6⟩
        · rw [h4, h5]
        · rw [h4, h5]; simp only [Option.map_some, h6.born]
      refine Sim.bind (Sim.keyThatStays hold hpk) ?_
      rintro ρ4 h4 ka kb ⟨hka, hkb⟩
      rw [hka, hkb]
      refine Sim.bind (Sim.setObj (h4 _ _ (h3 _ _ (h2 _ _ hr))) (.map ?_)) ?_
      · simp only [Array.toList_modify]
        exact EsR.modify (f := fun e => { e with key := k' }) (g := fun e => { e with key := k' }) (fun a b hab => ⟨plain_refl hpk _, hab.val, hab.born⟩) (((he.mono h2).mono h3).mono h4) j
      · rintro ρ5 h5 _ _ -
        rw [hborn]
        exact Sim.ret (.tuple (.cons ((hu.mono h4).mono h5) (.cons (.int _ _) .nil)))

theorem findBorn_rel {n : Int} {a b : Array MapEntry} (h : EsR ρ a.toList b.toList) : b.findIdx? (fun e => (e.born : Int) == n) = a.findIdx? (fun e => (e.born : Int) == n) := by
  rcases a with ⟨a⟩
  rcases b with ⟨b⟩
  simp only [List.findIdx?_toArray]
  replace h : EsR ρ a b := h
  induction h with
  | nil => rfl
  | cons h hs ih => simp only [List.findIdx?_cons, h.born, ih]

theorem Sim.entryStore (t : TypeId) {x x' k k' v v' : Value} (hx : VRel ρ x x') (hk : VRel ρ k k') (hv : VRel ρ v v') :
    Sim P ρ (fun _ _ _ => True) (Instr.entryStore t x k v) (Instr.entryStore t x' k' v') := by
  unfold Instr.entryStore
  cases hx <;> first | exact Sim.stuck | skip
  case map r l hr =>
  dsimp only
  refine Sim.bind (Sim.getObj hr) ?_
  rintro ρ1 h1 a b ⟨rfl, -, hab⟩
  cases hab <;> first | exact Sim.stuck | skip
  case map es es' c he =>
  dsimp only
  refine Sim.bind (Sim.asInt hk) ?_
  rintro ρ2 h2 n _ rfl
  rw [findBorn_rel he]
  split
  · rename_i i hi
    refine Sim.setObj (h2 _ _ hr) (.map ?_)
    simp only [Array.toList_modify]
    exact EsR.modify (f := fun e => { e with val := v }) (g := fun e => { e with val := v' }) (fun a b hab => ⟨hab.key, hv.mono h2, hab.born⟩) (he.mono h2) i
  · exact Sim.unsupported

theorem Sim.delete (ts : Array TypeId) (t : TypeId) {mt : TypeId} {x x' k k' : Value} (hx : VRel ρ x x') (hk : VRel ρ k k') (hts : ts[0]? = some mt) {σ : AS} (hok : mapKeyOk P σ mt x k = true) :
    SimAt P ρ VRel σ (Builtin.delete_ ts t #[x, k]) (Builtin.delete_ ts t #[x', k']) := by
  simp only [mapKeyOk] at hok
  split at hok
  case h_2 => cases hok
  rename_i kt et es hd hes
  have hpk : plainKey k = true := by simp only [keyOk, Bool.and_eq_true] at hok; exact hok.1
  obtain rfl := plainKey_rel hk hpk
  unfold Builtin.delete_
  have g0 : ∀ (a b : Value), (#[a, b] : Array Value)[0]? = some a := fun _ _ => rfl
  have g1 : ∀ (a b : Value), (#[a, b] : Array Value)[1]? = some b := fun _ _ => rfl
  rw [hts, g0, g1, g0, g1]
  dsimp only
  refine SimAt.dull (still_underlying hd) (still_underlying hd) ?_
  dsimp only
  have fin : ∀ ρ' : Ren, Sim P ρ' VRel (Pure.pure (Value.tuple #[])) (Pure.pure (Value.tuple #[])) := fun ρ' => Sim.ret (.tuple .nil)
  cases hx <;> first | (simp [entriesOf] at hes; done) | skip
  case mapNil =>
    refine Sim.at ?_ _
    refine Sim.bind (Sim.checkKey _ 9999 kt hpk) ?_
    rintro ρ2 h2 _ _ -
    exact fin _
  case map r l hr =>
    refine SimAt.bind (Sim.getMap hr hes) ?_
    rintro ρ1 h1 _ _ ⟨rfl, e, e', c, rfl, rfl, rfl, he⟩
    dsimp only
    have hsz : e'.isEmpty = e.isEmpty := by
      have := he.length
      simp only [Array.length_toList] at this
      simp only [Array.isEmpty, this]
    rw [hsz]
    refine Sim.bind (Sim.checkKey _ 9999 kt hpk) ?_
    rintro ρ2 h2 _ _ -
    refine Sim.bind (Sim.findKey kt k' (he.mono h2) hok) ?_
    rintro ρ3 h3 _ _ (⟨rfl, rfl⟩ | ⟨j, u, u', rfl, rfl, hu⟩)
    · dsimp only
      refine Sim.bind (Sim.setObj (h3 _ _ (h2 _ _ hr)) (.map ((he.mono h2).mono h3))) ?_
      rintro ρ4 h4 _ _ -
      exact fin _
    · dsimp only
      refine Sim.bind (Sim.setObj (h3 _ _ (h2 _ _ hr)) (.map ?_)) ?_
      · simp only [Array.toList_eraseIdxIfInBounds]
        exact ((he.mono h2).mono h3).erase j
      · rintro ρ4 h4 _ _ -
        exact fin _

/-! Iterators. -/
theorem Sim.range (t : TypeId) {x x' : Value} (hx : VRel ρ x x') : Sim P ρ VRel (Instr.range t x) (Instr.range t x') := by
  unfold Instr.range
  have fin : ∀ (ρ' : Ren) (o o' : Obj), (∀ (ρ'' : Ren), ρ'.le ρ'' → ∀ l, ORel P ρ'' l o o') → Sim P ρ' VRel (do pure (.pointer (some ⟨← newObj o, 0, none⟩))) (do pure (.pointer (some ⟨← newObj o', 0, none⟩))) := by
    intro ρ' o o' h
    refine Sim.bind (R := NumR) (Sim.new fun n b hn => ⟨⟨b, 0, 0⟩, rfl, h _ (Ren.le_more hn) _⟩) ?_
    rintro ρ2 hle r r' ⟨l, h1, rfl⟩
    exact Sim.ret (.ptr h1)
  refine Sim.bind (Sim.underlying t) ?_
  rintro ρ1 h1 d _ ⟨rfl, -⟩
  have hx1 := hx.mono h1
  dsimp only
  cases d <;> first | (dsimp only; exact (Dead.bind fun _ => rfl).sim) | skip
  case string =>
    cases hx1 <;> first | (dsimp only; exact (Dead.bind fun _ => rfl).sim) | skip
    exact fin _ _ _ fun _ _ _ => .stringIter _ _
  case map =>
    cases hx1 <;> first | (dsimp only; exact (Dead.bind fun _ => rfl).sim) | skip
    · exact fin _ _ _ fun _ _ _ => .mapIterNil _ _ _
    · rename_i hr
      dsimp only
      refine Sim.bind (Sim.getObj hr) ?_
      rintro ρ2 h2 a b ⟨rfl, -, hab⟩
      cases hab <;> first | exact (Dead.bind fun _ => rfl).sim | skip
      exact fin _ _ _ fun _ hle _ => .mapIter _ _ _ (hle _ _ hr)

end
end Go.Proofs.YtlnhacbdbhmgkaaGreatDoor
