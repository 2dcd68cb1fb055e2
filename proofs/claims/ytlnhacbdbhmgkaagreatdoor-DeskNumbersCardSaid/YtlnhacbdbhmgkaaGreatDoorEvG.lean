/- One operation of a calculation, and what it says of the run. -/
import Derived.Test.YtlnhacbdbhmgkaaGreatDoorEvF
namespace Go.Proofs.YtlnhacbdbhmgkaaGreatDoor

mutual
/-- A value without a place. -/
def flat : Value → Bool
  | .bool _ | .int .. | .float .. | .complex .. | .string _ | .nilFunc | .nilIface => true
  | .pointer a => a.isNone
  | .slice a _ c => a.isNone && decide (c < BIG)
  | .map r => r.isNone
  | .chan r => r.isNone
  | .func fn a c => (match fn with | .yield _ => false | _ => true) && flatA a && flatA c
  | .iface _ v => flat v
  | .agg c => flatA c
  | .tuple c => flatA c
def flatA : Array Value → Bool
  | ⟨l⟩ => flatL l
def flatL : List Value → Bool
  | [] => true
  | v :: l => flat v && flatL l
end

mutual
theorem flat_rel (ρ : Ren) : ∀ v : Value, flat v = true → VRel ρ v v
  | .bool _, _ => .bool _
  | .int .., _ => .int _ _
  | .float .., _ => .float _ _
  | .complex .., _ => .complex _ _ _
  | .string _, _ => .string _
  | .nilFunc, _ => .nilFunc
  | .nilIface, _ => .nilIface
  | .pointer none, _ => .ptrNil
  | .pointer (some _), h => by simp [flat] at h
  | .slice none n c, h => .sliceNil n c (by simpa [flat] using h)
  | .slice (some _) _ _, h => by simp [flat] at h
  | .map none, _ => .mapNil
  | .map (some _), h => by simp [flat] at h
  | .chan none, _ => .chanNil
  | .chan (some _), h => by simp [flat] at h
  | .func fn a c, h => by
    simp only [flat, Bool.and_eq_true] at h
    refine .func ?_ (flatA_rel ρ a h.1.2) (flatA_rel ρ c h.2)
    cases fn <;> first | constructor | (simp at h)
  | .iface t v, h => .iface t (flat_rel ρ v (by simpa [flat] using h))
  | .agg c, h => .agg (flatA_rel ρ c (by simpa [flat] using h))
  | .tuple c, h => .tuple (flatA_rel ρ c (by simpa [flat] using h))
theorem flatA_rel (ρ : Ren) : ∀ a : Array Value, flatA a = true → VsRel ρ a.toList a.toList
  | ⟨l⟩, h => flatL_rel ρ l (by simpa [flatA] using h)
theorem flatL_rel (ρ : Ren) : ∀ l : List Value, flatL l = true → VsRel ρ l l
  | [], _ => .nil
  | v :: l, h => by
    simp only [flatL, Bool.and_eq_true] at h
    exact .cons (flat_rel ρ v h.1) (flatL_rel ρ l h.2)
end
mutual
theorem rel_flat {ρ : Ren} : ∀ {v v' : Value}, VRel ρ v v' → flat v = true → v' = v
  | _, _, .bool _, _ => rfl
  | _, _, .int .., _ => rfl
  | _, _, .float .., _ => rfl
  | _, _, .complex .., _ => rfl
  | _, _, .string _, _ => rfl
  | _, _, .nilFunc, _ => rfl
  | _, _, .nilIface, _ => rfl
  | _, _, .ptrNil, _ => rfl
  | _, _, .ptr _, h => by simp [flat] at h
  | _, _, .sliceNil .., _ => rfl
  | _, _, .sliceX .., h => by simp [flat] at h
  | _, _, .sliceF .., h => by simp [flat] at h
  | _, _, .mapNil, _ => rfl
  | _, _, .map _, h => by simp [flat] at h
  | _, _, .chanNil, _ => rfl
  | _, _, .func (a := a) (a' := a') (c := c) (c' := c') hf ha hc, h => by
    simp only [flat, Bool.and_eq_true] at h
    have h1 := rels_flat ha (by cases a; simpa [flatA] using h.1.2)
    have h2 := rels_flat hc (by cases c; simpa [flatA] using h.2)
    rw [Array.toList_inj.1 h1, Array.toList_inj.1 h2]
    cases hf <;> first | rfl | (simp at h)
  | _, _, .iface t hv, h => by rw [rel_flat hv (by simpa [flat] using h)]
  | _, _, .agg (c := c) hc, h => by
    have h1 := rels_flat hc (by cases c; simpa [flat, flatA] using h)
    rw [Array.toList_inj.1 h1]
  | _, _, .tuple (c := c) hc, h => by
    have h1 := rels_flat hc (by cases c; simpa [flat, flatA] using h)
    rw [Array.toList_inj.1 h1]
theorem rels_flat {ρ : Ren} : ∀ {l l' : List Value}, VsRel ρ l l' → flatL l = true → l' = l
  | _, _, .nil, _ => rfl
  | _, _, .cons h hs, hl => by
    simp only [flatL, Bool.and_eq_true] at hl
    rw [rel_flat h hl.1, rels_flat hs hl.2]
end

/-- What an operation yields, at both. -/
inductive NxR (ρ : Ren) : Next → Next → Prop
  | value {v v'} (h : VRel ρ v v') : NxR ρ (.value v) (.value v')
  | skip : NxR ρ .skip .skip
  | enter (f) {a a'} (h : AsRel ρ a a') : NxR ρ (.enter f a) (.enter f a')
  | defer {d d'} (h : DefR ρ d d') : NxR ρ (.defer d) (.defer d')

section
variable {P : Program} {ρ : Ren}

theorem Sim.value {s s' : Sem Value} (h : Sim P ρ VRel s s') : Sim P ρ NxR (do pure (.value (← s))) (do pure (.value (← s'))) :=
  Sim.bind h fun _ _ _ _ hab => Sim.ret (.value hab)
theorem Sim.unit {s s' : Sem Unit} (h : Sim P ρ (fun _ _ _ => True) s s') : Sim P ρ NxR (do s; pure .skip) (do s'; pure .skip) :=
  Sim.bind h fun _ _ _ _ _ => Sim.ret .skip
theorem SimAt.value {σ : AS} {s s' : Sem Value} (h : SimAt P ρ VRel σ s s') : SimAt P ρ NxR σ (do pure (.value (← s))) (do pure (.value (← s'))) :=
  SimAt.bind h fun _ _ _ _ hab => Sim.ret (.value hab)
theorem SimAt.unit {σ : AS} {s s' : Sem Unit} (h : SimAt P ρ (fun _ _ _ => True) σ s s') : SimAt P ρ NxR σ (do s; pure .skip) (do s'; pure .skip) :=
  SimAt.bind h fun _ _ _ _ _ => Sim.ret .skip

/-! Calls. -/
inductive PlR (ρ : Ren) : Place → Place → Prop
  | val {v v'} (h : VRel ρ v v') : PlR ρ (.val v) (.val v')
  | var {a a'} (h : AR ρ a a') : PlR ρ (.var a) (.var a')
theorem PlR.mono {ρ' : Ren} (hle : ρ.le ρ') {a b : Place} (h : PlR ρ a b) : PlR ρ' a b := by
  cases h with
  | val h => exact .val (h.mono hle)
  | var h => exact .var (h.mono hle)
theorem Sim.placeGet (t : TypeId) {x x' : Place} (h : PlR ρ x x') : Sim P ρ VRel (x.get t) (x'.get t) := by
  cases h with
  | val h => exact Sim.ret h
  | var h => exact Sim.loadVar t h
theorem Sim.follow : ∀ (p : List FieldStep) (t : TypeId) {ρ : Ren} {x x' : Place}, PlR ρ x x' → Sim P ρ (fun ρ' a b => a.1 = b.1 ∧ PlR ρ' a.2 b.2) (follow p t x) (follow p t x')
  | [], t, ρ, x, x', h => by unfold Go.follow; exact Sim.ret ⟨rfl, h⟩
  | s :: rest, t, ρ, x, x', h => by
    unfold Go.follow
    refine Sim.bind (Sim.underlying _) ?_
    rintro ρ1 h1 d _ ⟨rfl, -⟩
    cases d <;> first | exact Sim.stuck | skip
    rename_i fields
    dsimp only
    cases fields[s.index]? with
    | none => exact Sim.stuck
    | some f =>
    dsimp only
    have hx := h.mono h1
    split
    · refine Sim.bind (Sim.placeGet t hx) ?_
      intro ρ2 h2 v v' hv
      refine Sim.bind (Sim.asAddr hv) ?_
      intro ρ3 h3 a a' ha
      refine Sim.bind (Sim.fieldPlace ha f) ?_
      intro ρ4 h4 a a' ha
      exact Sim.follow rest _ (.var ha)
    · cases hx with
      | var ha =>
        dsimp only
        refine Sim.bind (Sim.fieldPlace ha f) ?_
        intro ρ4 h4 a a' ha
        exact Sim.follow rest _ (.var ha)
      | val hv =>
        cases hv <;> first | exact Sim.stuck | skip
        case agg hc =>
        dsimp only
        refine Sim.bind (Sim.part f.type hc f.offset) ?_
        intro ρ4 h4 a a' ha
        exact Sim.follow rest _ (.val ha)

theorem Sim.wrapNil (ts : Array TypeId) (t : TypeId) {x x' : Value} (hx : VRel ρ x x') (a b : ByteArray) : Sim P ρ VRel (Builtin.ssaWrapNilChk_ ts t #[x, .string a, .string b]) (Builtin.ssaWrapNilChk_ ts t #[x', .string a, .string b]) := by
  unfold Builtin.ssaWrapNilChk_
  cases hx <;> first | exact Sim.stuck | exact Sim.ret (by constructor <;> assumption) | skip
  exact (Dead.bind fun _ => rfl).sim

theorem Sim.receiverAt (t : TypeId) {x x' : Place} (h : PlR ρ x x') (b : Bool) (wr : Option String) : Sim P ρ VRel (receiverAt t x b wr) (receiverAt t x' b wr) := by
  unfold Go.receiverAt
  refine Sim.bind (Sim.underlying _) ?_
  rintro ρ1 h1 d _ ⟨rfl, -⟩
  have hx := h.mono h1
  cases b
  · have plain : Sim P ρ1 VRel (x.get t) (x'.get t) := Sim.placeGet t hx
    cases d <;> first | (cases hx <;> exact plain) | skip
    case pointer e =>
      have main : Sim P ρ1 VRel
          (do let ptr ← x.get t
              let ptr ← match wr with
                | some name => Builtin.ssaWrapNilChk_ #[t] t #[ptr, strVal "", strVal name]
                | none => Pure.pure ptr
              Go.loadVar e (← Go.asAddr ptr))
          (do let ptr ← x'.get t
              let ptr ← match wr with
                | some name => Builtin.ssaWrapNilChk_ #[t] t #[ptr, strVal "", strVal name]
                | none => Pure.pure ptr
              Go.loadVar e (← Go.asAddr ptr)) := by
        refine Sim.bind plain ?_
        intro ρ2 h2 v v' hv
        have fin : ∀ (ρ3 : Ren) (v v' : Value), VRel ρ3 v v' → Sim P ρ3 VRel (do Go.loadVar e (← Go.asAddr v)) (do Go.loadVar e (← Go.asAddr v')) := by
          intro ρ3 v v' hv
          refine Sim.bind (Sim.asAddr hv) ?_
          intro ρ4 h4 a a' ha
          exact Sim.loadVar _ ha
        cases wr with
        | none => exact fin _ _ _ hv
        | some name =>
          refine Sim.bind (Sim.wrapNil _ _ hv _ _) ?_
          intro ρ3 h3 v v' hv
          exact fin _ _ _ hv
      cases hx <;> exact main
  · cases d <;> cases hx <;> first | exact Sim.stuck | (rename_i ha; exact Sim.ret ha.ptr) | skip
    · rename_i hv; exact Sim.placeGet t (.val hv)
    · rename_i ha; exact Sim.placeGet t (.var ha)

theorem Sim.method : ∀ (n : Nat) (t : TypeId) {ρ : Ren} {v v' : Value} (name : String), VRel ρ v v' → Sim P ρ (fun ρ' a b => a.1 = b.1 ∧ VRel ρ' a.2 b.2) (method n t v name) (method n t v' name)
  | 0, t, ρ, v, v', name, h => by unfold Go.method; exact Sim.unsupported
  | n + 1, t, ρ, v, v', name, h => by
    unfold Go.method
    refine Sim.bind (Sim.typeInfo _) ?_
    rintro ρ1 h1 i _ ⟨rfl, -⟩
    cases i.methods.find? (fun m => m.name == name) with
    | none => exact Sim.stuck
    | some m =>
    dsimp only
    refine Sim.bind (Sim.follow _ t (.val (h.mono h1))) ?_
    rintro ρ2 h2 ⟨xt, x⟩ ⟨_, x'⟩ ⟨rfl, hx⟩
    dsimp only at hx ⊢
    cases m.func with
    | none =>
      dsimp only
      refine Sim.bind (Sim.placeGet _ hx) ?_
      intro ρ3 h3 v v' hv
      cases hv <;> first | exact Sim.stuck | exact Sim.panics | skip
      case iface hv => exact Sim.method n _ name hv
    | some fp =>
      obtain ⟨f, pr⟩ := fp
      dsimp only
      refine Sim.bind (Sim.receiverAt _ hx _ _) ?_
      intro ρ3 h3 v v' hv
      exact Sim.ret ⟨rfl, hv⟩

theorem Sim.callFunc (f : FuncId) {a a' : Array Value} (ha : AsRel ρ a a') (hb : ((P.funcs[f]?).map fun fn => !(fn.name == "runtime.NumGoroutine") && fn.body.isSome) = some true) : Sim P ρ NxR (callFunc f a) (callFunc f a') := by
  unfold Go.callFunc
  refine Sim.bind Sim.program ?_
  rintro ρ1 h1 p q ⟨hp, hq⟩
  rw [hp, hq]
  cases h : P.funcs[f]? with
  | none => exact Sim.stuck
  | some fn =>
    rw [h] at hb
    simp only [Option.map_some, Option.some.injEq, Bool.and_eq_true, Bool.not_eq_true'] at hb
    dsimp only
    have hnone : fn.body.isNone = false := by cases hx : fn.body <;> simp_all
    simp only [hb.1, hnone, Bool.false_eq_true, if_false]
    exact Sim.ret (NxR.enter f (ha.mono h1))

end
end Go.Proofs.YtlnhacbdbhmgkaaGreatDoor
