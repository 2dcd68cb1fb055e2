/- A whole run by calculation: codes, functions, and that the run goes as the calculation. -/
import Derived.Test.YtlnhacbdbhmgkaaGreatDoorEvM
import Derived.LoopN
import Derived.Scope
namespace Go.Proofs.YtlnhacbdbhmgkaaGreatDoor
noncomputable section

/-- A code. -/
def runC (P : Program) (call : Caller) : Nat → Code → Fra → AS → Option (Exit × Fra × AS)
  | 0, _, _, _ => none
  | f + 1, c, a, σ =>
    match c with
    | .skip => some (.normal, a, σ)
    | .label _ => some (.normal, a, σ)
    | .region _ ops false =>
      match opsIn P call ops ops.toList a σ with
      | some (a1, σ1) => some (.normal, a1, σ1)
      | none => none
    | .region _ ops true =>
      match drawIn P call ops a σ with
      | some (a1, σ1) => some (.normal, a1, σ1)
      | none => none
    | .seq x y =>
      match runC P call f x a σ with
      | some (.normal, a1, σ1) => runC P call f y a1 σ1
      | r => r
    | .cond x t e =>
      if envOk x then
        match a.eval x with
        | .bool true => runC P call f t a σ
        | .bool false => runC P call f e a σ
        | _ => none
      else none
    | .block id b =>
      match runC P call f b a σ with
      | some (.exit i, a1, σ1) => if i = id then some (.normal, a1, σ1) else some (.exit i, a1, σ1)
      | r => r
    | .loop b =>
      match runC P call f b a σ with
      | some (.normal, a1, σ1) => runC P call f (.loop b) a1 σ1
      | r => r
    | .exit id => some (.exit id, a, σ)
    | .scope b => runC P call f b a σ
    | .ret => some (.ret, a, σ)
    | _ => none

/-- What a function returns. -/
def oneOf : List Value → Value
  | [v] => v
  | vs => .tuple vs.toArray
def outOf (fn : Func) (a : Fra) : Sem Value := do
  let vs ← fn.results.toList.mapM fun
    | .tmp t => pure (a.slot t)
    | .cell x t => do loadVar t (← asAddr (a.slot x))
  pure (oneOf vs)

def callWith (P : Program) (call : Caller) (n : Nat) (g : FuncId) (args : Array Value) (σ : AS) : Option (Value × AS) :=
  match P.funcs[g]? with
  | none => none
  | some fn =>
    match fn.body with
    | none => none
    | some c =>
      match Nat.ble (args.size + (fn.ntmps - args.size)) 4294967296 with
      | false => none
      | true =>
      match runC P call n c (Fra.enter args fn.ntmps) σ with
      | some (.normal, a1, σ1) => (match a1.defers with | [] => arun P (outOf fn a1) σ1 | _ => none)
      | some (.ret, a1, σ1) => (match a1.defers with | [] => arun P (outOf fn a1) σ1 | _ => none)
      | _ => none

/-- A call, of so great a depth. -/
def callF (P : Program) (n : Nat) : Nat → Caller
  | 0 => fun _ _ _ => none
  | f + 1 => callWith P (callF P n f) n

section
variable {P : Program} {ρ : Ren}

theorem Sim.mapM {α : Type} {f f' : α → Sem Value} : ∀ (l : List α) {ρ : Ren}, (∀ ρ' x, ρ.le ρ' → Sim P ρ' VRel (f x) (f' x)) → Sim P ρ VsRel (l.mapM f) (l.mapM f')
  | [], ρ, _ => Sim.ret .nil
  | x :: l, ρ, h => by
    rw [List.mapM_cons, List.mapM_cons]
    refine Sim.bind (h ρ x (.refl _)) fun ρ1 h1 v v' hv => ?_
    refine Sim.bind (Sim.mapM l fun ρ2 y h2 => h ρ2 y (h1.trans h2)) fun ρ2 h2 vs vs' hvs => ?_
    exact Sim.ret (.cons (hv.mono h2) hvs)
theorem Sim.results (fn : Func) {a : Fra} {tmps' : Array Value} (h : ∀ t, VRel ρ (a.slot t) (tmps'.getD t undef)) : Sim P ρ VRel (outOf fn a) (results fn tmps') := by
  unfold Go.results outOf
  rw [Array.mapM_eq_mapM_toList, map_eq_pure_bind, bind_assoc]
  refine Sim.bind (Sim.mapM _ fun ρ1 x h1 => ?_) fun ρ1 h1 vs vs' hvs => ?_
  · cases x with
    | tmp t => exact Sim.ret ((h t).mono h1)
    | cell a t => exact Sim.bind (Sim.asAddr ((h a).mono h1)) fun ρ2 h2 x x' hx => Sim.loadVar t hx
  · rw [pure_bind]
    refine Sim.ret ?_
    match vs, vs', hvs with
    | [], [], _ => exact .tuple .nil
    | [_], [_], .cons hv .nil => exact hv
    | _ :: _ :: _, _ :: _ :: _, hvs => exact .tuple hvs

/-- A Sem that leaves the world. -/
def Keeps (P : Program) {α : Type} (s : Sem α) : Prop := ∀ w v w', s.run P w = .ok v w' → w' = w
theorem Keeps.ret {α : Type} {a : α} : Keeps P (Pure.pure a : Sem α) := fun w v w' h => by cases h; rfl
theorem Keeps.halt {α : Type} {h : Halt} : Keeps P (.halt h : Sem α) := fun w v w' h => by cases h
theorem Keeps.bind {α β : Type} {s : Sem α} {f : α → Sem β} (h : Keeps P s) (k : ∀ a, Keeps P (f a)) : Keeps P (s >>= f) := fun w v w' hx => by
  rw [Sem.run_bind] at hx
  cases hs : s.run P w with
  | ok a w1 =>
    rw [hs] at hx
    rw [k a w1 v w' hx, h w a w1 hs]
  | halt x w1 => rw [hs] at hx; cases hx
theorem Keeps.program : Keeps P Go.program := fun w v w' h => by cases h; rfl
theorem Keeps.load {a : Addr} {m : Mode} : Keeps P (Go.load a m) := fun w v w' h => by
  rw [run_load] at h
  split at h
  · cases h; rfl
  · split at h
    · cases h; rfl
    · cases h
theorem Keeps.typeInfo {t : TypeId} : Keeps P (Go.typeInfo t) := by
  unfold Go.typeInfo
  refine Keeps.program.bind fun p => ?_
  split
  · exact Keeps.ret
  · exact Keeps.halt
theorem Keeps.underlying {t : TypeId} : Keeps P (Go.underlying t) := by
  unfold Go.underlying
  refine Keeps.program.bind fun p => ?_
  split
  · exact Keeps.ret
  · exact Keeps.halt
theorem Keeps.loadCellsFrom {a : Addr} : ∀ (n i : Nat) (acc : Array Value), Keeps P (Go.loadCellsFrom a i n acc)
  | 0, _, _ => Keeps.ret
  | n + 1, i, acc => by
    unfold Go.loadCellsFrom
    exact Keeps.load.bind fun v => Keeps.loadCellsFrom n (i + 1) (acc.push v)
theorem Keeps.loadVar {t : TypeId} {a : Addr} : Keeps P (Go.loadVar t a) := by
  unfold Go.loadVar Go.isAgg Go.sizeOf
  refine Keeps.bind (Keeps.underlying.bind fun d => ?_) fun b => ?_
  · split <;> exact Keeps.ret
  · split
    · refine Keeps.bind (Keeps.typeInfo.bind fun i => Keeps.ret) fun n => ?_
      exact (Keeps.loadCellsFrom n 0 _).bind fun c => Keeps.ret
    · exact Keeps.load
theorem Keeps.nilDeref {α : Type} : Keeps P (runtimePanic .nilDeref : Sem α) := by
  unfold runtimePanic
  refine Keeps.program.bind fun p => ?_
  dsimp only
  first
    | exact Keeps.halt
    | exact Keeps.bind (fun w v w' h => by cases h; rfl) fun _ => Keeps.halt
    | exact Keeps.bind (fun w v w' h => by cases h; rfl) fun _ => Keeps.bind (fun w v w' h => by cases h; rfl) fun _ => Keeps.halt
theorem Keeps.asAddr {v : Value} : Keeps P (Go.asAddr v) := by
  cases v with
  | pointer p =>
    cases p with
    | some a => exact Keeps.ret
    | none => exact Keeps.nilDeref
  | _ => exact Keeps.halt
theorem Keeps.mapM {α : Type} {f : α → Sem Value} (h : ∀ x, Keeps P (f x)) : ∀ l : List α, Keeps P (l.mapM f)
  | [] => Keeps.ret
  | x :: l => by
    rw [List.mapM_cons]
    exact (h x).bind fun v => (Keeps.mapM h l).bind fun vs => Keeps.ret
theorem Keeps.results (fn : Func) (tmps : Array Value) : Keeps P (Go.results fn tmps) := by
  unfold Go.results
  rw [Array.mapM_eq_mapM_toList, map_eq_pure_bind, bind_assoc]
  refine (Keeps.mapM (fun x => ?_) _).bind fun vs => ?_
  · cases x with
    | tmp t => exact Keeps.ret
    | cell a t => exact Keeps.asAddr.bind fun x => Keeps.loadVar
  · rw [pure_bind]; exact Keeps.ret

/-- How a code ends. -/
theorem runC_exit {call : Caller} : ∀ (f : Nat) {c : Code} {a : Fra} {σ : AS} {e : Exit} {a1 : Fra} {σ1 : AS}, runC P call f c a σ = some (e, a1, σ1) → e = .normal ∨ e = .ret ∨ ∃ i, e = .exit i := by
  intro f
  induction f with
  | zero => intro c a σ e a1 σ1 h; cases h
  | succ f ih =>
    intro c a σ e a1 σ1 h
    cases c with
    | skip => cases h; exact .inl rfl
    | label l => cases h; exact .inl rfl
    | region id ops draw =>
      cases draw <;> simp only [runC] at h <;> split at h <;> cases h <;> exact .inl rfl
    | seq x y =>
      simp only [runC] at h
      split at h <;> exact ih h
    | cond x t el =>
      simp only [runC] at h
      split at h
      case isFalse => cases h
      split at h <;> first | exact ih h | cases h
    | block id b =>
      simp only [runC] at h
      split at h
      · split at h
        · cases h; exact .inl rfl
        · cases h; exact .inr (.inr ⟨_, rfl⟩)
      · exact ih h
    | loop b =>
      simp only [runC] at h
      split at h <;> exact ih h
    | rangeFunc => cases h
    | exit id => cases h; exact .inr (.inr ⟨_, rfl⟩)
    | scope b => exact ih h
    | goto => cases h
    | ret => cases h; exact .inr (.inl rfl)
    | refuse => cases h

/-- The run of a code goes as the calculation. -/
theorem runC_sound (hz : ZerosOk P) (hm : P.follows .mixedOrders = true) {call : Caller} (hcall : CallOk P call) :
    ∀ (f : Nat) {c : Code} {a : Fra} {σ : AS} {e : Exit} {a1 : Fra} {σ1 : AS}, runC P call f c a σ = some (e, a1, σ1) → ∀ {ρ : Ren} {w : World} {a' : Act} {Q : Exit → Act → World → Prop},
      WRel P ρ σ w → ActR ρ a a' → (∀ ρ' w' a1', WRel P ρ' σ1 w' → Fr σ.next σ1.next ρ w ρ' w' → ActR ρ' a1 a1' → Q e a1' w') → c.wp P Q a' w ∧ (∀ b, c = .loop b → Code.rounds P b Q f a' w) := by
  intro f
  induction f with
  | zero => intro c a σ e a1 σ1 h; cases h
  | succ f ih =>
    intro c a σ e a1 σ1 h ρ w a' Q hw ha hQ
    cases c with
    | skip =>
      simp only [runC, Option.some.injEq, Prod.mk.injEq] at h
      obtain ⟨rfl, rfl, rfl⟩ := h
      exact ⟨wp_skip (hQ ρ w a' hw (.refl _ _) ha), fun b hb => by cases hb⟩
    | label l =>
      simp only [runC, Option.some.injEq, Prod.mk.injEq] at h
      obtain ⟨rfl, rfl, rfl⟩ := h
      exact ⟨wp_label (hQ ρ w a' hw (.refl _ _) ha), fun b hb => by cases hb⟩
    | region id ops draw =>
      refine ⟨?_, fun b hb => by cases hb⟩
      cases draw with
      | false =>
        simp only [runC] at h
        split at h
        · rename_i hr
          cases h
          exact wp_region_list (opsIn_sound hz hcall _ hr hw ha hQ)
        · cases h
      | true =>
        simp only [runC] at h
        split at h
        · rename_i hr
          cases h
          exact drawIn_sound hz hm hcall hr hw ha hQ
        · cases h
    | seq x y =>
      refine ⟨wp_seq ?_, fun b hb => by cases hb⟩
      simp only [runC] at h
      split at h
      · rename_i b1 σ2 hr
        exact (ih hr hw ha fun ρ' w' b1' hw' hf' ha' => (ih h hw' ha' fun ρ2 w2 a2 hw2 hf2 ha2 => hQ ρ2 w2 a2 hw2 (hf'.trans hf2) ha2).1).1
      · rename_i hne
        refine (ih h hw ha fun ρ' w' a1' hw' hf' ha' => ?_).1
        have := hQ ρ' w' a1' hw' hf' ha'
        cases e with
        | normal => exact absurd h (hne _ _)
        | _ => exact this
    | cond x t el =>
      refine ⟨?_, fun b hb => by cases hb⟩
      simp only [runC] at h
      split at h
      case isFalse => cases h
      rename_i henv
      have hx := eval_rel hw henv (a := a) (a' := a') fun t _ => ha.slot t
      split at h
      · rename_i hv
        rw [hv] at hx
        refine wp_cond_true ?_ (ih h hw ha hQ).1
        generalize a'.eval x = v at hx
        cases hx; rfl
      · rename_i hv
        rw [hv] at hx
        refine wp_cond_false ?_ (ih h hw ha hQ).1
        generalize a'.eval x = v at hx
        cases hx; rfl
      · cases h
    | block id b =>
      refine ⟨wp_block ?_, fun b hb => by cases hb⟩
      simp only [runC] at h
      split at h
      · rename_i i b1 σ2 hr
        split at h
        · rename_i hi
          cases h
          refine (ih hr hw ha fun ρ' w' a1' hw' hf' ha' => ?_).1
          simp only [Exit.inBlock, hi, if_true]
          exact hQ ρ' w' a1' hw' hf' ha'
        · rename_i hi
          cases h
          refine (ih hr hw ha fun ρ' w' a1' hw' hf' ha' => ?_).1
          simp only [Exit.inBlock, hi, if_false]
          exact hQ ρ' w' a1' hw' hf' ha'
      · rename_i hne
        refine (ih h hw ha fun ρ' w' a1' hw' hf' ha' => ?_).1
        have := hQ ρ' w' a1' hw' hf' ha'
        cases e with
        | exit i => exact absurd h (hne _ _ _)
        | _ => exact this
    | loop b =>
      have key : Code.rounds P b Q (f + 1) a' w := by
        rw [rounds_succ]
        simp only [runC] at h
        split at h
        · rename_i b1 σ2 hr
          exact (ih hr hw ha fun ρ' w' b1' hw' hf' ha' => (ih h hw' ha' fun ρ2 w2 a2 hw2 hf2 ha2 => hQ ρ2 w2 a2 hw2 (hf'.trans hf2) ha2).2 b rfl).1
        · rename_i hne
          refine (ih h hw ha fun ρ' w' a1' hw' hf' ha' => ?_).1
          have := hQ ρ' w' a1' hw' hf' ha'
          cases e with
          | normal => exact absurd h (hne _ _)
          | _ => exact this
      exact ⟨wp_loop_rounds _ key, fun b' hb => by cases hb; exact key⟩
    | rangeFunc => cases h
    | exit id =>
      simp only [runC, Option.some.injEq, Prod.mk.injEq] at h
      obtain ⟨rfl, rfl, rfl⟩ := h
      exact ⟨wp_exit (hQ ρ w a' hw (.refl _ _) ha), fun b hb => by cases hb⟩
    | scope b =>
      refine ⟨?_, fun b hb => by cases hb⟩
      simp only [runC] at h
      have hk := runC_exit f h
      refine wp_scope_straight (ih h hw ha fun ρ' w' a1' hw' hf' ha' => ?_).1
      have := hQ ρ' w' a1' hw' hf' ha'
      rcases hk with rfl | rfl | ⟨i, rfl⟩ <;> exact this
    | goto => cases h
    | ret =>
      simp only [runC, Option.some.injEq, Prod.mk.injEq] at h
      obtain ⟨rfl, rfl, rfl⟩ := h
      exact ⟨wp_ret (hQ ρ w a' hw (.refl _ _) ha), fun b hb => by cases hb⟩
    | refuse => cases h

theorem callWith_sound (hz : ZerosOk P) (hm : P.follows .mixedOrders = true) {call : Caller} (hcall : CallOk P call) (n : Nat) : CallOk P (callWith P call n) := by
  intro g args σ v σ1 h ρ w args' hw ha
  unfold callWith at h
  split at h
  · cases h
  rename_i fn hfn
  split at h
  · cases h
  rename_i c hc
  split at h
  · cases h
  rename_i hsm
  have hact : ActR ρ (Fra.enter args fn.ntmps) { tmps := args' ++ Array.replicate (fn.ntmps - args'.size) undef, defers := [] } := ActR.enter ha (Nat.le_of_ble_eq_true hsm)
  have last : ∀ {a1 : Fra} {σ2 : AS}, a1.defers = [] → arun P (outOf fn a1) σ2 = some (v, σ1) → ∀ {ρ' : Ren} {w' : World} {a1' : Act}, WRel P ρ' σ2 w' → Fr σ.next σ2.next ρ w ρ' w' → ActR ρ' a1 a1' →
      a1'.defers = [] ∧ ∃ v', (results fn a1'.tmps).run P w' = .ok v' w' ∧ ∃ ρ2, WRel P ρ2 σ1 w' ∧ Fr σ.next σ1.next ρ w ρ2 w' ∧ VRel ρ2 v v' := by
    intro a1 σ2 hd hr ρ' w' a1' hw' hf' ha'
    obtain ⟨ρ2, v', w2, h1, h2, h3, h4⟩ := Sim.results fn ha'.slot σ2 w' hw' v σ1 hr
    obtain rfl := Keeps.results fn _ _ _ _ h1
    refine ⟨?_, v', h1, ρ2, h2, hf'.trans h3, h4⟩
    have := ha'.defers
    rw [hd] at this
    generalize a1'.defers = ds at this
    cases this; rfl
  refine calls_of_wp hfn hc ?_
  split at h
  · rename_i a1 σ2 hr
    split at h
    · rename_i hd
      exact (runC_sound hz hm hcall n hr hw hact fun ρ' w' a1' hw' hf' ha' => last hd h hw' hf' ha').1
    · cases h
  · rename_i a1 σ2 hr
    split at h
    · rename_i hd
      exact (runC_sound hz hm hcall n hr hw hact fun ρ' w' a1' hw' hf' ha' => last hd h hw' hf' ha').1
    · cases h
  · cases h

/-- A call goes as the calculation. -/
theorem callF_sound (hz : ZerosOk P) (hm : P.follows .mixedOrders = true) (n : Nat) : ∀ f, CallOk P (callF P n f)
  | 0 => fun g args σ v σ1 h => by cases h
  | f + 1 => callWith_sound hz hm (callF_sound hz hm n f) n

end
end
end Go.Proofs.YtlnhacbdbhmgkaaGreatDoor
