/- One operation of a calculation, once more: told apart in one step, so that a calculation inside Lean is short. The same as before, at every operation, without conditions. -/
import Derived.Test.YtlnhacbdbhmgkaaGreatDoorEvI
namespace Go.Proofs.YtlnhacbdbhmgkaaGreatDoor
noncomputable section

abbrev StepFn := Program → (Operand → Value) → Oper → AS → Option (Next × AS)

def unitOf : Option (Unit × AS) → Option (Next × AS)
  | some (_, σ) => some (.skip, σ)
  | none => none
def capOf : Option (Value × AS) → Option (Next × AS)
  | some (v, σ) => (match okCap v with | true => some (.value v, σ) | false => none)
  | none => none
def flatOf (P : Program) (s : Sem Value) (σ : AS) : Option (Next × AS) :=
  match still P s with
  | some v => (match flat v with | true => some (.value v, σ) | false => none)
  | none => none

theorem still_bind {P : Program} {α β : Type} {f : α → Sem β} : ∀ s : Sem α, still P (s.bind f) = (still P s).bind fun a => still P (f a)
  | .pure a => rfl
  | .program k => by simp only [Sem.bind, still]; exact still_bind _
  | .mark m k => by simp only [Sem.bind, still]; exact still_bind _
  | .choose q k => by
    simp only [Sem.bind, still]
    split
    · exact still_bind _
    · rfl
  | .load .. => rfl
  | .store .. => rfl
  | .new .. => rfl
  | .shape .. => rfl
  | .freeze .. => rfl
  | .frozen .. => rfl
  | .getObj .. => rfl
  | .setObj .. => rfl
  | .sys .. => rfl
  | .halt .. => rfl

theorem valOf_arun {P : Program} (s : Sem Value) (σ : AS) : valOf (arun P s σ) = arun P (do Pure.pure (Next.value (← s)) : Sem Next) σ := by
  change _ = arun P (s.bind _) σ
  rw [arun_bind]
  cases arun P s σ with
  | none => rfl
  | some x => rfl
theorem unitOf_arun {P : Program} (s : Sem Unit) (σ : AS) : unitOf (arun P s σ) = arun P (do s; Pure.pure Next.skip : Sem Next) σ := by
  change _ = arun P (s.bind _) σ
  rw [arun_bind]
  cases arun P s σ with
  | none => rfl
  | some x => rfl
theorem capOf_arun {P : Program} (s : Sem Value) (σ : AS) : capOf (arun P s σ) = capped (arun P (do Pure.pure (Next.value (← s)) : Sem Next) σ) := by
  change _ = capped (arun P (s.bind _) σ)
  rw [arun_bind]
  cases arun P s σ with
  | none => rfl
  | some x =>
    obtain ⟨v, σ1⟩ := x
    simp only [capOf, Option.bind_some, capped, Pure.pure, arun]
    cases okCap v <;> rfl
theorem flatOf_still {P : Program} (s : Sem Value) (σ : AS) : flatOf P s σ = flatStep P (do Pure.pure (Next.value (← s)) : Sem Next) σ := by
  have h : still P (do Pure.pure (Next.value (← s)) : Sem Next) = (still P s).bind fun a => still P (Pure.pure (Next.value a) : Sem Next) := still_bind s
  unfold flatOf flatStep
  rw [h]
  cases still P s with
  | none => rfl
  | some v =>
    simp only [Option.bind_some, Pure.pure, still]
    cases flat v <;> rfl

def lenStep (P : Program) (ev : Operand → Value) (o : Oper) (c : Call) (σ : AS) : Option (Next × AS) :=
  match c.callee with
  | .builtin .len => (match Nat.beq c.args.size 1 with | true => arun P (do let d ← resolve ev c o.type; invoke d.target d.args) σ | false => none)
  | _ => callStep P ev o c σ
theorem lenStep_eq {P : Program} {ev : Operand → Value} {o : Oper} {c : Call} (ho : o.op = .call c) (σ : AS) : lenStep P ev o c σ = callStep P ev o c σ := by
  unfold lenStep
  split
  · rename_i hc
    unfold callStep
    rw [hc]
    dsimp only
    rcases hb : Nat.beq c.args.size 1 with _ | _
    · have : ¬ c.args.size = 1 := fun e => by rw [e] at hb; cases hb
      rw [if_neg this]
    · rw [if_pos (Nat.eq_of_beq_eq_true hb)]
      simp only [execOp, ho]
  · rfl

def intOf (P : Program) (ev : Operand → Value) (o : Oper) (op : BinOp) (t : TypeId) (x y : Operand) (σ : AS) : Option (Next × AS) :=
  match flat (ev x) && flat (ev y) with
  | true => flatOf P (do eqGuard op t x y (ev x) (ev y); binOp op t (ev x) (ev y)) σ
  | false => binStep P ev o op x y σ
def convOf (P : Program) (ev : Operand → Value) (o : Oper) (src dst : TypeId) (x : Operand) (σ : AS) : Option (Next × AS) :=
  match ev x with
  | .int k n => flatOf P (convert src dst (.int k n)) σ
  | _ => convStep P ev o src dst x σ
def sliceOf (P : Program) (ev : Operand → Value) (t : TypeId) (x : Operand) (lo hi mx : Option Operand) (σ : AS) : Option (Next × AS) :=
  match sliceOk P σ t (ev x) (hi.map ev) (mx.map ev) with
  | true =>
    match arun P (Instr.sliceAt t (ev x) (lo.map ev) (hi.map ev) (mx.map ev)) σ with
    | some (v, σ') => (match capStays (ev x) v with | true => some (.value v, σ') | false => none)
    | none => none
  | false => none
def keyOf (b : Bool) (r : Option (Next × AS)) : Option (Next × AS) :=
  match b with
  | true => r
  | false => none
def nilOf (v : Value) (σ : AS) : Option (Next × AS) :=
  match v with
  | .pointer (some a) => some (.value (.pointer (some a)), σ)
  | .func (.func f) a c => some (.value (.func (.func f) a c), σ)
  | .iface t v => some (.value (.iface t v), σ)
  | _ => none

/-- What an operation does. -/
def stepFn (op : Op) : StepFn :=
  Op.rec (motive := fun _ => StepFn)
    (fun x => fun _ ev _ σ => some (.value (ev x), σ))
    (fun x => fun _ ev _ σ => some (.value (ev x), σ))
    (fun _ _ _ => stepOp)
    (fun e => fun P _ _ σ => valOf (arun P (Instr.alloc e true (.tuple #[])) σ))
    (fun e x => fun P ev _ σ => valOf (arun P (Instr.box e (ev x)) σ))
    (fun t ps => fun P ev _ σ => valOf (arun P (Instr.build t (ps.map fun (i, x) => (i, ev x))) σ))
    (fun t n ps => fun P ev _ σ => capOf (arun P (Instr.buildSlice t n (ps.map fun (i, x) => (i, ev x))) σ))
    (fun t m k x => fun P ev _ σ => keyOf (mapKeyOk P σ t (ev m) (ev k)) (unitOf (arun P (Instr.mapUpdate t (ev m) (ev k) (ev x)) σ)))
    (fun t a => fun P ev _ σ => valOf (arun P (Instr.loadAt t (ev a)) σ))
    (fun t a x => fun P ev _ σ => unitOf (arun P (Instr.storeAt t (ev a) (ev x)) σ))
    (fun _ => stepOp)
    (fun _ => stepOp)
    (fun x => fun _ ev _ σ => nilOf (ev x) σ)
    (fun op t x y _ => fun P ev o σ => intOf P ev o op t x y σ)
    (fun _ _ _ => stepOp)
    (fun src dst x => fun P ev o σ => convOf P ev o src dst x σ)
    (fun _ _ => stepOp)
    (fun t x => fun P ev _ σ => valOf (arun P (Instr.makeInterface t (ev x)) σ))
    (fun _ _ _ => stepOp)
    (fun _ _ => stepOp)
    (fun _ _ => stepOp)
    (fun t a b => fun P ev _ σ => capOf (arun P (Instr.makeSlice t (ev a) (ev b)) σ))
    (fun t x lo hi mx => fun P ev _ σ => sliceOf P ev t x lo hi mx σ)
    (fun t x f => fun P ev _ σ => valOf (arun P (Instr.fieldAt t (ev x) f) σ))
    (fun t x f => fun P ev _ σ => valOf (arun P (Instr.field t (ev x) f) σ))
    (fun t x y => fun P ev _ σ => valOf (arun P (Instr.indexAt t (ev x) (ev y)) σ))
    (fun t x y => fun P ev _ σ => valOf (arun P (Instr.index t (ev x) (ev y)) σ))
    (fun t x k ok => fun P ev _ σ => keyOf (mapKeyOk P σ t (ev x) (ev k)) (valOf (arun P (Instr.lookup t (ev x) (ev k) ok) σ)))
    (fun t m k x => fun P ev _ σ => keyOf (mapKeyOk P σ t (ev m) (ev k)) (unitOf (arun P (Instr.mapUpdate t (ev m) (ev k) (ev x)) σ)))
    (fun t m k => fun P ev _ σ => keyOf (mapKeyOk P σ t (ev m) (ev k)) (valOf (arun P (Instr.mapEntry t (ev m) (ev k)) σ)))
    (fun t m s x => fun P ev _ σ => unitOf (arun P (Instr.entryStore t (ev m) (ev s) (ev x)) σ))
    (fun t x => fun P ev _ σ => valOf (arun P (Instr.range t (ev x)) σ))
    (fun it b => fun P ev o σ => valOf (arun P (Instr.next (ev it) b o.type) σ))
    (fun it => fun P ev _ σ => valOf (arun P (Instr.entry (ev it)) σ))
    (fun x t a ok => fun P ev _ σ => valOf (arun P (Instr.typeAssert (ev x) t a ok) σ))
    (fun x i => fun P ev _ σ => valOf (arun P (Instr.extract (ev x) i) σ))
    (fun c => fun P ev o σ => lenStep P ev o c σ)
    (fun _ => stepOp)
    (fun c => fun _ ev _ σ => deferStep ev c σ)
    (fun _ => stepOp)
    (fun _ _ => stepOp)
    (fun _ _ _ => stepOp)
    (fun _ _ => stepOp)
    op

/-DEV @[implemented_by stepOp] -/
def stepK (P : Program) (ev : Operand → Value) (o : Oper) (σ : AS) : Option (Next × AS) := stepFn o.op P ev o σ

theorem keyOf_eq (b : Bool) (r : Option (Next × AS)) : keyOf b r = if b = true then r else none := by cases b <;> rfl

theorem stepK_eq (P : Program) (ev : Operand → Value) (o : Oper) (σ : AS) : stepK P ev o σ = stepOp P ev o σ := by
  unfold stepK
  obtain ⟨dst, op, type, pos, after, guard⟩ := o
  cases op <;> first | rfl | skip
  case slice t x lo hi mx =>
    simp only [stepFn, stepOp, execOp, sliceOf]
    rw [← valOf_arun]
    cases sliceOk P σ t (ev x) (hi.map ev) (mx.map ev) with
    | false => rfl
    | true =>
      simp only [if_true]
      cases arun P (Instr.sliceAt t (ev x) (lo.map ev) (hi.map ev) (mx.map ev)) σ with
      | none => rfl
      | some y =>
        obtain ⟨v, σ1⟩ := y
        simp only [valOf]
        cases capStays (ev x) v <;> rfl
  case binOp op t x y yt =>
    simp only [stepFn, stepOp, intOf]
    cases hb : flat (ev x) && flat (ev y) with
    | false => rfl
    | true =>
      simp only [binStep, hb, if_true, flatOf_still]
      rfl
  case convert src dst x =>
    simp only [stepFn, stepOp, convOf]
    split
    · rename_i k n hx
      simp only [convStep, hx, flatOf_still, flat, if_true]
      simp only [execOp, hx]
    · rfl
  case call c => exact lenStep_eq rfl σ
  all_goals
    simp only [stepFn, stepOp, execOp, valOf_arun, unitOf_arun, capOf_arun, keyOf_eq]
    try rfl

end
end Go.Proofs.YtlnhacbdbhmgkaaGreatDoor
