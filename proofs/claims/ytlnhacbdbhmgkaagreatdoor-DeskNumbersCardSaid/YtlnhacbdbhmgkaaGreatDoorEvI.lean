/- One operation of a calculation, whatever it is. -/
import Derived.Test.YtlnhacbdbhmgkaaGreatDoorEvH
namespace Go.Proofs.YtlnhacbdbhmgkaaGreatDoor

def valOf : Option (Value × AS) → Option (Next × AS)
  | some (v, σ) => some (.value v, σ)
  | none => none

/-- The function has a body of its own. -/
def bodyOk (P : Program) (f : FuncId) : Bool :=
  match P.funcs[f]? with
  | some fn => !(fn.name == "runtime.NumGoroutine") && fn.body.isSome
  | none => false

/-- One and the same Sem, at flat operands, with a flat outcome. -/
def flatStep (P : Program) (s : Sem Next) (σ : AS) : Option (Next × AS) :=
  match still P s with
  | some (.value v) => if flat v then some (.value v, σ) else none
  | _ => none

/-- A comparison with nil. -/
def nilCmp : Value → Value → Bool
  | .pointer _, .pointer none => true
  | .pointer none, .pointer _ => true
  | .slice .., .slice none _ _ => true
  | .slice none _ _, .slice .. => true
  | .map _, .map none => true
  | .map none, .map _ => true
  | .nilFunc, .func .. => true
  | .func .., .nilFunc => true
  | .iface .., .nilIface => true
  | .nilIface, .iface .. => true
  | _, _ => false

def capped : Option (Next × AS) → Option (Next × AS)
  | some (.value v, σ) => if okCap v then some (.value v, σ) else none
  | _ => none

/-- '[]byte(s)'. -/
def absBytes (P : Program) (dst : TypeId) (s : ByteArray) (σ : AS) : Option (Value × AS) :=
  match P.underlying dst with
  | some (.slice e) =>
    match P.underlying e with
    | some (.int .u8) =>
      if esz P e = 1 ∧ s.size < 1048576 ∧ σ.next < 9223372036854775806 then some (.slice (some ⟨σ.next, 0, none⟩) s.size (2 * BIG), σ.push (.cells (s.data.map fun b => .int .u8 b.toNat) e (0, 0))) else none
    | _ => none
  | _ => none

def callStep (P : Program) (ev : Operand → Value) (o : Oper) (c : Call) (σ : AS) : Option (Next × AS) :=
  match c.callee with
  | .builtin .append =>
    match c.args.toList, c.argTypes.toList with
    | [s, x], [st, xt] => valOf (absAppend P st xt (ev s) (ev x) σ)
    | _, _ => none
  | .builtin .len => if c.args.size = 1 then arun P (execOp ev o) σ else none
  | .builtin .copy => if c.args.size = 2 then arun P (execOp ev o) σ else none
  | .builtin .clear =>
    match c.args.toList with
    | [x] => (match ev x with | .slice .. => arun P (execOp ev o) σ | _ => none)
    | _ => none
  | .builtin .delete =>
    match c.args.toList, c.argTypes[0]? with
    | [m, k], some mt => if mapKeyOk P σ mt (ev m) (ev k) then arun P (execOp ev o) σ else none
    | _, _ => none
  | .builtin .min => if c.args.all fun x => flat (ev x) then flatStep P (execOp ev o) σ else none
  | .builtin .max => if c.args.all fun x => flat (ev x) then flatStep P (execOp ev o) σ else none
  | .builtin _ => none
  | .value f =>
    match ev f with
    | .func (.func g) first cap => if bodyOk P g then some (.enter g (first ++ c.args.map ev ++ cap), σ) else none
    | _ => none
  | .invoke r name =>
    match ev r with
    | .iface t v =>
      match arun P (method (P.types.size + Made.depth) t v name) σ with
      | some ((g, recv), σ') => if bodyOk P g then some (.enter g (#[recv] ++ c.args.map ev), σ') else none
      | none => none
    | _ => none

def deferStep (ev : Operand → Value) (c : Call) (σ : AS) : Option (Next × AS) :=
  match c.callee with
  | .value f =>
    match ev f with
    | .func fn first cap => some (.defer { target := .fn fn cap, args := first ++ c.args.map ev }, σ)
    | _ => none
  | _ => none

def isEq : BinOp → Bool
  | .eql | .neq => true
  | _ => false
def binStep (P : Program) (ev : Operand → Value) (o : Oper) (op : BinOp) (x y : Operand) (σ : AS) : Option (Next × AS) :=
  if flat (ev x) && flat (ev y) then flatStep P (execOp ev o) σ
  else if nilCmp (ev x) (ev y) && isEq op then arun P (execOp ev o) σ else none
def isBytes (P : Program) (src dst : TypeId) : Bool :=
  match P.underlying src, P.underlying dst with
  | some (.slice e), some .string =>
    match P.underlying e with
    | some (.int .u8) => true
    | _ => false
  | _, _ => false
def isSlice (P : Program) (t : TypeId) : Bool :=
  match P.underlying t with
  | some (.slice _) => true
  | _ => false
def convStep (P : Program) (ev : Operand → Value) (o : Oper) (src dst : TypeId) (x : Operand) (σ : AS) : Option (Next × AS) :=
  match ev x with
  | .string s => if isSlice P dst && (P.underlying src).isSome then valOf (absBytes P dst s σ) else flatStep P (execOp ev o) σ
  | .slice a n c => if isBytes P src dst then valOf (arun P (Conv.bytesToString (.slice a n c)) σ) else none
  | v => if flat v then flatStep P (execOp ev o) σ else none

def stepOp (P : Program) (ev : Operand → Value) (o : Oper) (σ : AS) : Option (Next × AS) :=
  match o.op with
  | .move x | .assign x => some (.value (ev x), σ)
  | .pick _ _ _ | .alloc _ | .box _ _ | .build _ _ | .load _ _ | .store _ _ _ | .fieldAddr _ _ _ | .field _ _ _ | .indexAddr _ _ _ | .index _ _ _ | .makeInterface _ _ | .makeMap _ _
  | .entryStore _ _ _ _ | .range _ _ | .next _ _ | .entry _ | .extract _ _ | .typeAssert _ _ _ _ => arun P (execOp ev o) σ
  | .buildSlice _ _ _ | .makeSlice _ _ _ => capped (arun P (execOp ev o) σ)
  | .makeFunc (.yield _) _ _ => none
  | .makeFunc _ _ _ => arun P (execOp ev o) σ
  | .nilCheck x =>
    match ev x with
    | .pointer (some a) => some (.value (.pointer (some a)), σ)
    | .func (.func f) a c => some (.value (.func (.func f) a c), σ)
    | .iface t v => some (.value (.iface t v), σ)
    | _ => none
  | .slice t x _ hi mx =>
    if sliceOk P σ t (ev x) (hi.map ev) (mx.map ev) then
      match arun P (execOp ev o) σ with
      | some (.value v, σ') => if capStays (ev x) v then some (.value v, σ') else none
      | _ => none
    else none
  | .lookup t x k _ => if mapKeyOk P σ t (ev x) (ev k) then arun P (execOp ev o) σ else none
  | .mapUpdate t x k _ | .insert t x k _ | .mapEntry t x k => if mapKeyOk P σ t (ev x) (ev k) then arun P (execOp ev o) σ else none
  | .binOp op _ x y _ => binStep P ev o op x y σ
  | .unOp _ _ x => if flat (ev x) then flatStep P (execOp ev o) σ else none
  | .convert src dst x => convStep P ev o src dst x σ
  | .call c => callStep P ev o c σ
  | .defer c => deferStep ev c σ
  | _ => none

section
variable {P : Program} {ρ : Ren}

theorem Comes1.of {α β : Type} {R : Ren → α → β → Prop} {σ : AS} {s : Sem α} {s' : Sem β} (h : Sim P ρ R s s') {w : World} (hw : WRel P ρ σ w) {a : α} {σ' : AS} (hx : arun P s σ = some (a, σ')) : Comes1 P ρ R σ w a σ' (s'.run P w) := h σ w hw a σ' hx
theorem Comes1.at {α β : Type} {R : Ren → α → β → Prop} {σ : AS} {s : Sem α} {s' : Sem β} (h : SimAt P ρ R σ s s') {w : World} (hw : WRel P ρ σ w) {a : α} {σ' : AS} (hx : arun P s σ = some (a, σ')) : Comes1 P ρ R σ w a σ' (s'.run P w) := h w hw a σ' hx
theorem Comes1.now {α β : Type} {R : Ren → α → β → Prop} {σ : AS} {w : World} (hw : WRel P ρ σ w) {a : α} {b : β} {r : Result β} (hr : r = .ok b w) (h : R ρ a b) : Comes1 P ρ R σ w a σ r := ⟨ρ, b, w, hr, hw, .refl _ _, h⟩

theorem Sim.typeAssert (hz : ZerosOk P) {x x' : Value} (hx : VRel ρ x x') (t a : TypeId) (ok : Bool) : Sim P ρ VRel (Instr.typeAssert x t a ok) (Instr.typeAssert x' t a ok) := by
  unfold Instr.typeAssert
  have holds : ∀ (ρ' : Ren) (v v' : Value), VRel ρ' v v' → Sim P ρ' VRel (Pure.pure (if ok = true then .tuple #[v, .bool true] else v)) (Pure.pure (if ok = true then .tuple #[v', .bool true] else v')) := by
    intro ρ' v v' hv
    refine Sim.ret ?_
    split
    · exact .tuple (.cons hv (.cons (.bool _) .nil))
    · exact hv
  have fails : ∀ (ρ' : Ren) (p q : Option TypeId) (m : String), Sim P ρ' VRel (if ok = true then do pure (.tuple #[← Go.zeroValue a, .bool false]) else runtimePanic (.typeAssertion p q a m)) (if ok = true then do pure (.tuple #[← Go.zeroValue a, .bool false]) else runtimePanic (.typeAssertion p q a m)) := by
    intro ρ' p q m
    split
    · refine Sim.bind (Sim.zeroValue hz a) ?_
      rintro ρ2 h2 z _ ⟨rfl, hzz⟩
      exact Sim.ret (.tuple (.cons hzz (.cons (.bool _) .nil)))
    · exact Sim.panics
  refine Sim.bind (Sim.underlying a) ?_
  rintro ρ1 h1 d _ ⟨rfl, -⟩
  have hx1 := hx.mono h1
  have other : ∀ {x x' : Value}, VRel ρ1 x x' → Sim P ρ1 VRel
      (match x with | .nilIface => (if ok = true then do pure (.tuple #[← Go.zeroValue a, .bool false]) else runtimePanic (.typeAssertion (some t) none a "")) | .iface u v => if u = a then Pure.pure (if ok = true then .tuple #[v, .bool true] else v) else (if ok = true then do pure (.tuple #[← Go.zeroValue a, .bool false]) else runtimePanic (.typeAssertion (some t) (some u) a "")) | _ => Go.stuck "TypeAssert: interface value expected")
      (match x' with | .nilIface => (if ok = true then do pure (.tuple #[← Go.zeroValue a, .bool false]) else runtimePanic (.typeAssertion (some t) none a "")) | .iface u v => if u = a then Pure.pure (if ok = true then .tuple #[v, .bool true] else v) else (if ok = true then do pure (.tuple #[← Go.zeroValue a, .bool false]) else runtimePanic (.typeAssertion (some t) (some u) a "")) | _ => Go.stuck "TypeAssert: interface value expected") := by
    intro x x' h
    cases h <;> first | exact Sim.stuck | exact fails _ _ _ _ | skip
    case iface u v v' h =>
      dsimp only
      split
      · exact holds _ _ _ h
      · exact fails _ _ _ _
  cases d <;> first | (cases hx1 <;> first | exact Sim.stuck | exact fails _ _ _ _ | (rename_i h; exact other (.iface _ h))) | skip
  case interface want =>
    cases hx1 <;> first | exact Sim.stuck | exact fails _ _ _ _ | skip
    case iface u v v' h =>
      dsimp only
      refine Sim.bind (Sim.typeInfo u) ?_
      rintro ρ2 h2 i _ ⟨rfl, -⟩
      split
      · exact holds _ _ _ (.iface u (h.mono h2))
      · exact fails _ _ _ _

theorem Sim.equalNil {x x' y y' : Value} (hx : VRel ρ x x') (hy : VRel ρ y y') (hn : nilCmp x y = true) (n : Nat) (t : TypeId) : Sim P ρ (fun _ a b => a = b) (Op.equalIn (n + 1) t x y) (Op.equalIn (n + 1) t x' y') := by
  unfold Op.equalIn
  refine Sim.bind (Sim.underlying t) ?_
  rintro ρ1 h1 d _ ⟨rfl, -⟩
  cases hx <;> cases hy <;> first | (exfalso; revert hn; simp [nilCmp]; done) | skip
  all_goals (cases d <;> first | exact Sim.stuck | exact Sim.unsupported | exact Sim.ret rfl)

theorem eqGuard_nil {x y : Value} (hn : nilCmp x y = true) (op : BinOp) (t : TypeId) (a b : Operand) : eqGuard op t a b x y = Pure.pure () := by
  unfold eqGuard
  cases x <;> cases y <;> first | (exfalso; revert hn; simp [nilCmp]; done) | (split <;> rfl)
theorem Sim.binNil {x x' y y' : Value} (hx : VRel ρ x x') (hy : VRel ρ y y') (hn : nilCmp x y = true) {op : BinOp} (ho : op = .eql ∨ op = .neq) (t : TypeId) : Sim P ρ VRel (binOp op t x y) (binOp op t x' y') := by
  have he : Sim P ρ (fun _ a b => a = b) (Op.equal t x y) (Op.equal t x' y') := Sim.equalNil hx hy hn 9999 t
  have e1 : ∀ {u v : Value}, nilCmp u v = true → binOp .eql t u v = (do Pure.pure (.bool (← Op.equal t u v))) := by
    intro u v h
    cases u <;> cases v <;> first | (exfalso; revert h; simp [nilCmp]; done) | rfl
  have e2 : ∀ {u v : Value}, nilCmp u v = true → binOp .neq t u v = (do Pure.pure (.bool (!(← Op.equal t u v)))) := by
    intro u v h
    cases u <;> cases v <;> first | (exfalso; revert h; simp [nilCmp]; done) | rfl
  have hn' : nilCmp x' y' = true := by
    rw [← hn]
    cases hx <;> cases hy <;> rfl
  rcases ho with rfl | rfl
  · rw [e1 hn, e1 hn']
    refine Sim.bind he ?_
    rintro ρ1 h1 b _ rfl
    exact Sim.ret (.bool _)
  · rw [e2 hn, e2 hn']
    refine Sim.bind he ?_
    rintro ρ1 h1 b _ rfl
    exact Sim.ret (.bool _)

theorem flatStep_sound {s : Sem Next} {σ : AS} {w : World} (hw : WRel P ρ σ w) {n : Next} {σ' : AS} (h : flatStep P s σ = some (n, σ')) : Comes1 P ρ NxR σ w n σ' (s.run P w) := by
  unfold flatStep at h
  split at h
  case h_2 => cases h
  rename_i v hv
  split at h
  case isFalse => cases h
  rename_i hf
  cases h
  exact .now hw (still_run s hv w) (.value (flat_rel ρ v hf))

theorem freeze_push (h : Array Obj) (t : Nat → Question → Nat) (d : Nat) (os : Os) (out : Array (Nat × ByteArray)) (C : Array Value) (e : TypeId) :
    World.freeze { heap := h.push (Obj.cells C e), tape := t, drawn := d, os := os, output := out } ⟨h.size, C.size, none⟩ 1 = { heap := h.push (Obj.cells C e (C.size, C.size + 1)), tape := t, drawn := d, os := os, output := out } := by
  unfold World.freeze
  rw [if_neg (by omega)]
  congr 1
  apply Array.ext
  · simp
  · intro i h1 h2
    simp only [Array.getElem_modify]
    by_cases hi : h.size = i
    · subst hi; simp
    · rw [if_neg hi]
      have : i < h.size := by simp at h2; omega
      simp [Array.getElem_push, this]

theorem absBytes_sound {dst : TypeId} {s : ByteArray} {σ : AS} {w : World} (hw : WRel P ρ σ w) {v : Value} {σ' : AS} (h : absBytes P dst s σ = some (v, σ')) (src : TypeId) {d0 : TypeDesc} (hsrc : P.underlying src = some d0) :
    Comes1 P ρ VRel σ w v σ' ((convert src dst (.string s)).run P w) := by
  unfold absBytes at h
  split at h
  case h_2 => cases h
  rename_i e hd
  split at h
  case h_2 => cases h
  rename_i he
  split at h
  case isFalse => cases h
  rename_i hg
  obtain ⟨hz, hs, hn⟩ := hg
  cases h
  generalize hcap : (Question.appendCap s.size 0 e).cut (w.tape w.drawn (Question.appendCap s.size 0 e)) = cap
  have hge : s.size ≤ cap := by rw [← hcap]; simp [Question.cut]
  let C : Array Value := Array.map (fun b => Value.int IntKind.u8 ↑b.toNat) s.data ++ Array.replicate (cap - s.size) (Value.int IntKind.u8 0)
  have hC : C.size = cap := by
    have : s.data.size = s.size := rfl
    simp only [C, Array.size_append, Array.size_map, Array.size_replicate, this]
    omega
  refine ⟨ρ.more σ.next ⟨w.heap.size, cap, 1⟩, .slice (some ⟨w.heap.size, 0, none⟩) s.size cap, { w with heap := w.heap.push (Obj.cells C e (C.size, C.size + 1)), drawn := w.drawn + 1 }, ?_, ?_, ?_, ?_⟩
  · simp only [convert, Sem.run_bind, run_underlying hsrc, run_underlying hd, run_underlying he, Result.andThen_ok, Conv.stringToBytes, Go.choose, newRow, markStringish, Go.newObj, Go.shape, Go.freeze, Sem.run, Question.forced, Bool.false_eq_true, if_false, hcap, Sem.run_pure]
    have hsh : World.shape? { heap := w.heap.push (Obj.cells C e), tape := w.tape, drawn := w.drawn + 1, os := w.os, output := w.output } w.heap.size = some (e, C.size) := by simp [World.shape?]
    simp only [C] at hsh ⊢
    simp only [hsh, Sem.run, Result.andThen_ok, freeze_push]
  · refine WRel.push (o' := Obj.cells C e (C.size, C.size + 1)) hw.drew rfl (.cells hC (fun k u hu => ?_) (fun o h1 h2 => ?_) hz) hn rfl
    · refine ⟨u, ?_, ?_⟩
      · have hlt : k < (Array.map (fun b => Value.int IntKind.u8 ↑b.toNat) s.data).size := by
          rcases Nat.lt_or_ge k (Array.map (fun b => Value.int IntKind.u8 ↑b.toNat) s.data).size with h | h
          · exact h
          · rw [Array.getElem?_eq_none h] at hu; cases hu
        rw [Array.getElem?_append_left hlt]
        exact hu
      · rw [Array.getElem?_map] at hu
        obtain ⟨b, -, rfl⟩ := Option.map_eq_some_iff.1 hu
        exact .int _ _
    · have : o < cap := h1
      have := h2.1
      omega
  · exact Fr.push (o' := Obj.cells C e (C.size, C.size + 1)) hw rfl rfl rfl rfl rfl
  · exact .sliceF (l := ⟨w.heap.size, cap, 1⟩) (by simp [Ren.more]) (by simp [BIG]) hge (by simp) (.inl rfl)

/-- The pairs of a composite. -/
theorem parts_rel {ev ev' : Operand → Value} : ∀ {l : List (Nat × Operand)}, (∀ p ∈ l, VRel ρ (ev p.2) (ev' p.2)) → PsR ρ (l.map fun p => (p.1, ev p.2)) (l.map fun p => (p.1, ev' p.2))
  | [], _ => trivial
  | p :: l, h => ⟨rfl, h p (by simp), parts_rel fun q hq => h q (by simp [hq])⟩
theorem args_rel {ev ev' : Operand → Value} {l : Array Operand} (h : ∀ x ∈ l, VRel ρ (ev x) (ev' x)) : AsRel ρ (l.map ev) (l.map ev') := by
  rcases l with ⟨l⟩
  unfold AsRel
  simp only [List.map_toArray]
  have : ∀ x ∈ l, VRel ρ (ev x) (ev' x) := fun x hx => h x (by simpa using hx)
  clear h
  induction l with
  | nil => exact .nil
  | cons x l ih => exact .cons (this x (by simp)) (ih fun y hy => this y (by simp [hy]))
theorem opt_rel {ev ev' : Operand → Value} (o : Option Operand) (h : ∀ x, o = some x → VRel ρ (ev x) (ev' x)) : OptR ρ (o.map ev) (o.map ev') := by
  cases o with
  | none => exact .inl ⟨rfl, rfl⟩
  | some x => exact .inr ⟨_, _, rfl, rfl, h x rfl⟩

theorem bodyOk_spec {f : FuncId} (h : bodyOk P f = true) : ((P.funcs[f]?).map fun fn => !(fn.name == "runtime.NumGoroutine") && fn.body.isSome) = some true := by
  unfold bodyOk at h
  split at h
  · rename_i fn hfn; rw [hfn]; simp only [Option.map_some, h]
  · cases h
theorem callFunc_run {f : FuncId} (h : bodyOk P f = true) (a : Array Value) (w : World) : (callFunc f a).run P w = .ok (.enter f a) w := by
  unfold bodyOk at h
  split at h
  case h_2 => cases h
  rename_i fn hfn
  simp only [Bool.and_eq_true, Bool.not_eq_true'] at h
  have hnone : fn.body.isNone = false := by cases hx : fn.body <;> simp_all
  unfold callFunc Go.program
  simp only [Sem.run_bind, Sem.run, Result.andThen_ok, hfn, h.1, hnone, Bool.false_eq_true, if_false]
  rfl

theorem zeroCells_rel {z : Array Value} (hz : AsRel ρ z z) (n : Nat) : AsRel ρ (Builtin.zeroCells z n) (Builtin.zeroCells z n) := by
  unfold Builtin.zeroCells
  exact zeros_rel hz _
theorem Sim.clear (hz : ZerosOk P) (ts : Array TypeId) (t : TypeId) {r : Option Addr} {n c : Nat} {x' : Value} (hx : VRel ρ (.slice r n c) x') : Sim P ρ VRel (Builtin.clear_ ts t #[.slice r n c]) (Builtin.clear_ ts t #[x']) := by
  unfold Builtin.clear_
  have g0 : ∀ (a : Value), (#[a] : Array Value)[0]? = some a := fun _ => rfl
  rw [g0, g0]
  cases ts[0]? with
  | none => exact Sim.stuck
  | some t =>
  dsimp only
  have fin : ∀ ρ' : Ren, Sim P ρ' VRel (Pure.pure (Value.tuple #[])) (Pure.pure (Value.tuple #[])) := fun ρ' => Sim.ret (.tuple .nil)
  refine Sim.bind (Sim.underlying t) ?_
  rintro ρ1 h1 d _ ⟨rfl, -⟩
  have hx1 := hx.mono h1
  have main : ∀ (e : TypeId) (a a' : Addr), AR ρ1 a a' → Sim P ρ1 VRel
      (do Go.storeCells a (Builtin.zeroCells (← Go.zeroValue e).cells n).toList; Pure.pure (Value.tuple #[])) (do Go.storeCells a' (Builtin.zeroCells (← Go.zeroValue e).cells n).toList; Pure.pure (Value.tuple #[])) := by
    intro e a a' ha
    refine Sim.bind (Sim.zeroValue hz e) ?_
    rintro ρ2 h2 z _ ⟨rfl, hzz⟩
    refine Sim.bind (Sim.storeCells 0 (ha.mono h2) (zeroCells_rel hzz.cells n)) ?_
    rintro ρ3 h3 _ _ -
    exact fin _
  cases hx1 with
  | sliceNil n c hc => cases d <;> exact fin _
  | sliceX n c h hc =>
    cases n with
    | zero => cases d <;> exact fin _
    | succ n => cases d <;> first | exact (Dead.bind fun _ => rfl).sim | exact main _ _ _ (AR.of h)
  | sliceF h hb hn hl ho =>
    cases n with
    | zero => cases d <;> exact fin _
    | succ n =>
      obtain rfl := ho.resolve_right (by omega)
      cases d <;> first | exact (Dead.bind fun _ => rfl).sim | exact main _ _ _ (AR.of h)

theorem callStep_sound (hz : ZerosOk P) {ev ev' : Operand → Value} (o : Oper) (c : Call) (ho : o.op = .call c) (hev : ∀ x ∈ c.operands, VRel ρ (ev x) (ev' x)) {σ : AS} {w : World} (hw : WRel P ρ σ w) {n : Next} {σ' : AS} (h : callStep P ev o c σ = some (n, σ')) :
    Comes1 P ρ NxR σ w n σ' ((execOp ev' o).run P w) := by
  have hargs : ∀ x ∈ c.args, VRel ρ (ev x) (ev' x) := fun x hx => hev x (by simp [Call.operands, hx])
  have hex : ∀ e : Operand → Value, execOp e o = (do let d ← resolve e c o.type; invoke d.target d.args) := fun e => by simp only [execOp, ho]
  unfold callStep at h
  split at h
  · -- append
    rename_i hc
    split at h
    case h_2 => cases h
    rename_i s x st xt ha ht
    replace ha : c.args = #[s, x] := Array.toList_inj.1 (by simpa using ha)
    replace ht : c.argTypes = #[st, xt] := Array.toList_inj.1 (by simpa using ht)
    rw [ha] at hargs
    have h1 := hargs s (by simp)
    have h2 := hargs x (by simp)
    cases h3 : absAppend P st xt (ev s) (ev x) σ with
    | none => rw [h3] at h; cases h
    | some y =>
      obtain ⟨v, σ1⟩ := y
      rw [h3] at h
      cases h
      obtain ⟨ρ', b, w', hr, hw', hf, hv⟩ := absAppend_sound hw h1 h2 h3 o.type
      refine ⟨ρ', .value b, w', ?_, hw', hf, .value hv⟩
      rw [hex]
      simp only [resolve, hc, ha, ht, invoke, builtin, Sem.run_bind, Sem.run_pure, Result.andThen_ok, List.map_toArray, List.map_cons, List.map_nil, hr]
  · -- len
    rename_i hc
    split at h
    case isFalse => cases h
    rename_i hs
    obtain ⟨x, hx⟩ : ∃ x, c.args = #[x] := by
      rcases hca : c.args with ⟨l⟩
      rw [hca] at hs
      match l, hs with
      | [x], _ => exact ⟨x, rfl⟩
    have h1 := hargs x (by simp [hx])
    rw [hex] at h ⊢
    refine Comes1.of ?_ hw h
    simp only [resolve, hc, hx, invoke, builtin, List.map_toArray, List.map_cons, List.map_nil]
    exact Sim.value (Sim.len _ _ h1)
  · -- copy
    rename_i hc
    split at h
    case isFalse => cases h
    rename_i hs
    obtain ⟨x, y, hx⟩ : ∃ x y, c.args = #[x, y] := by
      rcases hca : c.args with ⟨l⟩
      rw [hca] at hs
      match l, hs with
      | [x, y], _ => exact ⟨x, y, rfl⟩
    have h1 := hargs x (by simp [hx])
    have h2 := hargs y (by simp [hx])
    rw [hex] at h ⊢
    refine Comes1.of ?_ hw h
    simp only [resolve, hc, hx, invoke, builtin, List.map_toArray, List.map_cons, List.map_nil]
    exact Sim.value (Sim.copy _ _ h1 h2)
  · -- clear
    rename_i hc
    split at h
    case h_2 => cases h
    rename_i x ha
    replace ha : c.args = #[x] := Array.toList_inj.1 (by simpa using ha)
    split at h
    case h_2 => cases h
    rename_i r k q hx
    have h1 := hargs x (by simp [ha])
    rw [hx] at h1
    rw [hex] at h ⊢
    refine Comes1.of ?_ hw h
    simp only [resolve, hc, ha, hx, invoke, builtin, List.map_toArray, List.map_cons, List.map_nil]
    exact Sim.value (Sim.clear hz _ _ h1)
  · -- delete
    rename_i hc
    split at h
    case h_2 => cases h
    rename_i m k mt ha ht
    replace ha : c.args = #[m, k] := Array.toList_inj.1 (by simpa using ha)
    split at h
    case isFalse => cases h
    rename_i hok
    have h1 := hargs m (by simp [ha])
    have h2 := hargs k (by simp [ha])
    rw [hex] at h ⊢
    refine Comes1.at ?_ hw h
    simp only [resolve, hc, ha, invoke, builtin, List.map_toArray, List.map_cons, List.map_nil]
    exact SimAt.value (Sim.delete _ _ h1 h2 ht hok)
  · -- min
    split at h
    case isFalse => cases h
    rename_i hfl
    have hsame : ∀ x ∈ o.op.operands, ev x = ev' x := fun x hx => by
      simp only [ho, Op.operands, Call.operands, ‹c.callee = _›] at hx
      have hx : x ∈ c.args := by simpa using hx
      refine (rel_flat (hargs x hx) ?_).symm
      exact (Array.all_eq_true'.1 hfl) x hx
    rw [execOp_congr o (by simp [ho]) hsame] at h
    exact flatStep_sound hw h
  · split at h
    case isFalse => cases h
    rename_i hfl
    have hsame : ∀ x ∈ o.op.operands, ev x = ev' x := fun x hx => by
      simp only [ho, Op.operands, Call.operands, ‹c.callee = _›] at hx
      have hx : x ∈ c.args := by simpa using hx
      refine (rel_flat (hargs x hx) ?_).symm
      exact (Array.all_eq_true'.1 hfl) x hx
    rw [execOp_congr o (by simp [ho]) hsame] at h
    exact flatStep_sound hw h
  · cases h
  · -- a function's value
    rename_i f hc
    split at h
    case h_2 => cases h
    rename_i g first cap hf
    split at h
    case isFalse => cases h
    rename_i hb
    cases h
    have h1 := hev f (by simp [Call.operands, hc])
    rw [hf] at h1
    generalize hv : ev' f = v' at h1
    cases h1 with
    | func hfn hfi hca =>
    rename_i fn' first' cap'
    cases hfn
    refine .now hw ?_ (.enter g ((AsRel.append (AsRel.append hfi (args_rel hargs)) hca)))
    rw [hex]
    simp only [resolve, hc, hv, Deferred.ofValue, invoke, Sem.run_bind, Sem.run_pure, Result.andThen_ok]
    exact callFunc_run hb _ w
  · -- a method
    rename_i r name hc
    split at h
    case h_2 => cases h
    rename_i t v hr
    split at h
    case h_2 => cases h
    rename_i g recv σ1 hm
    split at h
    case isFalse => cases h
    rename_i hb
    cases h
    have h1 := hev r (by simp [Call.operands, hc])
    rw [hr] at h1
    generalize hv : ev' r = v' at h1
    cases h1 with
    | iface _ h1 =>
    obtain ⟨ρ', ⟨g', recv'⟩, w', hr', hw', hf, hg, hrecv⟩ := Sim.method _ t name h1 σ w hw _ _ hm
    dsimp only at hg hrecv
    subst hg
    refine ⟨ρ', .enter g _, w', ?_, hw', hf, .enter g (AsRel.append (a := #[recv]) (VsRel.cons hrecv .nil) ((args_rel hargs).mono hf.le))⟩
    rename_i v2
    rw [hex]
    have e0 : (#[Value.iface t v2] ++ c.args.map ev')[0]? = some (Value.iface t v2) := by
      rw [Array.getElem?_append_left (by show 0 < 1; omega)]; rfl
    have e1 : (#[Value.iface t v2] ++ c.args.map ev').extract 1 (#[Value.iface t v2] ++ c.args.map ev').size = c.args.map ev' := by
      apply Array.ext'
      simp
      exact List.take_of_length_le (Nat.le_of_eq (by rw [List.length_map, Array.length_toList]))
    simp only [resolve, hc, hv, invoke, Sem.run_bind, Sem.run_pure, Result.andThen_ok, e0, e1, callMethod, Go.program, Sem.run, hr', callFunc_run hb]

theorem deferStep_sound {ev ev' : Operand → Value} (o : Oper) (c : Call) (ho : o.op = .defer c) (hev : ∀ x ∈ c.operands, VRel ρ (ev x) (ev' x)) {σ : AS} {w : World} (hw : WRel P ρ σ w) {n : Next} {σ' : AS} (h : deferStep ev c σ = some (n, σ')) :
    Comes1 P ρ NxR σ w n σ' ((execOp ev' o).run P w) := by
  have hargs : ∀ x ∈ c.args, VRel ρ (ev x) (ev' x) := fun x hx => hev x (by simp [Call.operands, hx])
  unfold deferStep at h
  split at h
  case h_2 => cases h
  rename_i f hc
  split at h
  case h_2 => cases h
  rename_i fn first cap hf
  cases h
  have h1 := hev f (by simp [Call.operands, hc])
  rw [hf] at h1
  generalize hv : ev' f = v' at h1
  cases h1 with
  | func hfn hfi hca =>
  rename_i fn' first' cap'
  refine .now (b := .defer { target := .fn fn' cap', args := first' ++ c.args.map ev' }) hw ?_ (.defer ⟨⟨.inl ⟨_, _, _, _, rfl, rfl, hfn, hca⟩⟩, AsRel.append hfi (args_rel hargs)⟩)
  simp only [execOp, ho, resolve, hc, hv, Deferred.ofValue, Sem.run_bind, Sem.run_pure, Result.andThen_ok]

theorem Comes1.ofVal {n : Next} {σ σ' : AS} {w : World} {r : Option (Value × AS)} {s' : Sem Value} (h : valOf r = some (n, σ')) (k : ∀ v σ', r = some (v, σ') → Comes1 P ρ VRel σ w v σ' (s'.run P w)) :
    Comes1 P ρ NxR σ w n σ' ((do Pure.pure (Next.value (← s')) : Sem Next).run P w) := by
  unfold valOf at h
  cases r with
  | none => cases h
  | some y =>
    obtain ⟨v, σ1⟩ := y
    cases h
    obtain ⟨ρ', b, w', hr, hw', hf, hv⟩ := k v σ' rfl
    exact ⟨ρ', .value b, w', by rw [Sem.run_bind, hr]; rfl, hw', hf, .value hv⟩

theorem binStep_sound {ev ev' : Operand → Value} (o : Oper) (op : BinOp) (t : TypeId) (x y : Operand) (yt : TypeId) (ho : o.op = .binOp op t x y yt) (h1 : VRel ρ (ev x) (ev' x)) (h2 : VRel ρ (ev y) (ev' y)) {σ : AS} {w : World} (hw : WRel P ρ σ w) {n : Next} {σ' : AS} (h : binStep P ev o op x y σ = some (n, σ')) :
    Comes1 P ρ NxR σ w n σ' ((execOp ev' o).run P w) := by
  unfold binStep at h
  split at h
  · rename_i hf
    simp only [Bool.and_eq_true] at hf
    rw [execOp_congr (ρ' := ev') o (by simp [ho]) (by
      intro z hz
      simp only [ho, Op.operands] at hz
      rcases (show z = x ∨ z = y by simpa using hz) with rfl | rfl
      · exact (rel_flat h1 hf.1).symm
      · exact (rel_flat h2 hf.2).symm)] at h
    exact flatStep_sound hw h
  · split at h
    case isFalse => cases h
    rename_i hn
    simp only [Bool.and_eq_true] at hn
    have hop : op = .eql ∨ op = .neq := by
      cases op <;> first | exact .inl rfl | exact .inr rfl | (simp [isEq] at hn)
    have hn' : nilCmp (ev' x) (ev' y) = true := by
      rw [← hn.1]
      generalize ev x = a at h1
      generalize ev' x = a' at h1
      generalize ev y = b at h2
      generalize ev' y = b' at h2
      cases h1 <;> cases h2 <;> rfl
    refine Comes1.of ?_ hw h
    simp only [execOp, ho, eqGuard_nil hn.1, eqGuard_nil hn']
    exact Sim.value (Sim.skip (Sim.binNil h1 h2 hn.1 hop t))

theorem convStep_sound {ev ev' : Operand → Value} (o : Oper) (src dst : TypeId) (x : Operand) (ho : o.op = .convert src dst x) (h1 : VRel ρ (ev x) (ev' x)) {σ : AS} {w : World} (hw : WRel P ρ σ w) {n : Next} {σ' : AS} (h : convStep P ev o src dst x σ = some (n, σ')) :
    Comes1 P ρ NxR σ w n σ' ((execOp ev' o).run P w) := by
  have same : ev' x = ev x → execOp ev o = execOp ev' o := fun e => execOp_congr o (by simp [ho]) (by
    intro z hz
    simp only [ho, Op.operands] at hz
    obtain rfl : z = x := by simpa using hz
    exact e.symm)
  have hex : execOp ev' o = (do Pure.pure (Next.value (← convert src dst (ev' x))) : Sem Next) := by simp only [execOp, ho]
  unfold convStep at h
  split at h
  · rename_i s hs
    have e : ev' x = ev x := by rw [hs] at h1 ⊢; exact rel_flat h1 rfl
    split at h
    · rename_i hd
      simp only [Bool.and_eq_true] at hd
      obtain ⟨d0, hd0⟩ := Option.isSome_iff_exists.1 hd.2
      rw [hex, e, hs]
      exact Comes1.ofVal h fun v σ' hv => absBytes_sound hw hv src hd0
    · rw [same e] at h
      exact flatStep_sound hw h
  · rename_i a k c hs
    split at h
    case isFalse => cases h
    rename_i hb
    rw [hs] at h1
    rw [hex]
    generalize ev' x = v' at h1
    refine Comes1.ofVal h fun v σ' hv => ?_
    have hrun : (convert src dst v').run P w = (Conv.bytesToString v').run P w := by
      unfold isBytes at hb
      split at hb
      case h_2 => cases hb
      rename_i e hs1 hd1
      split at hb
      case h_2 => cases hb
      rename_i he
      cases h1 <;> simp only [convert, Sem.run_bind, run_underlying hs1, run_underlying hd1, run_underlying he, Result.andThen_ok]
    rw [hrun]
    exact Comes1.of (Sim.bytesToString h1) hw hv
  · split at h
    case isFalse => cases h
    rename_i hf
    rw [same (rel_flat h1 hf)] at h
    exact flatStep_sound hw h

theorem Sim.sliceAt (t : TypeId) {v v' : Value} {lo lo' hi hi' mx mx' : Option Value} (hv : VRel ρ v v') (hl : OptR ρ lo lo') (hh : OptR ρ hi hi') (hm : OptR ρ mx mx') {σ : AS} {w : World} (hw : WRel P ρ σ w) (hok : sliceOk P σ t v hi mx = true) :
    Sim P ρ (fun ρ' a b => capStays v a = true → VRel ρ' a b) (Instr.sliceAt t v lo hi mx) (Instr.sliceAt t v' lo' hi' mx') := by
  unfold Instr.sliceAt
  cases hd : P.underlying t with
  | none =>
    refine Dead.sim (Dead.bind fun σ => ?_)
    unfold Go.underlying Go.program
    simp only [Bind.bind, Sem.bind, arun, hd]
    rfl
  | some d =>
    refine Sim.bind (R := fun ρ' a b => a = d ∧ b = d ∧ ρ' = ρ) ?_ ?_
    · intro σ w hw a σ' h
      rw [still_arun _ (still_underlying hd)] at h
      cases h
      exact ⟨ρ, _, w, still_run _ (still_underlying hd) w, hw, .refl _ _, rfl, rfl, rfl⟩
    · rintro ρ1 h1 d1 d2 ⟨hd1, hd2, rfl⟩
      rw [hd1, hd2]
      clear hd1 hd2 d1 d2
      cases d <;> first | exact Sim.slice t hv hl hh hm hw hok | skip
      rename_i n e
      dsimp only
      cases hv <;> first | exact (Dead.bind fun _ => rfl).sim | skip
      case ptr r o s l hp =>
      refine Sim.bind (R := fun ρ' a b => AR ρ' a b ∧ ρ1.le ρ') ?_ ?_
      · exact Sim.ret ⟨⟨l, hp, rfl⟩, .refl _⟩
      rintro ρ2 h2 a b ⟨hab, -⟩
      refine Sim.bind (Sim.sliceBounds (hl.mono h2) (hh.mono h2) (hm.mono h2) _ _ _) ?_
      rintro ρ4 h4 ⟨lw, h, m⟩ _ rfl
      refine Sim.bind (Sim.sizeOf e) ?_
      rintro ρ5 h5 k _ ⟨rfl, -⟩
      refine Sim.ret fun hcap => ?_
      have har := (hab.mono h4).mono h5
      dsimp only at hcap ⊢
      have hm' : m - lw < BIG := by simpa [capStays] using hcap
      split
      · exact har.sliceX _ _ (by simpa [okCap] using hm')
      · exact (har.add _).sliceX _ _ (by simpa [okCap] using hm')

theorem Comes1.capped {n : Next} {σ σ' : AS} {w : World} {s s' : Sem Next} (hw : WRel P ρ σ w) (h : capped (arun P s σ) = some (n, σ')) (k : Sim P ρ (fun ρ' a b => ∃ v v', a = .value v ∧ b = .value v' ∧ CapR ρ' v v') s s') : Comes1 P ρ NxR σ w n σ' (s'.run P w) := by
  unfold Go.Proofs.YtlnhacbdbhmgkaaGreatDoor.capped at h
  split at h
  case h_2 => cases h
  rename_i v σ1 hr
  split at h
  case isFalse => cases h
  rename_i hc
  cases h
  obtain ⟨ρ', b, w', h1, h2, h3, u, u', h4, rfl, h5⟩ := k σ w hw _ _ hr
  cases h4
  exact ⟨ρ', _, w', h1, h2, h3, .value (h5 hc)⟩

theorem stepOp_sound (hz : ZerosOk P) {ev ev' : Operand → Value} (o : Oper) (hev : ∀ x ∈ o.op.operands, VRel ρ (ev x) (ev' x)) {σ : AS} {w : World} (hw : WRel P ρ σ w) {n : Next} {σ' : AS} (h : stepOp P ev o σ = some (n, σ')) :
    Comes1 P ρ NxR σ w n σ' ((execOp ev' o).run P w) := by
  have hflat : ∀ {x}, x ∈ o.op.operands → flat (ev x) = true → ev' x = ev x := fun hx hf => rel_flat (hev _ hx) hf
  obtain ⟨dst, op, type, pos, after, guard⟩ := o
  cases op <;> simp only [stepOp] at h <;> first | (cases h; done) | skip
  case move x =>
    cases h
    exact .now hw rfl (.value (hev x (by simp [Op.operands])))
  case assign x =>
    cases h
    exact .now hw rfl (.value (hev x (by simp [Op.operands])))
  case pick c a b =>
    have h1 := hev c (by simp [Op.operands])
    have h2 := hev a (by simp [Op.operands])
    have h3 := hev b (by simp [Op.operands])
    refine Comes1.of ?_ hw h
    simp only [execOp]
    refine Sim.bind (Sim.asBool h1) ?_
    rintro ρ1 hle t _ rfl
    refine Sim.ret (.value ?_)
    split
    · exact h2.mono hle
    · exact h3.mono hle
  case alloc e =>
    refine Comes1.of ?_ hw h
    simp only [execOp]
    exact Sim.value (Sim.alloc hz e)
  case box e x =>
    refine Comes1.of ?_ hw h
    simp only [execOp]
    exact Sim.value (Sim.box e (hev x (by simp [Op.operands])))
  case build t ps =>
    refine Comes1.of ?_ hw h
    simp only [execOp]
    refine Sim.value (Sim.build hz t ?_)
    simp only [Array.toList_map]
    refine parts_rel fun p hp => hev _ ?_
    simp only [Op.operands, List.mem_toArray, List.mem_map]
    exact ⟨p, hp, rfl⟩
  case load t x =>
    refine Comes1.of ?_ hw h
    simp only [execOp]
    exact Sim.value (Sim.loadAt t (hev x (by simp [Op.operands])))
  case store t x y =>
    refine Comes1.of ?_ hw h
    simp only [execOp]
    exact Sim.unit (Sim.storeAt t (hev x (by simp [Op.operands])) (hev y (by simp [Op.operands])))
  case fieldAddr t x f =>
    refine Comes1.of ?_ hw h
    simp only [execOp]
    exact Sim.value (Sim.fieldAt t (hev x (by simp [Op.operands])) f)
  case field t x f =>
    refine Comes1.of ?_ hw h
    simp only [execOp]
    exact Sim.value (Sim.field t (hev x (by simp [Op.operands])) f)
  case indexAddr t x y =>
    refine Comes1.of ?_ hw h
    simp only [execOp]
    exact Sim.value (Sim.indexAt t (hev x (by simp [Op.operands])) (hev y (by simp [Op.operands])))
  case index t x y =>
    refine Comes1.of ?_ hw h
    simp only [execOp]
    exact Sim.value (Sim.index t (hev x (by simp [Op.operands])) (hev y (by simp [Op.operands])))
  case makeInterface t x =>
    refine Comes1.of ?_ hw h
    simp only [execOp]
    exact Sim.value (Sim.makeInterface t (hev x (by simp [Op.operands])))
  case makeMap t r =>
    refine Comes1.of ?_ hw h
    simp only [execOp]
    refine Sim.value (Sim.makeMap t _ _ (fun x hx => ?_) (fun hx => ?_))
    · obtain ⟨y, rfl, rfl⟩ := Option.map_eq_some_iff.1 hx
      exact ⟨_, rfl, hev y (by simp [Op.operands])⟩
    · cases r <;> first | rfl | cases hx
  case entryStore t x k y =>
    refine Comes1.of ?_ hw h
    simp only [execOp]
    exact Sim.unit (Sim.entryStore t (hev x (by simp [Op.operands])) (hev k (by simp [Op.operands])) (hev y (by simp [Op.operands])))
  case range t x =>
    refine Comes1.of ?_ hw h
    simp only [execOp]
    exact Sim.value (Sim.range t (hev x (by simp [Op.operands])))
  case next x b =>
    refine Comes1.of ?_ hw h
    simp only [execOp]
    exact Sim.value (Sim.next (hev x (by simp [Op.operands])) b _)
  case entry x =>
    refine Comes1.of ?_ hw h
    simp only [execOp]
    exact Sim.value (Sim.entry (hev x (by simp [Op.operands])))
  case extract x i =>
    refine Comes1.of ?_ hw h
    simp only [execOp]
    exact Sim.value (Sim.extract (hev x (by simp [Op.operands])) i)
  case typeAssert x t a ok =>
    refine Comes1.of ?_ hw h
    simp only [execOp]
    exact Sim.value (Sim.typeAssert hz (hev x (by simp [Op.operands])) t a ok)
  case buildSlice t k ps =>
    refine Comes1.capped hw h ?_
    simp only [execOp]
    refine Sim.bind (Sim.buildSlice hz t k ?_) ?_
    · simp only [Array.toList_map]
      refine parts_rel fun p hp => hev _ ?_
      simp only [Op.operands, List.mem_toArray, List.mem_map]
      exact ⟨p, hp, rfl⟩
    · intro ρ1 h1 a b hab
      exact Sim.ret ⟨_, _, rfl, rfl, hab⟩
  case makeSlice t a b =>
    refine Comes1.capped hw h ?_
    simp only [execOp]
    refine Sim.bind (Sim.makeSlice hz t (hev a (by simp [Op.operands])) (hev b (by simp [Op.operands]))) ?_
    intro ρ1 h1 a b hab
    exact Sim.ret ⟨_, _, rfl, rfl, hab⟩
  case makeFunc fn a b =>
    have ha : AsRel ρ (a.map ev) (a.map ev') := args_rel fun x hx => hev x (by simp [Op.operands, hx])
    have hb : AsRel ρ (b.map ev) (b.map ev') := args_rel fun x hx => hev x (by simp [Op.operands, hx])
    cases fn <;> first | (cases h; done) | skip
    all_goals
      refine Comes1.of ?_ hw h
      simp only [execOp]
      exact Sim.value (Sim.makeFunc (by constructor) ha hb)
  case nilCheck x =>
    have h1 := hev x (by simp [Op.operands])
    split at h
    · rename_i a hx
      cases h
      rw [hx] at h1
      obtain ⟨a', ha', har⟩ := h1.toPtr
      refine .now hw ?_ (.value har.ptr)
      simp only [execOp, ha', Sem.run_pure]
    · rename_i f a c hx
      cases h
      rw [hx] at h1
      generalize hv : ev' x = v' at h1
      cases h1 with
      | func hf ha hc =>
      cases hf
      refine .now hw ?_ (.value (.func (.func f) ha hc))
      simp only [execOp, hv, Sem.run_pure]
    · rename_i t v hx
      cases h
      rw [hx] at h1
      generalize hv : ev' x = v' at h1
      cases h1 with
      | iface _ h1 =>
      refine .now hw ?_ (.value (.iface t h1))
      simp only [execOp, hv, Sem.run_pure]
    · cases h
  case slice t x lo hi mx =>
    split at h
    case isFalse => cases h
    rename_i hok
    split at h
    case h_2 => cases h
    rename_i v σ1 hr
    split at h
    case isFalse => cases h
    rename_i hcap
    cases h
    have h1 := hev x (by simp [Op.operands])
    have hsl := Sim.sliceAt t h1 (opt_rel lo fun y hy => hev y (by subst hy; simp [Op.operands])) (opt_rel hi fun y hy => hev y (by subst hy; simp [Op.operands])) (opt_rel mx fun y hy => hev y (by subst hy; simp [Op.operands])) hw hok
    simp only [execOp] at hr ⊢
    have hsim : Sim P ρ (fun ρ' (a b : Next) => ∃ v v', a = Next.value v ∧ b = Next.value v' ∧ (capStays (ev x) v = true → VRel ρ' v v')) _ _ := Sim.bind hsl fun ρ1 _ a b hab => Sim.ret (a := Next.value a) (b := Next.value b) ⟨_, _, rfl, rfl, hab⟩
    obtain ⟨ρ', b, w', h3, h4, h5, u, u', h6, rfl, h7⟩ := hsim σ w hw _ _ hr
    cases h6
    exact ⟨ρ', _, w', h3, h4, h5, .value (h7 hcap)⟩
  case lookup t x k ok =>
    split at h
    case isFalse => cases h
    rename_i hok
    refine Comes1.at ?_ hw h
    simp only [execOp]
    exact SimAt.value (Sim.lookup hz t (hev x (by simp [Op.operands])) (hev k (by simp [Op.operands])) ok hok)
  case mapUpdate t x k y =>
    split at h
    case isFalse => cases h
    rename_i hok
    refine Comes1.at ?_ hw h
    simp only [execOp]
    exact SimAt.unit (Sim.mapUpdate t (hev x (by simp [Op.operands])) (hev k (by simp [Op.operands])) (hev y (by simp [Op.operands])) hok)
  case insert t x k y =>
    split at h
    case isFalse => cases h
    rename_i hok
    refine Comes1.at ?_ hw h
    simp only [execOp]
    exact SimAt.unit (Sim.mapUpdate t (hev x (by simp [Op.operands])) (hev k (by simp [Op.operands])) (hev y (by simp [Op.operands])) hok)
  case mapEntry t x k =>
    split at h
    case isFalse => cases h
    rename_i hok
    refine Comes1.at ?_ hw h
    simp only [execOp]
    exact SimAt.value (Sim.mapEntry hz t (hev x (by simp [Op.operands])) (hev k (by simp [Op.operands])) hok)
  case binOp op t x y yt => exact binStep_sound _ op t x y yt rfl (hev x (by simp [Op.operands])) (hev y (by simp [Op.operands])) hw h
  case unOp op t x =>
    have h1 := hev x (by simp [Op.operands])
    split at h
    case isFalse => cases h
    rename_i hf
    rw [execOp_congr (ρ' := ev') _ (by simp) (by
      intro z hz
      simp only [Op.operands] at hz
      obtain rfl : z = x := by simpa using hz
      exact (rel_flat h1 hf).symm)] at h
    exact flatStep_sound hw h
  case convert src dst x => exact convStep_sound _ src dst x rfl (hev x (by simp [Op.operands])) hw h
  case call c => exact callStep_sound hz _ c rfl (fun x hx => hev x hx) hw h
  case defer c => exact deferStep_sound _ c rfl (fun x hx => hev x hx) hw h

end
end Go.Proofs.YtlnhacbdbhmgkaaGreatDoor
