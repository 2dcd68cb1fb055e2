/- A frame of a calculation, one operation in it, and regions that keep the order of the text. -/
import Derived.Test.YtlnhacbdbhmgkaaGreatDoorEvX
import Derived.Tactics
namespace Go.Proofs.YtlnhacbdbhmgkaaGreatDoor
noncomputable section

mutual
/-- Two values that are one and the same. -/
def same : Value → Value → Bool
  | .bool a, .bool b => a == b
  | .int k a, .int l b => k == l && a == b
  | .string a, .string b => a.data == b.data
  | .pointer a, .pointer b => a == b
  | .slice a n c, .slice b m d => a == b && n == m && c == d
  | .map a, .map b => a == b
  | .chan a, .chan b => a == b
  | .func f a c, .func g b d => f == g && sameA a b && sameA c d
  | .nilFunc, .nilFunc => true
  | .nilIface, .nilIface => true
  | .iface t v, .iface u w => t == u && same v w
  | .agg a, .agg b => sameA a b
  | .tuple a, .tuple b => sameA a b
  | _, _ => false
def sameA : Array Value → Array Value → Bool
  | ⟨a⟩, ⟨b⟩ => sameL a b
def sameL : List Value → List Value → Bool
  | [], [] => true
  | a :: l, b :: m => same a b && sameL l m
  | _, _ => false
end

mutual
theorem same_eq : ∀ a b : Value, same a b = true → a = b
  | .bool a, b, h => by cases b <;> simp [same] at h; simp [h]
  | .int k a, b, h => by cases b <;> simp [same] at h; simp [h]
  | .float _ _, b, h => by cases b <;> simp [same] at h
  | .complex _ _ _, b, h => by cases b <;> simp [same] at h
  | .string ⟨a⟩, b, h => by
    cases b <;> simp [same] at h
    rename_i s
    cases s
    simp at h
    simp [h]
  | .pointer a, b, h => by cases b <;> simp [same] at h; simp [h]
  | .slice a n c, b, h => by cases b <;> simp [same] at h; simp [h]
  | .map a, b, h => by cases b <;> simp [same] at h; simp [h]
  | .chan a, b, h => by cases b <;> simp [same] at h; simp [h]
  | .func f a c, b, h => by
    cases b <;> simp [same] at h
    rw [h.1.1, sameA_eq a _ h.1.2, sameA_eq c _ h.2]
  | .nilFunc, b, h => by cases b <;> simp [same] at h; rfl
  | .nilIface, b, h => by cases b <;> simp [same] at h; rfl
  | .iface t v, b, h => by
    cases b <;> simp [same] at h
    rw [h.1, same_eq v _ h.2]
  | .agg a, b, h => by
    cases b <;> simp [same] at h
    rw [sameA_eq a _ h]
  | .tuple a, b, h => by
    cases b <;> simp [same] at h
    rw [sameA_eq a _ h]
theorem sameA_eq : ∀ a b : Array Value, sameA a b = true → a = b
  | ⟨a⟩, ⟨b⟩, h => by rw [sameL_eq a b (by simpa [sameA] using h)]
theorem sameL_eq : ∀ a b : List Value, sameL a b = true → a = b
  | [], [], _ => rfl
  | a :: l, b :: m, h => by
    simp only [sameL, Bool.and_eq_true] at h
    rw [same_eq a b h.1, sameL_eq l m h.2]
  | [], _ :: _, h => by simp [sameL] at h
  | _ :: _, [], h => by simp [sameL] at h
end

/-- An operand that is known by itself is like the run's. -/
def envOk : Operand → Bool
  | .tmp _ => true
  | .const v => flat v
  | .global g => Nat.blt g GLOBS
  | .func _ => true

abbrev Caller := FuncId → Array Value → AS → Option (Value × AS)

/-! A frame of a calculation. -/
structure Fra where
  tr : Tr Value
  n : Nat
  defers : List Deferred
def Fra.slot (a : Fra) (t : Tmp) : Value :=
  match a.tr.get t with
  | some v => v
  | none => undef
def Fra.put (a : Fra) (dst : Option Tmp) (v : Value) : Fra :=
  match dst with
  | some d => (match Nat.blt d a.n with | true => { a with tr := a.tr.set (some v) d } | false => a)
  | none => a
def Fra.defer (a : Fra) (d : Deferred) : Fra := { a with defers := d :: a.defers }
def Fra.eval (a : Fra) : Operand → Value
  | .tmp t => a.slot t
  | .const v => v
  | .global g => .pointer (some ⟨g, 0, none⟩)
  | .func f => .func (.func f) #[] #[]
def yieldedF (ops : Array Oper) (a : Fra) (j : Nat) : Option Bool :=
  match (ops[j]?).bind (·.dst) with
  | some t => (match a.slot t with | .bool b => some b | _ => none)
  | none => none
def Fra.setAll (tr : Tr Value) (i : Nat) : List Value → Tr Value
  | [] => tr
  | v :: vs => Fra.setAll (tr.set (some v) i) (i + 1) vs
def Fra.enter (args : Array Value) (n : Nat) : Fra := { tr := Fra.setAll .e 0 args.toList, n := args.size + (n - args.size), defers := [] }

/-- One operation in a frame. -/
def stepIn (P : Program) (call : Caller) (a : Fra) (o : Oper) (σ : AS) : Option (Fra × AS) :=
  if o.op.operands.all envOk then
    match stepK P a.eval o σ with
    | some (.value v, σ1) => some (a.put o.dst v, σ1)
    | some (.skip, σ1) => some (a.put o.dst undef, σ1)
    | some (.defer d, σ1) => some ((a.defer d).put o.dst undef, σ1)
    | some (.enter f args, σ1) =>
      match call f args σ1 with
      | some (v, σ2) => some (a.put o.dst v, σ2)
      | none => none
    | _ => none
  else none

def opsIn (P : Program) (call : Caller) (ops : Array Oper) : List Oper → Fra → AS → Option (Fra × AS)
  | [], a, σ => some (a, σ)
  | o :: os, a, σ =>
    if Region.wanted o (yieldedF ops a) then
      match stepIn P call a o σ with
      | some (a1, σ1) => opsIn P call ops os a1 σ1
      | none => none
    else opsIn P call ops os (a.put o.dst undef) σ

/-! Likeness of frames. -/
structure ActR (ρ : Ren) (a : Fra) (a' : Act) : Prop where
  size : a'.tmps.size = a.n
  slot : ∀ t, VRel ρ (a.slot t) (a'.tmps.getD t undef)
  small : a.n ≤ 4294967296
  defers : DsR ρ a.defers a'.defers

theorem Fra.slot_put (a : Fra) (hs : a.n ≤ 4294967296) (d : Nat) (v : Value) (t : Nat) : (a.put (some d) v).slot t = if t = d ∧ d < a.n then v else a.slot t := by
  simp only [Fra.put]
  cases hb : Nat.blt d a.n with
  | false =>
    have : ¬ d < a.n := by
      rw [← Nat.blt_eq, hb]; simp
    simp [this]
  | true =>
    have hlt : d < a.n := by rw [← Nat.blt_eq]; exact hb
    simp only [Fra.slot]
    rw [Tr.get_set _ _ _ _ (.inl (by omega))]
    by_cases e : t = d
    · simp [e, hlt]
    · simp [e]
theorem Fra.put_n (a : Fra) (d : Option Tmp) (v : Value) : (a.put d v).n = a.n := by
  cases d with
  | none => rfl
  | some d => simp only [Fra.put]; cases Nat.blt d a.n <;> rfl
theorem Fra.put_defers (a : Fra) (d : Option Tmp) (v : Value) : (a.put d v).defers = a.defers := by
  cases d with
  | none => rfl
  | some d => simp only [Fra.put]; cases Nat.blt d a.n <;> rfl
theorem Fra.put_other (a : Fra) (hs : a.n ≤ 4294967296) {d : Option Tmp} (v : Value) {t : Nat} (h : d ≠ some t) : (a.put d v).slot t = a.slot t := by
  cases d with
  | none => rfl
  | some d =>
    rw [Fra.slot_put a hs]
    have : ¬ (t = d ∧ d < a.n) := fun e => h (by rw [e.1])
    rw [if_neg this]
theorem Fra.put_still (a : Fra) (hs : a.n ≤ 4294967296) {d : Option Tmp} (v : Value) {t : Nat} (h : d ≠ some t ∨ a.n ≤ t) : (a.put d v).slot t = a.slot t := by
  rcases h with h | h
  · exact Fra.put_other a hs v h
  · cases d with
    | none => rfl
    | some d =>
      rw [Fra.slot_put a hs, if_neg (fun e => by rw [← e.1] at e; exact absurd e.2 (Nat.not_lt.2 h))]
theorem Fra.setAll_get : ∀ (vs : List Value) (tr : Tr Value) (i t : Nat), i + vs.length < 2 ^ 64 - 1 → (Fra.setAll tr i vs).get t = if i ≤ t ∧ t < i + vs.length then vs[t - i]? else tr.get t
  | [], tr, i, t, _ => by simp [Fra.setAll]; intro h1 h2; omega
  | v :: vs, tr, i, t, h => by
    simp only [Fra.setAll]
    simp only [List.length_cons] at h
    rw [Fra.setAll_get vs _ _ _ (by omega), Tr.get_set _ _ _ _ (.inl (by omega))]
    simp only [List.length_cons]
    by_cases h1 : t = i
    · subst h1
      simp
      omega
    · by_cases h2 : i + 1 ≤ t ∧ t < i + 1 + vs.length
      · rw [if_pos h2, if_pos (by omega), show t - i = (t - (i + 1)) + 1 by omega]
        rfl
      · rw [if_neg h2, if_neg h1, if_neg (by omega)]

section
variable {P : Program} {ρ : Ren}

theorem ActR.mono {ρ' : Ren} (hle : ρ.le ρ') {a : Fra} {a' : Act} (h : ActR ρ a a') : ActR ρ' a a' := ⟨h.size, fun t => (h.slot t).mono hle, h.small, h.defers.mono hle⟩
theorem undef_rel (ρ : Ren) : VRel ρ undef undef := .tuple .nil
theorem AsRel.getD {a a' : Array Value} (h : AsRel ρ a a') (t : Nat) : VRel ρ (a.getD t undef) (a'.getD t undef) := by
  cases hv : a[t]? with
  | none =>
    have hn := h.getNone hv
    simp only [Array.getD_eq_getD_getElem?, hv, hn, Option.getD_none]
    exact undef_rel ρ
  | some v =>
    obtain ⟨v', h1, h2⟩ := h.get hv
    simp only [Array.getD_eq_getD_getElem?, hv, h1, Option.getD_some]
    exact h2
theorem put_self (a : Act) {d : Nat} (v : Value) (h : d < a.tmps.size) : (a.put (some d) v).tmps.getD d undef = v := by simp [Act.put, h]
theorem put_other (a : Act) {d : Option Tmp} (v : Value) {t : Nat} (h : d ≠ some t) : (a.put d v).tmps.getD t undef = a.tmps.getD t undef := by
  cases d with
  | none => rfl
  | some d =>
    have : d ≠ t := fun e => h (e ▸ rfl)
    simp [Act.put, Array.getElem?_setIfInBounds_ne this]
theorem put_size (a : Act) (d : Option Tmp) (v : Value) : (a.put d v).tmps.size = a.tmps.size := by
  cases d <;> simp [Act.put]
theorem put_defers (a : Act) (d : Option Tmp) (v : Value) : (a.put d v).defers = a.defers := by
  cases d <;> rfl
theorem getD_out {b : Act} {d : Nat} (h : b.tmps.size ≤ d) : b.tmps.getD d undef = undef := by simp [Array.getElem?_eq_none h]
theorem ActR.put {a : Fra} {a' : Act} (h : ActR ρ a a') (d : Option Tmp) {v v' : Value} (hv : VRel ρ v v') : ActR ρ (a.put d v) (a'.put d v') := by
  refine ⟨by rw [put_size, Fra.put_n, h.size], fun t => ?_, by rw [Fra.put_n]; exact h.small, by rw [Fra.put_defers, put_defers]; exact h.defers⟩
  by_cases hd : d = some t
  · subst hd
    rw [Fra.slot_put a h.small]
    by_cases hlt : t < a.n
    · rw [if_pos ⟨rfl, hlt⟩, put_self a' v' (by rw [h.size]; exact hlt)]
      exact hv
    · have hout : (a'.put (some t) v').tmps.getD t undef = a'.tmps.getD t undef := by
        rw [getD_out (by rw [put_size, h.size]; exact Nat.not_lt.1 hlt), getD_out (by rw [h.size]; exact Nat.not_lt.1 hlt)]
      rw [if_neg (fun e => hlt e.2), hout]
      exact h.slot t
  · rw [Fra.put_other a h.small v hd, put_other a' v' hd]
    exact h.slot t
theorem ActR.defer {a : Fra} {a' : Act} (h : ActR ρ a a') {d d' : Deferred} (hd : DefR ρ d d') : ActR ρ (a.defer d) { a' with defers := d' :: a'.defers } := ⟨h.size, h.slot, h.small, .cons hd h.defers⟩
theorem ActR.enter {args args' : Array Value} (h : AsRel ρ args args') {n : Nat} (hn : args.size + (n - args.size) ≤ 4294967296) : ActR ρ (Fra.enter args n) { tmps := args' ++ Array.replicate (n - args'.size) undef, defers := [] } := by
  refine ⟨by simp [Fra.enter, h.size], fun t => ?_, hn, .nil⟩
  simp only [Fra.slot, Fra.enter]
  rw [Fra.setAll_get _ _ _ _ (by simp; omega)]
  simp only [Nat.zero_le, true_and, Nat.zero_add, Array.length_toList, Nat.sub_zero, Array.getElem?_toList]
  by_cases ht : t < args.size
  · rw [if_pos ht]
    have hv := Array.getElem?_eq_getElem ht
    obtain ⟨v', h1, h2⟩ := h.get hv
    rw [hv]
    have : (args' ++ Array.replicate (n - args'.size) undef).getD t undef = v' := by
      rw [Array.getD_eq_getD_getElem?, Array.getElem?_append_left (by rw [h.size]; exact ht), h1]
      rfl
    rw [this]
    exact h2
  · rw [if_neg ht]
    have : (args' ++ Array.replicate (n - args'.size) undef).getD t undef = undef := by
      rw [Array.getD_eq_getD_getElem?, Array.getElem?_append_right (by rw [h.size]; exact Nat.not_lt.1 ht), Array.getElem?_replicate]
      split <;> rfl
    rw [this]
    simp only [Tr.get]
    exact undef_rel _

/-- An operand's value, at both, where the temporaries that it names are alike. -/
theorem eval_rel {σ : AS} {w : World} (hw : WRel P ρ σ w) {x : Operand} (hx : envOk x = true) {a : Fra} {a' : Act} (ht : ∀ t, x = .tmp t → VRel ρ (a.slot t) (a'.tmps.getD t undef)) : VRel ρ (a.eval x) (a'.eval x) := by
  cases x with
  | tmp t => exact ht t rfl
  | const v => exact flat_rel ρ v (by simpa [envOk] using hx)
  | global g =>
    obtain ⟨l, h1, h2⟩ := hw.glob g (by rw [← Nat.blt_eq]; exact hx)
    have : VRel ρ (.pointer (some ⟨g, 0, none⟩)) (.pointer (some ⟨l.b, 0, none⟩)) := .ptr h1
    rw [h2] at this
    exact this
  | func f => exact .func (.func f) .nil .nil

theorem yielded_at {ops : Array Oper} {a : Fra} {a' : Act} (j : Nat) (h : ∀ t, (ops[j]?).bind (·.dst) = some t → VRel ρ (a.slot t) (a'.tmps.getD t undef)) :
    yielded ops a'.tmps j = yieldedF ops a j := by
  unfold yielded yieldedF
  cases ht : (ops[j]?).bind (·.dst) with
  | none => rfl
  | some t =>
    simp only [Option.bind_some]
    have := h t ht
    rw [Array.getD_eq_getD_getElem?] at this
    generalize a.slot t = u at this
    cases hu : a'.tmps[t]? with
    | none =>
      rw [hu] at this
      simp only [Option.getD_none] at this
      generalize hv : undef = v at this
      cases this <;> first | rfl | cases hv
    | some u' =>
      rw [hu] at this
      simp only [Option.getD_some] at this
      cases this <;> rfl
/-- A guard that is met, or is not, is so at both. -/
theorem wanted_guard {ops : Array Oper} {o : Oper} {a : Fra} {a' : Act} (h : ∀ g want t, o.guard = some (g, want) → (ops[g]?).bind (·.dst) = some t → VRel ρ (a.slot t) (a'.tmps.getD t undef)) :
    Region.wanted o (yielded ops a'.tmps) = Region.wanted o (yieldedF ops a) := by
  unfold Region.wanted
  cases hg : o.guard with
  | none => rfl
  | some gw =>
    obtain ⟨g, want⟩ := gw
    have : yielded ops a'.tmps g = yieldedF ops a g := yielded_at g fun t ht => h g want t hg ht
    simp only [this]

/-- A call by calculation is a call. -/
def CallOk (P : Program) (call : Caller) : Prop :=
  ∀ f args σ v σ1, call f args σ = some (v, σ1) → ∀ (ρ : Ren) w args', WRel P ρ σ w → AsRel ρ args args' →
    Calls P f args' w fun
      | .returned v', w' => ∃ ρ', WRel P ρ' σ1 w' ∧ Fr σ.next σ1.next ρ w ρ' w' ∧ VRel ρ' v v'
      | _, _ => False

/-- What an operation leaves in a frame. -/
inductive Left (ρ : Ren) (o : Oper) (b : Fra) (a : Act) (b1 : Fra) (a1 : Act) : Prop
  | value {v v'} (hb : b1 = b.put o.dst v) (ha : a1 = a.put o.dst v') (h : VRel ρ v v')
  | defer {d d' : Deferred} (hb : b1 = (b.defer d).put o.dst undef) (ha : a1 = ({ a with defers := d' :: a.defers } : Act).put o.dst undef) (h : DefR ρ d d')

theorem stepIn_sound (hz : ZerosOk P) {call : Caller} (hcall : CallOk P call) {b : Fra} {a' : Act} {o : Oper} {σ σ1 : AS} {b1 : Fra} (h : stepIn P call b o σ = some (b1, σ1))
    {w : World} (hw : WRel P ρ σ w) (hev : ∀ t, .tmp t ∈ o.op.operands → VRel ρ (b.slot t) (a'.tmps.getD t undef))
    {K : Act → World → Prop} {Q : Exit → Act → World → Prop} (hK : ∀ ρ' w' a1, WRel P ρ' σ1 w' → Fr σ.next σ1.next ρ w ρ' w' → Left ρ' o b a' b1 a1 → K a1 w') : o.wp P a' w K Q := by
  unfold stepIn at h
  split at h
  case isFalse => cases h
  rename_i henv
  have hops : ∀ x ∈ o.op.operands, VRel ρ (b.eval x) (a'.eval x) := fun x hx =>
    eval_rel hw (Array.all_eq_true_iff_forall_mem.1 henv x hx) fun t e => hev t (e ▸ hx)
  unfold Oper.wp
  split at h
  · rename_i v σ2 hs
    cases h
    obtain ⟨ρ', n', w', hr, hw', hf, hn⟩ := stepOp_sound hz o hops hw (stepK_eq .. ▸ hs)
    rw [hr]
    cases hn with
    | value hv => exact hK ρ' w' _ hw' hf (.value rfl rfl hv)
  · rename_i σ2 hs
    cases h
    obtain ⟨ρ', n', w', hr, hw', hf, hn⟩ := stepOp_sound hz o hops hw (stepK_eq .. ▸ hs)
    rw [hr]
    cases hn with
    | skip => exact hK ρ' w' _ hw' hf (.value rfl rfl (undef_rel _))
  · rename_i d σ2 hs
    cases h
    obtain ⟨ρ', n', w', hr, hw', hf, hn⟩ := stepOp_sound hz o hops hw (stepK_eq .. ▸ hs)
    rw [hr]
    cases hn with
    | defer hd => exact hK ρ' w' _ hw' hf (.defer rfl rfl hd)
  · rename_i f args σ2 hs
    obtain ⟨ρ', n', w', hr, hw', hf, hn⟩ := stepOp_sound hz o hops hw (stepK_eq .. ▸ hs)
    split at h
    case h_2 => cases h
    rename_i v σ3 hc
    cases h
    rw [hr]
    cases hn with
    | enter _ ha =>
      simp only [Oper.upon]
      refine Calls.mono (hcall f args σ2 v σ1 hc ρ' w' _ hw' ha) fun e w2 he => ?_
      cases e with
      | returned v' =>
        obtain ⟨ρ2, hw2, hf2, hv⟩ := he
        exact hK ρ2 w2 _ hw2 (hf.trans hf2) (.value rfl rfl hv)
      | panicked _ => exact he.elim
      | outgrown => exact he.elim
  · cases h

theorem Left.act {o : Oper} {b : Fra} {a : Act} {b1 : Fra} {a1 : Act} {ρ' : Ren} (hle : ρ.le ρ') (h : ActR ρ b a) (hl : Left ρ' o b a b1 a1) : ActR ρ' b1 a1 := by
  cases hl with
  | value hb ha hv => subst hb; subst ha; exact (h.mono hle).put _ hv
  | defer hb ha hd => subst hb; subst ha; exact ((h.mono hle).defer hd).put _ (undef_rel _)

/-- A region that keeps the order of the text. -/
theorem opsIn_sound (hz : ZerosOk P) {call : Caller} (hcall : CallOk P call) {ops : Array Oper} {Q : Exit → Act → World → Prop} : ∀ (l : List Oper) {ρ : Ren} {a : Fra} {a' : Act} {σ : AS} {w : World} {a1 : Fra} {σ1 : AS},
    opsIn P call ops l a σ = some (a1, σ1) → WRel P ρ σ w → ActR ρ a a' → (∀ ρ' w' a1', WRel P ρ' σ1 w' → Fr σ.next σ1.next ρ w ρ' w' → ActR ρ' a1 a1' → Q .normal a1' w') → wpList P ops Q l a' w
  | [], ρ, a, a', σ, w, a1, σ1, h, hw, ha, hQ => by
    cases h
    exact hQ ρ w a' hw (.refl _ _) ha
  | o :: l, ρ, a, a', σ, w, a1, σ1, h, hw, ha, hQ => by
    unfold opsIn at h
    unfold wpList
    have hwant : Region.wanted o (yielded ops a'.tmps) = Region.wanted o (yieldedF ops a) := wanted_guard fun _ _ t _ _ => ha.slot t
    rw [hwant]
    split at h
    · rename_i hw1
      rw [if_pos hw1]
      split at h
      case h_2 => cases h
      rename_i b1 σ2 hs
      refine .inl (stepIn_sound hz hcall hs hw (fun t _ => ha.slot t) fun ρ' w' b1' hw' hf hl => ?_)
      exact opsIn_sound hz hcall l h hw' (hl.act hf.le ha) fun ρ2 w2 a2 hw2 hf2 ha2 => hQ ρ2 w2 a2 hw2 (hf.trans hf2) ha2
    · rename_i hw1
      rw [if_neg hw1]
      exact opsIn_sound hz hcall l h hw (ha.put _ (undef_rel _)) hQ

end
end
end Go.Proofs.YtlnhacbdbhmgkaaGreatDoor
