/- A region that draws its order, by calculation: the reckoning is sound. -/
import Derived.Test.YtlnhacbdbhmgkaaGreatDoorEvK
namespace Go.Proofs.YtlnhacbdbhmgkaaGreatDoor

/-! A memory that did not turn. -/
def Since (σ σ1 : AS) : Prop := σ.ver ≤ σ1.ver ∧ (σ1.ver = σ.ver → σ1 = σ)
theorem Since.refl (σ : AS) : Since σ σ := ⟨Nat.le_refl _, fun _ => rfl⟩
theorem Since.trans {σ σ1 σ2 : AS} (h : Since σ σ1) (k : Since σ1 σ2) : Since σ σ2 :=
  ⟨Nat.le_trans h.1 k.1, fun e => by
    have h1 : σ1.ver = σ.ver := Nat.le_antisymm (e ▸ k.1) h.1
    rw [k.2 (by omega), h.2 h1]⟩
theorem Since.put (σ : AS) (r : Nat) (o : Option Obj) : Since σ (σ.put r o) := ⟨Nat.le_succ _, fun e => by simp [AS.put] at e⟩
theorem Since.push (σ : AS) (o : Obj) : Since σ (σ.push o) := ⟨Nat.le_succ _, fun e => by simp [AS.push] at e⟩

section
variable {P : Program} {α : Type}

theorem arun_since : ∀ (s : Sem α) {σ : AS} {a : α} {σ1 : AS}, arun P s σ = some (a, σ1) → Since σ σ1
  | .pure a, σ, _, _, h => by cases h; exact .refl _
  | .load m a k, σ, _, _, h => by
    simp only [arun] at h
    split at h
    · cases h
    · split at h
      · split at h
        · exact arun_since _ h
        · cases h
      · cases h
  | .store m a v k, σ, _, _, h => by
    simp only [arun] at h
    split at h
    · split at h
      · split at h
        · exact (Since.put _ _ _).trans (arun_since _ h)
        · cases h
      · cases h
    · cases h
  | .new o k, σ, _, _, h => by
    simp only [arun] at h
    split at h
    · exact (Since.push _ _).trans (arun_since _ h)
    · cases h
  | .shape _ _, _, _, _, h => by cases h
  | .freeze _ _ _, _, _, _, h => by cases h
  | .frozen _ _, _, _, _, h => by cases h
  | .getObj r k, σ, _, _, h => by
    simp only [arun] at h
    split at h
    · split at h
      · cases h
      · exact arun_since _ h
    · cases h
  | .setObj r o k, σ, _, _, h => by
    simp only [arun] at h
    split at h
    · split at h
      · cases h
      · exact (Since.put _ _ _).trans (arun_since _ h)
    · cases h
  | .choose q k, σ, _, _, h => by
    simp only [arun] at h
    split at h
    · exact arun_since _ h
    · cases h
  | .sys _ _, _, _, _, h => by cases h
  | .program k, σ, _, _, h => by simp only [arun] at h; exact arun_since _ h
  | .mark _ k, σ, _, _, h => by simp only [arun] at h; exact arun_since _ h
  | .halt _, _, _, _, h => by cases h

theorem absAppend_since {st xt : TypeId} {s x v : Value} {σ σ1 : AS} (h : absAppend P st xt s x σ = some (v, σ1)) : Since σ σ1 := by
  unfold absAppend at h
  (repeat' split at h) <;> first | (cases h; done) | skip
  all_goals first
    | (cases h; exact .refl _)
    | (cases h; exact .push _ _)
    | (cases h; exact (Since.put _ _ _).trans (.push _ _))
    | (rename_i hr; cases h; exact arun_since _ hr)
theorem absBytes_since {dst : TypeId} {s : ByteArray} {v : Value} {σ σ1 : AS} (h : absBytes P dst s σ = some (v, σ1)) : Since σ σ1 := by
  unfold absBytes at h
  (repeat' split at h) <;> first | (cases h; done) | skip
  all_goals (cases h; exact .push _ _)
theorem flatStep_since {s : Sem Next} {n : Next} {σ σ1 : AS} (h : flatStep P s σ = some (n, σ1)) : Since σ σ1 := by
  unfold flatStep at h
  (repeat' split at h) <;> first | (cases h; done) | skip
  all_goals (cases h; exact .refl _)
theorem valOf_since {r : Option (Value × AS)} {n : Next} {σ σ1 : AS} (h : valOf r = some (n, σ1)) (k : ∀ v σ', r = some (v, σ') → Since σ σ') : Since σ σ1 := by
  unfold valOf at h
  split at h
  · cases h; exact k _ _ rfl
  · cases h
theorem capped_since {s : Sem Next} {n : Next} {σ σ1 : AS} (h : capped (arun P s σ) = some (n, σ1)) : Since σ σ1 := by
  unfold capped at h
  split at h
  · rename_i hr
    split at h
    · cases h; exact arun_since _ hr
    · cases h
  · cases h
theorem callStep_since {ev : Operand → Value} {o : Oper} {c : Call} {n : Next} {σ σ1 : AS} (h : callStep P ev o c σ = some (n, σ1)) : Since σ σ1 := by
  unfold callStep at h
  (repeat' split at h) <;> first | (cases h; done) | skip
  all_goals first
    | exact valOf_since h fun _ _ => absAppend_since
    | exact arun_since _ h
    | exact flatStep_since h
    | (cases h; exact .refl _)
    | (rename_i hr _; cases h; exact arun_since _ hr)
    | (rename_i hr; cases h; exact arun_since _ hr)
theorem stepOp_since {ev : Operand → Value} {o : Oper} {n : Next} {σ σ1 : AS} (h : stepOp P ev o σ = some (n, σ1)) : Since σ σ1 := by
  unfold stepOp binStep convStep deferStep at h
  (repeat' split at h) <;> first | (cases h; done) | skip
  all_goals first
    | exact callStep_since h
    | exact valOf_since h fun _ _ => absBytes_since
    | exact valOf_since h fun _ _ => arun_since _
    | exact capped_since h
    | exact flatStep_since h
    | exact arun_since _ h
    | (cases h; exact .refl _)
    | (rename_i hr _; cases h; exact arun_since _ hr)
    | (rename_i hr; cases h; exact arun_since _ hr)

end

/-! A memory that has grown. -/
inductive Grows : AS → AS → Prop
  | refl (σ) : Grows σ σ
  | push {σ σ1 : AS} (o : Obj) (hn : σ.next < 9223372036854775806) (h : Grows (σ.push o) σ1) : Grows σ σ1

section
variable {P : Program} {ρ : Ren}

theorem Grows.up : ∀ {σ σ1 : AS}, Grows σ σ1 → σ.next ≤ σ1.next
  | _, _, .refl _ => Nat.le_refl _
  | _, _, .push _ _ h => Nat.le_trans (Nat.le_succ _) h.up
theorem WRel.pushed {σ : AS} {w : World} (hw : WRel P ρ σ w) (o : Obj) (hn : σ.next < 9223372036854775806) : WRel P ρ (σ.push o) w := by
  have hg : ∀ {r x l}, (σ.push o).get r = some x → ρ r = some l → σ.get r = some x := fun {r x l} h hl => by
    rw [AS.get_push (by omega), if_neg (by have := hw.dom _ _ hl; omega)] at h
    exact h
  refine ⟨fun r x l h hl => hw.obj r x l (hg h hl) hl, fun r l hl => Nat.lt_succ_of_lt (hw.dom r l hl), hw.img, fun a b l l' x y h1 h2 h3 h4 => hw.inj a b l l' x y (hg h1 h3) (hg h2 h4) h3 h4, hw.glob, ?_⟩
  show σ.next + 1 < 2 ^ 63
  omega
theorem WRel.grown : ∀ {σ σ1 : AS} {w : World}, WRel P ρ σ w → Grows σ σ1 → WRel P ρ σ1 w
  | _, _, _, hw, .refl _ => hw
  | _, _, _, hw, .push o hn h => (hw.pushed o hn).grown h
theorem Fr.upto {n m m' : Nat} {w w' : World} {ρ' : Ren} (h : Fr n m ρ w ρ' w') (k : m ≤ m') : Fr n m' ρ w ρ' w' :=
  ⟨h.le, h.os, h.tape, h.output, h.size, h.keep, h.fresh, Nat.le_trans h.up k, h.names⟩

/-- A block whose name was given ahead of it. -/
theorem WRel.float {σ : AS} {w : World} (hw : WRel P ρ σ w) {r : Nat} {l : Lies} {o o' : Obj} (h0 : ρ r = none) (hr : r < σ.next) (hg : σ.get r = some o) (ho : ORel P (ρ.more r l) l o o') (hl : l.b = w.heap.size) {w' : World} (hw' : w'.heap = w.heap.push o') :
    WRel P (ρ.more r l) σ w' := by
  have hle := Ren.le_more (l := l) h0
  refine ⟨fun x y k hy hk => ?_, fun x k hk => ?_, fun x k hk => ?_, fun r1 r2 l1 l2 x y hx hy h1 h2 he => ?_, fun g hg => ?_, hw.small⟩
  · unfold Ren.more at hk
    split at hk
    · rename_i e
      cases hk
      subst e
      rw [hg] at hy
      cases hy
      exact ⟨o', by rw [hw', hl]; simp, ho⟩
    · rename_i e
      obtain ⟨x', h3, h4⟩ := hw.obj x y k hy hk
      refine ⟨x', ?_, h4.mono hle⟩
      rw [hw', Array.getElem?_push, if_neg (by have := hw.img _ _ hk; omega), h3]
  · unfold Ren.more at hk
    split at hk
    · rename_i e; exact e ▸ hr
    · exact hw.dom _ _ hk
  · unfold Ren.more at hk
    rw [hw', Array.size_push]
    split at hk
    · cases hk; omega
    · have := hw.img _ _ hk; omega
  · unfold Ren.more at h1 h2
    split at h1 <;> split at h2
    · omega
    · cases h1
      have := hw.img _ _ h2
      omega
    · cases h2
      have := hw.img _ _ h1
      omega
    · exact hw.inj r1 r2 l1 l2 x y hx hy h1 h2 he
  · obtain ⟨k, hk, e⟩ := hw.glob g hg
    exact ⟨k, hle _ _ hk, e⟩
theorem Fr.float {n m : Nat} {ρ' : Ren} {w w1 w' : World} (h : Fr n m ρ w ρ' w1) {r : Nat} {l : Lies} {o' : Obj} (h0 : ρ' r = none) (hr : n ≤ r) (hl : l.b = w1.heap.size) (hw' : w'.heap = w1.heap.push o')
    (hos : w'.os = w1.os) (ht : w'.tape = w1.tape) (hout : w'.output = w1.output) : Fr n m ρ w (ρ'.more r l) w' where
  le := h.le.trans (Ren.le_more h0)
  os := hos.trans h.os
  tape := ht.trans h.tape
  output := hout.trans h.output
  size := by rw [hw', Array.size_push]; exact Nat.le_succ_of_le h.size
  keep := fun b hb hn => by
    rw [hw', Array.getElem?_push, if_neg (by have := h.size; omega)]
    exact h.keep b hb hn
  fresh := fun x k hk hg => by
    unfold Ren.more at hk
    split at hk
    · cases hk; exact .inr (by have := h.size; omega)
    · exact h.fresh x k hk hg
  up := h.up
  names := fun x k hx hk => by
    unfold Ren.more at hk
    split at hk
    · rename_i e; exact e ▸ hr
    · exact h.names x k hx hk

def okMk : Mk → Bool
  | .slice n => decide (n < BIG)
  | _ => true
/-- What makes a variable makes it at any world. -/
theorem float_run (hz : ZerosOk P) {o : Oper} {ev ev' : Operand → Value} (hev : ∀ x ∈ o.op.operands, VRel ρ (ev x) (ev' x)) {ob : Obj} {k : Mk} (h : floatOf P ev o = some (ob, k)) :
    okMk k = true ∧ ∃ ob' lim sz, (∀ w, (execOp ev' o).run P w = .ok (.value (mkOf k w.heap.size)) { w with heap := w.heap.push ob' }) ∧ ∀ b, ORel P ρ ⟨b, lim, sz⟩ ob ob' := by
  unfold floatOf at h
  split at h
  · rename_i t ho
    split at h
    case h_2 => cases h
    rename_i i hi
    split at h
    case h_2 => cases h
    rename_i z hzz
    cases h
    refine ⟨rfl, .cells z.cells t, z.cells.size, esz P t, fun w => ?_, fun b => .cells rfl (fun j v hv => ?_) (fun x _ hx => by simp at hx) rfl⟩
    · simp only [execOp, ho, Instr.alloc, zeroValue, typeInfo, Go.program, Sem.run_bind, Sem.run, Result.andThen_ok, hi, hzz, Sem.run_pure, newVar, newRow, newObj, mkOf]
    · exact (hz t i z hi hzz ρ).cells.get hv
  · rename_i t x ho
    cases h
    have hx : VRel ρ (ev x) (ev' x) := hev x (by simp [ho, Op.operands])
    refine ⟨rfl, .cells (ev' x).cells t, (ev' x).cells.size, esz P t, fun w => ?_, fun b => .cells rfl (fun j v hv => hx.cells.get hv) (fun x _ hx => by simp at hx) rfl⟩
    simp only [execOp, ho, Instr.box, Sem.run_bind, Sem.run, Result.andThen_ok, Sem.run_pure, newVar, newRow, newObj, mkOf]
  · rename_i t ho
    cases h
    refine ⟨rfl, .map #[] 0, 0, 0, fun w => ?_, fun b => .map .nil⟩
    simp only [execOp, ho, Option.map_none, Instr.makeMap, Sem.run_bind, Sem.run, Result.andThen_ok, Sem.run_pure, newObj, mkOf]
  · rename_i t n ps ho
    split at h
    case h_2 => cases h
    rename_i e hu
    split at h
    case h_2 => cases h
    rename_i i hi
    split at h
    case isFalse => cases h
    rename_i hn
    simp only [Bool.and_eq_true, decide_eq_true_eq] at hn
    split at h
    case h_2 => cases h
    rename_i z hzz
    split at h
    case h_2 => cases h
    rename_i cells hf
    cases h
    have hps : PsR ρ (ps.map fun p => (p.1, ev p.2)).toList (ps.map fun p => (p.1, ev' p.2)).toList := by
      simp only [Array.toList_map]
      refine parts_rel fun p hp => hev _ ?_
      simp only [ho, Op.operands, List.mem_toArray, List.mem_map]
      exact ⟨p, hp, rfl⟩
    obtain ⟨cells', h4, h5⟩ := fill_rel hps (zeros_rel (hz _ _ _ hi hzz ρ).cells _) hf
    refine ⟨by simpa [okMk] using hn.2, .cells cells' e, cells'.size, esz P e, fun w => ?_, fun b => .cells rfl (fun j v hv => h5.get hv) (fun x _ hx => by simp at hx) rfl⟩
    have h24 : ¬ n * i.size > 2 ^ 24 := by omega
    by_cases h0 : n * i.size = 0
    · have e1 : ∀ z : Array Value, (Array.range (n * i.size)).map (fun x => z[x % z.size]!) = #[] := fun z => by rw [h0]; simp
      rw [e1] at h4
      simp only [execOp, ho, Instr.buildSlice, sizeOf, typeInfo, Go.program, Sem.run_bind, Sem.run, Result.andThen_ok, run_underlying hu, hi, Sem.run_pure, h24, if_false, if_pos h0, e1]
      rw [h4]
      simp only [newRow, newObj, Sem.run_bind, Sem.run, Result.andThen_ok, Sem.run_pure, mkOf]
    · simp only [execOp, ho, Instr.buildSlice, sizeOf, typeInfo, Go.program, Sem.run_bind, Sem.run, Result.andThen_ok, run_underlying hu, hi, Sem.run_pure, h24, if_false, h0, zeroValue, hzz]
      rw [h4]
      simp only [newRow, newObj, Sem.run_bind, Sem.run, Result.andThen_ok, Sem.run_pure, mkOf]
  · cases h
theorem mkOf_rel {k : Mk} (hk : okMk k = true) {r : Nat} {l : Lies} (h : ρ r = some l) : VRel ρ (mkOf k r) (mkOf k l.b) := by
  cases k with
  | ptr => exact .ptr h
  | map => exact .map h
  | slice n => exact .sliceX n n h (by simpa [okMk] using hk)

end

/-! The frame and the memory between what acts. -/
inductive Chain (P : Program) (call : Caller) (ops : Array Oper) (n : Nat) (ds : List Deferred) (σf : AS) : List Rec → Prop
  | nil : Chain P call ops n ds σf []
  | cons {r : Rec} {rs : List Rec} {o : Oper} (ho : ops[r.i]? = some o) (hw : Region.wanted o (yieldedF ops r.b) = true) (hs : stepIn P call r.b o r.σ = some (r.b1, r.σ1)) (hn : r.b.n = n)
      (hg : Grows r.σ1 (cur σf rs)) (hd : r.b1.defers = curD ds rs) (ht : Chain P call ops n ds σf rs) : Chain P call ops n ds σf (r :: rs)

section
variable {P : Program} {call : Caller} {ops : Array Oper}

theorem finishIn_keeps {a a1 : Fra} {o : Oper} {n : Next} {σ σ1 : AS} (h : finishIn call a o n σ = some (a1, σ1)) : a1.n = a.n ∧ (a.n ≤ 4294967296 → ∀ t, o.dst ≠ some t ∨ a.n ≤ t → a1.slot t = a.slot t) := by
  unfold finishIn at h
  split at h
  · cases h; exact ⟨Fra.put_n _ _ _, fun hs t ht => Fra.put_still _ hs _ ht⟩
  · cases h; exact ⟨Fra.put_n _ _ _, fun hs t ht => Fra.put_still _ hs _ ht⟩
  · cases h; exact ⟨Fra.put_n _ _ _, fun hs t ht => (Fra.put_still (a.defer _) hs _ ht).trans rfl⟩
  · split at h
    · cases h; exact ⟨Fra.put_n _ _ _, fun hs t ht => Fra.put_still _ hs _ ht⟩
    · cases h
  · cases h
theorem stepIn_of {a a1 : Fra} {o : Oper} {n : Next} {σ σ1 σ2 : AS} (he : o.op.operands.all envOk = true) (h : stepK P a.eval o σ = some (n, σ1)) (k : finishIn call a o n σ1 = some (a1, σ2)) : stepIn P call a o σ = some (a1, σ2) := by
  unfold stepIn
  rw [if_pos he, h]
  cases n with
  | value v => exact k
  | skip => exact k
  | defer d => exact k
  | enter f args =>
    simp only [finishIn] at k ⊢
    cases hc : call f args σ1 with
    | none => rw [hc] at k; cases k
    | some y => rw [hc] at k; exact k
  | _ => cases k
theorem dst_in {i : Nat} {o : Oper} (h : ops[i]? = some o) {t : Nat} (hd : o.dst = some t) : t ∈ dsts ops := by
  unfold dsts
  refine List.mem_filterMap.2 ⟨o, ?_, hd⟩
  obtain ⟨hlt, e⟩ := Array.getElem?_eq_some_iff.1 h
  exact e ▸ (by simp)

theorem textIn_spec : ∀ (is : List Nat) {a : Fra} {σ : AS} {af : Fra} {σf : AS} {rs : List Rec} {fs : List Flt}, textIn P call ops is a σ = some (af, σf, rs, fs) → a.n ≤ 4294967296 →
    af.n = a.n ∧ (∀ t, t ∉ dsts ops ∨ a.n ≤ t → af.slot t = a.slot t) ∧ Chain P call ops a.n af.defers σf rs ∧ Grows σ (cur σf rs) ∧ a.defers = curD af.defers rs
  | [], a, σ, af, σf, rs, fs, h, _ => by
    simp only [textIn, Option.some.injEq, Prod.mk.injEq] at h
    obtain ⟨rfl, rfl, rfl, rfl⟩ := h
    exact ⟨rfl, fun _ _ => rfl, .nil, .refl _, rfl⟩
  | i :: is, a, σ, af, σf, rs, fs, h, hsm => by
    unfold textIn at h
    split at h
    · cases h
    rename_i o ho
    have hput : ∀ (v : Value) t, t ∉ dsts ops ∨ a.n ≤ t → (a.put o.dst v).slot t = a.slot t := fun v t ht => Fra.put_still _ hsm _ (ht.imp (fun ht e => ht (dst_in ho e)) id)
    split at h
    · split at h
      case isFalse => cases h
      rename_i he
      simp only [Bool.and_eq_true, decide_eq_true_eq] at he
      split at h
      · cases h
      rename_i ob k hf
      split at h
      · cases h
      rename_i hr
      cases h
      obtain ⟨h1, h2, h3, h4, h5⟩ := textIn_spec is hr (by rw [Fra.put_n]; exact hsm)
      rw [Fra.put_n] at h1 h3
      exact ⟨h1, fun t ht => (h2 t (by rwa [Fra.put_n])).trans (hput _ t ht), h3, .push _ he.2 h4, by rw [← h5, Fra.put_defers]⟩
    · split at h
      · rename_i hwant
        split at h
        case isFalse => cases h
        rename_i he
        split at h
        · cases h
        rename_i n σ1 hs
        split at h
        · cases h
        rename_i a1 σ2 hfin
        obtain ⟨k1, k2⟩ := finishIn_keeps hfin
        have k3 : ∀ t, t ∉ dsts ops ∨ a.n ≤ t → a1.slot t = a.slot t := fun t ht => k2 hsm t (ht.imp (fun ht e => ht (dst_in ho e)) id)
        split at h
        · rename_i hv
          cases n with
          | value v =>
            simp only [beq_iff_eq] at hv
            have e := (stepOp_since (stepK_eq .. ▸ hs)).2 hv
            simp only [finishIn, Option.some.injEq, Prod.mk.injEq] at hfin
            obtain ⟨rfl, rfl⟩ := hfin
            subst e
            obtain ⟨h1, h2, h3, h4, h5⟩ := textIn_spec is h (by rw [Fra.put_n]; exact hsm)
            rw [Fra.put_n] at h1 h3
            exact ⟨h1, fun t ht => (h2 t (by rwa [Fra.put_n])).trans (k3 t ht), h3, h4, by rw [← h5, Fra.put_defers]⟩
          | _ => cases hv
        · split at h
          · cases h
          rename_i hr
          cases h
          obtain ⟨h1, h2, h3, h4, h5⟩ := textIn_spec is hr (by rw [k1]; exact hsm)
          rw [k1] at h1 h3
          refine ⟨h1, fun t ht => (h2 t (by rwa [k1])).trans (k3 t ht), ?_, .refl _, rfl⟩
          exact .cons ho hwant (stepIn_of he hs hfin) rfl h4 h5 h3
      · obtain ⟨h1, h2, h3, h4, h5⟩ := textIn_spec is h (by rw [Fra.put_n]; exact hsm)
        rw [Fra.put_n] at h1 h3
        exact ⟨h1, fun t ht => (h2 t (by rwa [Fra.put_n])).trans (hput _ t ht), h3, h4, by rw [← h5, Fra.put_defers]⟩

end
end Go.Proofs.YtlnhacbdbhmgkaaGreatDoor
