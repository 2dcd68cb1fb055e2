/- A long run by calculation, cut into calls: what a call came to is kept in a table, and the calculation around it looks it up. -/
import Derived.Test.YtlnhacbdbhmgkaaGreatDoorEvN
namespace Go.Proofs.YtlnhacbdbhmgkaaGreatDoor
noncomputable section

def sameEs : List MapEntry → List MapEntry → Bool
  | [], [] => true
  | a :: l, b :: m => same a.key b.key && same a.val b.val && Nat.beq a.born b.born && sameEs l m
  | _, _ => false
def sameO : Obj → Obj → Bool
  | .cells c e f, .cells c' e' f' => sameA c c' && Nat.beq e e' && Nat.beq f.1 f'.1 && Nat.beq f.2 f'.2
  | .map ⟨l⟩ k, .map ⟨l'⟩ k' => sameEs l l' && Nat.beq k k'
  | .stringIter s p, .stringIter s' p' => same (.string s) (.string s') && Nat.beq p p'
  | .mapIter a b c d, .mapIter a' b' c' d' => a == a' && Nat.beq b b' && c == c' && Nat.beq d d'
  | _, _ => false
def sameT : Tr Obj → Tr Obj → Bool
  | .e, .e => true
  | .n l v r, .n l' v' r' =>
    (match v, v' with
    | some o, some o' => sameO o o'
    | none, none => true
    | _, _ => false) && sameT l l' && sameT r r'
  | _, _ => false
def sameS (σ τ : AS) : Bool := Nat.beq σ.next τ.next && Nat.beq σ.ver τ.ver && sameT σ.heap τ.heap

theorem sameEs_eq : ∀ a b : List MapEntry, sameEs a b = true → a = b
  | [], [], _ => rfl
  | ⟨k, v, n⟩ :: l, ⟨k', v', n'⟩ :: m, h => by
    simp only [sameEs, Bool.and_eq_true] at h
    rw [same_eq k k' h.1.1.1, same_eq v v' h.1.1.2, Nat.eq_of_beq_eq_true h.1.2, sameEs_eq l m h.2]
  | [], _ :: _, h => by simp [sameEs] at h
  | _ :: _, [], h => by simp [sameEs] at h
theorem sameO_eq : ∀ a b : Obj, sameO a b = true → a = b
  | .cells c e ⟨f, g⟩, y, h => by
    cases y <;> simp only [sameO, Bool.and_eq_true, Bool.false_eq_true] at h
    rename_i c' e' f'
    obtain ⟨f', g'⟩ := f'
    rw [sameA_eq _ _ h.1.1.1, Nat.eq_of_beq_eq_true h.1.1.2, Nat.eq_of_beq_eq_true h.1.2, Nat.eq_of_beq_eq_true h.2]
  | .map ⟨l⟩ k, y, h => by
    cases y with
    | map es k' =>
      rcases es with ⟨l'⟩
      simp only [sameO, Bool.and_eq_true] at h
      rw [sameEs_eq _ _ h.1, Nat.eq_of_beq_eq_true h.2]
    | _ => simp [sameO] at h
  | .stringIter s p, y, h => by
    cases y <;> simp only [sameO, Bool.and_eq_true, Bool.false_eq_true] at h
    have := same_eq _ _ h.1
    injection this with e
    rw [e, Nat.eq_of_beq_eq_true h.2]
  | .mapIter a b c d, y, h => by
    cases y <;> simp only [sameO, Bool.and_eq_true, Bool.false_eq_true, beq_iff_eq] at h
    rw [h.1.1.1, Nat.eq_of_beq_eq_true h.1.1.2, h.1.2, Nat.eq_of_beq_eq_true h.2]
  | .pending .., y, h => by simp [sameO] at h
  | .view .., y, h => by simp [sameO] at h
  | .number .., y, h => by simp [sameO] at h
  | .chan .., y, h => by simp [sameO] at h
  | .loop .., y, h => by simp [sameO] at h
  | .deferred .., y, h => by simp [sameO] at h
  | .coro .., y, h => by simp [sameO] at h
  | .finalizers .., y, h => by simp [sameO] at h
theorem sameT_eq : ∀ a b : Tr Obj, sameT a b = true → a = b
  | .e, .e, _ => rfl
  | .n l v r, .n l' v' r', h => by
    simp only [sameT, Bool.and_eq_true] at h
    rw [sameT_eq l l' h.1.2, sameT_eq r r' h.2]
    have := h.1.1
    cases v <;> cases v' <;> first | rfl | (simp at this; done) | skip
    simp only at this
    rw [sameO_eq _ _ this]
  | .e, .n .., h => by simp [sameT] at h
  | .n .., .e, h => by simp [sameT] at h
theorem sameS_eq (σ τ : AS) (h : sameS σ τ = true) : σ = τ := by
  obtain ⟨a, b, c⟩ := σ
  obtain ⟨a', b', c'⟩ := τ
  simp only [sameS, Bool.and_eq_true] at h
  rw [sameT_eq a a' h.2, Nat.eq_of_beq_eq_true h.1.1, Nat.eq_of_beq_eq_true h.1.2]

/-! The zero values bear no place. -/
theorem forIn_inv {α β : Type} (I : β → Prop) {body : α → β → Option (ForInStep β)} : ∀ (l : List α) (b : β), I b → (∀ a b r, I b → body a b = some r → I r.value) → ∀ c, forIn l b body = some c → I c
  | [], b, hb, _, c, h => by simp at h; exact h ▸ hb
  | a :: l, b, hb, hs, c, h => by
    rw [List.forIn_cons] at h
    cases hr : body a b with
    | none => rw [hr] at h; cases h
    | some r =>
      rw [hr] at h
      have h1 := hs a b r hb hr
      cases r with
      | done x => simp at h; exact h ▸ h1
      | yield x => exact forIn_inv I l x h1 hs c h
theorem flatL_append : ∀ {a b : List Value}, flatL a = true → flatL b = true → flatL (a ++ b) = true
  | [], _, _, h => h
  | x :: a, b, h, k => by
    simp only [flatL, List.cons_append, Bool.and_eq_true] at h ⊢
    exact ⟨h.1, flatL_append h.2 k⟩
theorem flatA_append {a b : Array Value} (h : flatA a = true) (k : flatA b = true) : flatA (a ++ b) = true := by
  rcases a with ⟨a⟩
  rcases b with ⟨b⟩
  simp only [flatA, List.append_toArray] at *
  exact flatL_append h k
theorem flat_cells {v : Value} (h : flat v = true) : flatA v.cells = true := by
  cases v <;> first | (simpa [Value.cells, flatA, flatL] using h) | (simpa [Value.cells, flat] using h)
theorem struct_zero {info : TypeId → Option TypeInfo} (hi : ∀ t i z, info t = some i → i.zero = some z → flat z = true) {fs : Array Field} {r : TypeInfo} (h : Made.reckonStruct info fs = some r) {z : Value} (hz : r.zero = some z) : flat z = true := by
  unfold Made.reckonStruct at h
  dsimp only at h
  rw [← Array.forIn_toList, Option.bind_eq_bind, Option.bind_eq_some_iff] at h
  obtain ⟨st, h1, h2⟩ := h
  have key : ∀ z, st.2.2.2.2.2.2.2.1 = some z → flatA z = true := by
    refine forIn_inv (fun st : Array Field × Nat × Nat × Nat × Nat × Bool × Bool × Option (Array Value) × String => ∀ z, st.2.2.2.2.2.2.2.1 = some z → flatA z = true) _ _ ?_ ?_ st h1
    · intro z hz; cases hz; rfl
    · intro f b r hb hr
      simp only [Option.bind_eq_bind, Option.bind_eq_some_iff] at hr
      obtain ⟨i, hi0, hr⟩ := hr
      have hzz : ∀ z, i.zero = some z → flat z = true := fun z hz => hi _ _ _ hi0 hz
      have one : ∀ (c : Nat) z, (if c > Made.mostCells then none else (b.2.2.2.2.2.2.2.1).bind fun u => i.zero.bind fun v => some (u ++ v.cells)) = some z → flatA z = true := by
        intro c z hz
        split at hz
        · cases hz
        · rw [Option.bind_eq_some_iff] at hz
          obtain ⟨u, hu, hz⟩ := hz
          rw [Option.bind_eq_some_iff] at hz
          obtain ⟨v, hv, hz⟩ := hz
          cases hz
          exact flatA_append (hb _ hu) (flat_cells (hzz _ hv))
      split at hr
      · simp at hr
      · split at hr
        · simp at hr
        · split at hr
          · simp only [Option.bind_eq_some_iff, Option.pure_def] at hr
            obtain ⟨tg, _, hr⟩ := hr
            split at hr <;> (cases hr; exact one _)
          · simp only [Option.bind_eq_some_iff, Option.pure_def] at hr
            obtain ⟨tg, _, hr⟩ := hr
            split at hr <;> (cases hr; exact one _)
  repeat' split at h2
  all_goals
    cases h2
    simp only [Option.map_eq_some_iff] at hz
    obtain ⟨c, hc, rfl⟩ := hz
    exact key c hc
theorem flatL_flatten {z : List Value} (h : flatL z = true) : ∀ n, flatL (List.replicate n z).flatten = true
  | 0 => rfl
  | n + 1 => by
    rw [List.replicate_succ, List.flatten_cons]
    exact flatL_append h (flatL_flatten h n)
theorem word_zero {d : TypeDesc} {s : String} {v : Value} {b : Bool} {n : Nat} {z : Value} (h : (Made.word d s v b n).zero = some z) : z = v := by
  unfold Made.word at h
  cases h; rfl
theorem reckon_zero {info : TypeId → Option TypeInfo} (hi : ∀ t i z, info t = some i → i.zero = some z → flat z = true) {d : TypeDesc} {r : TypeInfo} (h : Made.reckon info d = some r) {z : Value} (hz : r.zero = some z) : flat z = true := by
  unfold Made.reckon at h
  cases d <;> first | (cases h; done) | skip
  case struct fs => exact struct_zero hi h hz
  case pointer e =>
    simp only [Option.bind_eq_bind, Option.bind_eq_some_iff, Option.pure_def] at h
    obtain ⟨a, _, h⟩ := h
    have fin : ∀ {s : Option String} {k : String → TypeInfo}, (∀ x z, (k x).zero = some z → z = .pointer none) → (s.bind fun x => some (k x)) = some r → flat z = true := by
      intro s k hk hr
      rw [Option.bind_eq_some_iff] at hr
      obtain ⟨x, _, hr⟩ := hr
      cases hr
      rw [hk x z hz]; rfl
    split at h
    · cases h
    · split at h
      · cases h
      · exact fin (fun x z h => word_zero h) h
    · exact fin (fun x z h => word_zero h) h
  case array n e =>
    simp only [Option.bind_eq_bind, Option.bind_eq_some_iff, Option.pure_def, Option.some.injEq] at h
    obtain ⟨i, h1, s, h2, rfl⟩ := h
    dsimp only at hz
    split at hz
    · cases hz
    · split at hz
      · cases hz; rfl
      · rw [Option.map_eq_some_iff] at hz
        obtain ⟨u, hu, rfl⟩ := hz
        have := flat_cells (hi _ _ _ h1 hu)
        rcases hc : u.cells with ⟨l⟩
        rw [hc] at this
        simp only [flat]
        have e : (Array.replicate n (⟨l⟩ : Array Value)).flatten = ⟨(List.replicate n l).flatten⟩ := by
          apply Array.ext'
          simp
        rw [e]
        exact flatL_flatten this n
  all_goals
    simp only [Option.bind_eq_bind, Option.bind_eq_some_iff, Option.pure_def, Option.some.injEq] at h
    first
      | (obtain ⟨_, _, _, _, rfl⟩ := h; rw [word_zero hz]; rfl)
      | (obtain ⟨_, _, rfl⟩ := h; rw [word_zero hz]; rfl)
      | (obtain ⟨_, _, _, _, _, _, _, _, rfl⟩ := h; rw [word_zero hz]; rfl)
theorem infoAt_zero {T : Tables} (h : (T.types.toList.all fun i => match i.zero with | some z => flat z | none => true) = true) : ∀ (f : Nat) (t : TypeId) (i : TypeInfo) (z : Value), Made.infoAt T f t = some i → i.zero = some z → flat z = true
  | 0, _, _, _, hi, _ => by cases hi
  | f + 1, t, i, z, hi, hz => by
    unfold Made.infoAt at hi
    split at hi
    · have hm : i ∈ T.types.toList := Array.mem_toList_iff.2 (Array.mem_of_getElem? hi)
      have := List.all_eq_true.1 h i hm
      rw [hz] at this
      exact this
    · rw [Option.bind_eq_some_iff] at hi
      obtain ⟨d, _, hd⟩ := hi
      exact reckon_zero (infoAt_zero h f) hd hz

/-- A call that was calculated. -/
structure Ent where
  f : Nat
  args : Array Value
  σ : AS
  v : Value
  σ1 : AS
/-- What it says of the run. -/
def Ent.ok (P : Program) (e : Ent) : Prop :=
  ∀ (ρ : Ren) w args', WRel P ρ e.σ w → AsRel ρ e.args args' →
    Calls P e.f args' w fun
      | .returned v', w' => ∃ ρ', WRel P ρ' e.σ1 w' ∧ Fr e.σ.next e.σ1.next ρ w ρ' w' ∧ VRel ρ' e.v v'
      | _, _ => False
def comesTo (r : Option (Value × AS)) (e : Ent) : Bool :=
  match r with
  | some (v, σ) => same v e.v && sameS σ e.σ1
  | none => false
theorem comesTo_eq {r : Option (Value × AS)} {e : Ent} (h : comesTo r e = true) : r = some (e.v, e.σ1) := by
  unfold comesTo at h
  split at h
  · simp only [Bool.and_eq_true] at h
    rw [same_eq _ _ h.1, sameS_eq _ _ h.2]
  · cases h

def tabOf (call : Caller) : List Ent → Caller
  | [] => call
  | e :: es => fun f args σ =>
    match Nat.beq f e.f && Nat.beq σ.ver e.σ.ver with
    | true =>
      (match sameA args e.args && sameS σ e.σ with
      | true => some (e.v, e.σ1)
      | false => none)
    | false => tabOf call es f args σ

section
variable {P : Program}
theorem tabOf_ok {call : Caller} (hc : CallOk P call) : ∀ es : List Ent, (∀ e ∈ es, e.ok P) → CallOk P (tabOf call es)
  | [], _ => hc
  | e :: es, h => by
    intro f args σ v σ1 hx ρ w args' hw ha
    simp only [tabOf] at hx
    split at hx
    · rename_i hk
      split at hx
      · rename_i hs
        simp only [Bool.and_eq_true] at hk hs
        cases hx
        rw [Nat.eq_of_beq_eq_true hk.1]
        rw [sameA_eq _ _ hs.1] at ha
        have e1 := sameS_eq _ _ hs.2
        rw [e1] at hw ⊢
        exact h e (by simp) ρ w args' hw ha
      · cases hx
    · exact tabOf_ok hc es (fun e he => h e (by simp [he])) f args σ v σ1 hx ρ w args' hw ha
theorem Ent.ok_of (hz : ZerosOk P) (hm : P.follows .mixedOrders = true) {call : Caller} (hc : CallOk P call) (n : Nat) (e : Ent) (h : comesTo (callWith P call n e.f e.args e.σ) e = true) : e.ok P :=
  fun ρ w args' hw ha => callWith_sound hz hm hc n e.f e.args e.σ e.v e.σ1 (comesTo_eq h) ρ w args' hw ha

theorem zeros_ok (h : (P.types.toList.all fun i => match i.zero with | some z => flat z | none => true) = true) : ZerosOk P := by
  intro t i z hi hz ρ
  refine flat_rel ρ z ?_
  unfold Tables.info? at hi
  split at hi
  · have hm : i ∈ P.types.toList := Array.mem_toList_iff.2 (Array.mem_of_getElem? hi)
    have := List.all_eq_true.1 h i hm
    rw [hz] at this
    exact this
  · exact infoAt_zero h _ _ _ _ hi hz
end

/-- The first memory: one package-level variable, of which alone the first cell is known. -/
def firstS : AS := { heap := (Tr.e : Tr Obj).set (some (.cells #[.int .u8 0] 0 (1, 0))) 0, next := 1, ver := 0 }
def firstR : Ren := fun r => if r = 0 then some ⟨0, 0, 0⟩ else none
theorem firstW {P : Program} {w : World} (h : w.cell? ⟨0, 0, none⟩ = some (.int .u8 0)) : WRel P firstR firstS w := by
  have hget : ∀ r, firstS.get r = if r = 0 then some (.cells #[.int .u8 0] 0 (1, 0)) else none := fun r => by
    unfold firstS AS.get
    rw [Tr.get_set _ _ _ _ (.inl (by omega))]
    split
    · rfl
    · cases r <;> rfl
  obtain ⟨c, e, f, hc, h0⟩ : ∃ c e f, w.heap[0]? = some (.cells c e f) ∧ c[0]? = some (.int .u8 0) := by
    unfold World.cell? at h
    split at h
    · rename_i c e f hb
      exact ⟨c, e, f, hb, by simpa using h⟩
    · cases h
  refine ⟨fun r o l ho hl => ?_, fun r l hl => ?_, fun r l hl => ?_, fun r r' l l' o o' h1 h2 _ _ _ => ?_, fun g hg => ?_, by decide⟩
  · rw [hget] at ho
    unfold firstR at hl
    split at ho
    · rename_i hr
      rw [if_pos hr] at hl
      cases hl
      cases ho
      refine ⟨_, hc, .rom fun i v hv => ?_⟩
      match i, hv with
      | 0, hv => cases hv; exact ⟨_, h0, .int _ _⟩
      | i + 1, hv => simp at hv
    · cases ho
  · unfold firstR at hl
    split at hl
    · rename_i hr; subst hr; decide
    · cases hl
  · unfold firstR at hl
    split at hl
    · cases hl
      exact (Array.getElem?_eq_some_iff.1 hc).1
    · cases hl
  · rw [hget] at h1 h2
    split at h1
    · split at h2
      · omega
      · cases h2
    · cases h1
  · have : g = 0 := by unfold GLOBS at hg; omega
    subst this
    exact ⟨⟨0, 0, 0⟩, rfl, rfl⟩

end
end Go.Proofs.YtlnhacbdbhmgkaaGreatDoor
