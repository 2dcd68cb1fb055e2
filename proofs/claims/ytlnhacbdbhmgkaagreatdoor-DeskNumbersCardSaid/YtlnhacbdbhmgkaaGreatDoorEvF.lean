/- The operations at a calculation and at a run: iterators, built-in functions, calls. -/
import Derived.Test.YtlnhacbdbhmgkaaGreatDoorEvE
namespace Go.Proofs.YtlnhacbdbhmgkaaGreatDoor

section
variable {P : Program} {ρ : Ren}

inductive OsR (ρ : Ren) : List (Option MapEntry) → List (Option MapEntry) → Prop
  | nil : OsR ρ [] []
  | no {a b} (h : OsR ρ a b) : OsR ρ (none :: a) (none :: b)
  | yes {e e' a b} (he : EntryR ρ e e') (h : OsR ρ a b) : OsR ρ (some e :: a) (some e' :: b)
theorem OsR.ofEs : ∀ {a b : List MapEntry}, EsR ρ a b → OsR ρ (a.map some) (b.map some)
  | _, _, .nil => .nil
  | _, _, .cons h hs => .yes h (OsR.ofEs hs)
theorem OsR.length : ∀ {a b : List (Option MapEntry)}, OsR ρ a b → b.length = a.length
  | _, _, .nil => rfl
  | _, _, .no h => by simp [h.length]
  | _, _, .yes _ h => by simp [h.length]
theorem OsR.get : ∀ {a b : List (Option MapEntry)}, OsR ρ a b → ∀ k : Nat, (a[k]? = none ∧ b[k]? = none) ∨ (a[k]? = some none ∧ b[k]? = some none) ∨ ∃ e e', a[k]? = some (some e) ∧ b[k]? = some (some e') ∧ EntryR ρ e e'
  | _, _, .nil, k => .inl (by simp)
  | _, _, .no h, 0 => .inr (.inl ⟨rfl, rfl⟩)
  | _, _, .yes he h, 0 => .inr (.inr ⟨_, _, rfl, rfl, he⟩)
  | _, _, .no h, k + 1 => by simpa using h.get k
  | _, _, .yes _ h, k + 1 => by simpa using h.get k
theorem EntryR.mono {ρ' : Ren} (hle : ρ.le ρ') {a b : MapEntry} (h : EntryR ρ a b) : EntryR ρ' a b := ⟨h.key.mono hle, h.val.mono hle, h.born⟩

theorem Sim.next {x x' : Value} (hx : VRel ρ x x') (b : Bool) (t : TypeId) : Sim P ρ VRel (Instr.next x b t) (Instr.next x' b t) := by
  unfold Instr.next
  have over : ∀ ρ' : Ren, Sim P ρ' VRel (Pure.pure (Value.tuple #[.bool false])) (Pure.pure (Value.tuple #[.bool false])) := fun ρ' => Sim.ret (.tuple (.cons (.bool _) .nil))
  cases hx <;> first | (dsimp only; exact Sim.stuck) | skip
  case ptr r o s l hr =>
  cases o with
  | succ o => exact Sim.stuck
  | zero =>
  dsimp only
  refine Sim.bind (Sim.getObj hr) ?_
  rintro ρ1 h1 p q ⟨rfl, -, hpq⟩
  cases hpq <;> (cases b) <;> first | exact Sim.stuck | exact over _ | skip
  case stringIter.true s pos =>
    dsimp only
    split
    · refine Sim.bind (Sim.setObj hr (.stringIter _ _)) ?_
      rintro ρ2 h2 _ _ -
      exact Sim.ret (.tuple (.cons (.bool _) (.cons (.int _ _) (.cons (.int _ _) .nil))))
    · exact over _
  case mapIter.false m k since seen last hm =>
    dsimp only
    refine Sim.bind (Sim.getObj hm) ?_
    rintro ρ2 h2 p q ⟨rfl, -, hpq⟩
    cases hpq <;> first | exact Sim.stuck | skip
    case map es es' clock he =>
    dsimp only
    have hsz : es'.isEmpty = es.isEmpty := by
      have := he.length
      simp only [Array.length_toList] at this
      simp only [Array.isEmpty, this]
    have hall : (es'.all fun e => decide (e.born ≥ last)) = es.all fun e => decide (e.born ≥ last) := by
      rw [← Array.all_toList, ← Array.all_toList]
      exact he.all (f := fun n => decide (n ≥ last))
    rw [hsz, hall]
    split
    · exact (Dead.bind Dead.halt).sim
    · have hleft := he.filter (f := fun n => !seen.contains n)
      have hold := hleft.filter (f := fun n => decide (n < since))
      have hnew := hleft.filter (f := fun n => decide (n ≥ since))
      have hcand : OsR ρ2
          ((if ((es.filter fun e => !seen.contains e.born).filter fun e => decide (e.born < since)).isEmpty then #[none] else #[]) ++ (((es.filter fun e => !seen.contains e.born).filter fun e => decide (e.born < since)) ++ ((es.filter fun e => !seen.contains e.born).filter fun e => decide (e.born ≥ since))).map some : Array (Option MapEntry)).toList
          ((if ((es'.filter fun e => !seen.contains e.born).filter fun e => decide (e.born < since)).isEmpty then #[none] else #[]) ++ (((es'.filter fun e => !seen.contains e.born).filter fun e => decide (e.born < since)) ++ ((es'.filter fun e => !seen.contains e.born).filter fun e => decide (e.born ≥ since))).map some : Array (Option MapEntry)).toList := by
        have hemp : ((es'.filter fun e => !seen.contains e.born).filter fun e => decide (e.born < since)).isEmpty = ((es.filter fun e => !seen.contains e.born).filter fun e => decide (e.born < since)).isEmpty := by
          have := hold.length
          rw [← Array.toList_filter, ← Array.toList_filter, ← Array.toList_filter, ← Array.toList_filter] at this
          simp only [Array.length_toList] at this
          simp only [Array.isEmpty, this]
        rw [hemp]
        have hes := OsR.ofEs (hold.append hnew)
        split <;> simp only [Array.toList_append, Array.toList_map, Array.toList_filter, List.nil_append, List.cons_append]
        · exact .no (by simpa using hes)
        · simpa using hes
      generalize ((if ((es.filter fun e => !seen.contains e.born).filter fun e => decide (e.born < since)).isEmpty then #[none] else #[]) ++ (((es.filter fun e => !seen.contains e.born).filter fun e => decide (e.born < since)) ++ ((es.filter fun e => !seen.contains e.born).filter fun e => decide (e.born ≥ since))).map some : Array (Option MapEntry)) = C at hcand ⊢
      generalize ((if ((es'.filter fun e => !seen.contains e.born).filter fun e => decide (e.born < since)).isEmpty then #[none] else #[]) ++ (((es'.filter fun e => !seen.contains e.born).filter fun e => decide (e.born < since)) ++ ((es'.filter fun e => !seen.contains e.born).filter fun e => decide (e.born ≥ since))).map some : Array (Option MapEntry)) = C' at hcand ⊢
      have hlen : C'.size = C.size := by simpa using hcand.length
      rw [hlen]
      refine Sim.bind Sim.choose ?_
      rintro ρ3 h3 c _ rfl
      rcases hcand.get c with ⟨h4, h5⟩ | ⟨h4, h5⟩ | ⟨e, e', h4, h5, h6⟩ <;> simp only [Array.getElem?_toList] at h4 h5 <;> rw [h4, h5]
      · exact Sim.stuck
      · exact over _
      · dsimp only
        rw [h6.born]
        refine Sim.bind (Sim.setObj (h3 _ _ hr) (.mapIter _ _ _ (h3 _ _ hm))) ?_
        rintro ρ4 h7 _ _ -
        exact Sim.ret (.tuple (.cons (.bool _) (.cons ((h6.key.mono h3).mono h7) (.cons ((h6.val.mono h3).mono h7) .nil))))

theorem findStamp_rel {n : Nat} {a b : Array MapEntry} (h : EsR ρ a.toList b.toList) :
    (a.find? (fun e => e.born == n) = none ∧ b.find? (fun e => e.born == n) = none) ∨ ∃ x y, a.find? (fun e => e.born == n) = some x ∧ b.find? (fun e => e.born == n) = some y ∧ EntryR ρ x y := by
  rw [← Array.find?_toList, ← Array.find?_toList]
  generalize a.toList = x at h
  generalize b.toList = y at h
  induction h with
  | nil => exact .inl ⟨rfl, rfl⟩
  | cons h hs ih =>
    simp only [List.find?_cons, h.born]
    split
    · exact .inr ⟨_, _, rfl, rfl, h⟩
    · exact ih

theorem Sim.entry {x x' : Value} (hx : VRel ρ x x') : Sim P ρ VRel (Instr.entry x) (Instr.entry x') := by
  unfold Instr.entry
  cases hx <;> first | (dsimp only; exact Sim.stuck) | skip
  case ptr r o s l hr =>
  cases o with
  | succ o => exact Sim.stuck
  | zero =>
  dsimp only
  refine Sim.bind (Sim.getObj hr) ?_
  rintro ρ1 h1 p q ⟨rfl, -, hpq⟩
  cases hpq <;> first | exact Sim.stuck | skip
  case mapIter m k since seen last hm =>
    dsimp only
    cases seen.back? with
    | none => exact Sim.stuck
    | some stamp =>
    dsimp only
    refine Sim.bind (Sim.getObj hm) ?_
    rintro ρ2 h2 p q ⟨rfl, -, hpq⟩
    cases hpq <;> first | exact Sim.stuck | skip
    case map es es' clock he =>
    dsimp only
    split
    · exact (Dead.bind Dead.halt).sim
    · rcases findStamp_rel (n := stamp) he with ⟨h4, h5⟩ | ⟨x, y, h4, h5, h6⟩ <;> rw [h4, h5]
      · exact Sim.unsupported
      · exact Sim.ret (.tuple (.cons h6.key (.cons h6.val .nil)))

/-! Built-in functions. -/
theorem Sim.len (ts : Array TypeId) (t : TypeId) {x x' : Value} (hx : VRel ρ x x') : Sim P ρ VRel (Builtin.len_ ts t #[x]) (Builtin.len_ ts t #[x']) := by
  unfold Builtin.len_
  have g0 : ∀ (a : Value), (#[a] : Array Value)[0]? = some a := fun _ => rfl
  rw [g0, g0]
  cases ts[0]? with
  | none => exact Sim.stuck
  | some t =>
  dsimp only
  refine Sim.bind (Sim.underlying t) ?_
  rintro ρ1 h1 d _ ⟨rfl, -⟩
  have hx1 := hx.mono h1
  cases d <;> first | (dsimp only; exact Sim.stuck) | skip
  case array => exact Sim.ret (.int _ _)
  case pointer =>
    refine Sim.bind (Sim.underlying _) ?_
    rintro ρ2 h2 d _ ⟨rfl, -⟩
    cases d <;> first | exact Sim.stuck | exact Sim.ret (.int _ _)
  case string => cases hx1 <;> first | exact Sim.stuck | exact Sim.ret (.int _ _)
  case slice => cases hx1 <;> first | exact Sim.stuck | exact Sim.ret (.int _ _)
  case chan => cases hx1 <;> first | exact Sim.stuck | exact Sim.ret (.int _ _)
  case map =>
    cases hx1 <;> first | exact Sim.stuck | exact Sim.ret (.int _ _) | skip
    case map hr =>
    dsimp only
    refine Sim.bind (Sim.getObj hr) ?_
    rintro ρ2 h2 p q ⟨rfl, -, hpq⟩
    cases hpq <;> first | exact Sim.stuck | skip
    case map es es' clock he =>
    have := he.length
    simp only [Array.length_toList] at this
    dsimp only
    rw [this]
    exact Sim.ret (.int _ _)

theorem Sim.lenOf {x x' : Value} (hx : VRel ρ x x') : Sim P ρ (fun _ a b => a = b ∧ ∀ r n c, x = .slice r n c → a = n) (Builtin.lenOf x) (Builtin.lenOf x') := by
  cases hx <;> first | exact Sim.stuck | exact Sim.ret ⟨rfl, fun _ _ _ h => by cases h; rfl⟩ | exact Sim.ret ⟨rfl, fun _ _ _ h => by cases h⟩
theorem Sim.firstCells (size n : Nat) {x x' : Value} (hx : VRel ρ x x') (hn : ∀ r m c, x = .slice r m c → n ≤ m) : Sim P ρ AsRel (Builtin.firstCells size n x) (Builtin.firstCells size n x') := by
  unfold Builtin.firstCells
  cases hx <;> first | exact Sim.stuck | exact Sim.ret (AsRel.nil _) | skip
  case string s =>
    refine Sim.ret ?_
    exact AsRel.map (fun b => .int _ _) _
  case sliceX h hc => exact Sim.loadCells _ ⟨_, h, rfl⟩
  case sliceF r o o' m c c' l h hb hm hl ho =>
    rcases ho with rfl | ⟨h0, -⟩
    · exact Sim.loadCells _ ⟨_, h, rfl⟩
    · have := hn _ _ _ rfl
      obtain rfl : n = 0 := by omega
      simp only [Nat.zero_mul]
      exact Sim.ret (AsRel.nil _)

theorem Sim.noCells (size : Nat) {x x' : Value} (hx : VRel ρ x x') : Sim P ρ (fun _ a b => a = #[] ∧ b = #[]) (Builtin.firstCells size 0 x) (Builtin.firstCells size 0 x') := by
  unfold Builtin.firstCells
  cases hx <;> first | exact Sim.stuck | exact Sim.ret ⟨rfl, rfl⟩ | skip
  case string s => exact Sim.ret ⟨by simp, by simp⟩
  all_goals (simp only [Nat.zero_mul]; exact Sim.ret ⟨rfl, rfl⟩)

theorem Sim.copy (ts : Array TypeId) (t : TypeId) {x x' y y' : Value} (hx : VRel ρ x x') (hy : VRel ρ y y') : Sim P ρ VRel (Builtin.copy_ ts t #[x, y]) (Builtin.copy_ ts t #[x', y']) := by
  unfold Builtin.copy_
  have g0 : ∀ (a b : Value), (#[a, b] : Array Value)[0]? = some a := fun _ _ => rfl
  have g1 : ∀ (a b : Value), (#[a, b] : Array Value)[1]? = some b := fun _ _ => rfl
  rw [g0, g1, g0, g1]
  cases ts[0]? with
  | none => exact Sim.stuck
  | some t =>
  dsimp only
  refine Sim.bind (Sim.underlying t) ?_
  rintro ρ1 h1 d _ ⟨rfl, -⟩
  cases d <;> first | exact Sim.stuck | skip
  rename_i e
  dsimp only
  have hx1 := hx.mono h1
  have hy1 := hy.mono h1
  obtain ⟨a, m, c, rfl⟩ | hno : (∃ a m c, x = .slice a m c) ∨ ∀ a m c, x ≠ .slice a m c := by
    cases x <;> first | exact .inl ⟨_, _, _, rfl⟩ | exact .inr (fun _ _ _ h => by cases h)
  case inr => cases x <;> first | exact Sim.stuck | exact absurd rfl (hno _ _ _)
  obtain ⟨a', c', rfl, haa⟩ : ∃ a' c', x' = .slice a' m c' ∧ (m = 0 ∨ (a = none ∧ a' = none) ∨ ∃ x y, a = some x ∧ a' = some y ∧ AR ρ1 x y) := by
    cases hx1 with
    | sliceNil n c hc => exact ⟨none, _, rfl, .inr (.inl ⟨rfl, rfl⟩)⟩
    | sliceX n c h hc => exact ⟨_, _, rfl, .inr (.inr ⟨_, _, rfl, rfl, AR.of h⟩)⟩
    | sliceF h hb hn hl ho =>
      rcases ho with rfl | ⟨rfl, -⟩
      · exact ⟨_, _, rfl, .inr (.inr ⟨_, _, rfl, rfl, AR.of h⟩)⟩
      · exact ⟨_, _, rfl, .inl rfl⟩
  dsimp only
  refine Sim.bind (Sim.lenOf hy1) ?_
  rintro ρ2 h2 k _ ⟨rfl, hk⟩
  refine Sim.bind (Sim.sizeOf e) ?_
  rintro ρ3 h3 s _ ⟨rfl, -⟩
  have hy3 := (hy1.mono h2).mono h3
  rcases haa with rfl | haa
  · rw [show Nat.min k 0 = 0 from Nat.min_zero k]
    refine Sim.bind (Sim.noCells s hy3) ?_
    rintro ρ4 h4 _ _ ⟨rfl, rfl⟩
    cases a <;> cases a' <;> exact Sim.ret (.int _ _)
  · refine Sim.bind (Sim.firstCells s _ hy3 (fun r n c hr => by rw [← hk r n c hr]; exact Nat.min_le_left _ _)) ?_
    intro ρ4 h4 q q' hq
    rcases haa with ⟨rfl, rfl⟩ | ⟨u, u', rfl, rfl, hu⟩
    · exact Sim.ret (.int _ _)
    · dsimp only
      refine Sim.bind (Sim.storeCells 0 (((hu.mono h2).mono h3).mono h4) hq) ?_
      rintro ρ5 h5 _ _ -
      exact Sim.ret (.int _ _)

theorem Sim.forIn {β : Type} {f f' : Value → β → Sem (ForInStep β)} (hf : ∀ (ρ' : Ren) v v' b, VRel ρ' v v' → Sim P ρ' (fun _ x y => x = y) (f v b) (f' v' b)) :
    ∀ (l l' : List Value) {ρ : Ren} (b : β), VsRel ρ l l' → Sim P ρ (fun _ x y => x = y) (ForIn.forIn l b f) (ForIn.forIn l' b f')
  | _, _, ρ, b, .nil => Sim.ret rfl
  | _, _, ρ, b, .cons h hs => by
    simp only [List.forIn_cons]
    refine Sim.bind (hf _ _ _ b h) ?_
    rintro ρ1 h1 x _ rfl
    cases x with
    | done b => exact Sim.ret rfl
    | yield b => exact Sim.forIn hf _ _ b (hs.mono h1)
theorem Sim.bytesToString {x x' : Value} (hx : VRel ρ x x') : Sim P ρ VRel (Conv.bytesToString x) (Conv.bytesToString x') := by
  unfold Conv.bytesToString
  have main : ∀ (a a' : Addr) (n : Nat), (n = 0 ∨ AR ρ a a') → Sim P ρ VRel (Conv.bytesToString (.slice (some a) n 0)) (Conv.bytesToString (.slice (some a') n 0)) := by
    intro a a' n h
    unfold Conv.bytesToString
    dsimp only
    refine Sim.bind (R := AsRel) ?_ ?_
    · rcases h with rfl | h
      · exact Sim.ret (AsRel.nil _)
      · exact Sim.loadCells n h
    · intro ρ1 h1 c c' hc
      simp only [← Array.forIn_toList]
      refine Sim.bind (Sim.forIn (fun ρ' v v' b hv => ?_) _ _ _ hc) ?_
      · cases hv <;> first | exact Dead.sim (Dead.bind Dead.halt) | skip
        rename_i k n
        cases k <;> first | exact Dead.sim (Dead.bind Dead.halt) | exact Sim.ret rfl
      · rintro ρ2 h2 b _ rfl
        exact Sim.ret (.string _)
  cases hx <;> first | exact Sim.stuck | exact Sim.ret (.string _) | skip
  case sliceX h hc => exact main _ _ _ (.inr (AR.of h))
  case sliceF r o o' m c c' l h hb hm hl ho =>
    rcases ho with rfl | ⟨h0, -⟩
    · exact main _ _ _ (.inr (AR.of h))
    · exact main _ _ _ (.inl h0)

end
end Go.Proofs.YtlnhacbdbhmgkaaGreatDoor
