/- The operations at a calculation and at a run. -/
import Derived.Test.YtlnhacbdbhmgkaaGreatDoorEvC
namespace Go.Proofs.YtlnhacbdbhmgkaaGreatDoor

section
variable {P : Program} {ρ : Ren} {α β : Type}

def AR (ρ : Ren) (a a' : Addr) : Prop := ∃ l, ρ a.block = some l ∧ a' = ⟨l.b, a.off, a.spot⟩
theorem AR.mono {ρ' : Ren} (hle : ρ.le ρ') {a a' : Addr} (h : AR ρ a a') : AR ρ' a a' := let ⟨l, h1, h2⟩ := h; ⟨l, hle _ _ h1, h2⟩
theorem AR.of {r o : Nat} {s : Option Nat} {l : Lies} (h : ρ r = some l) : AR ρ ⟨r, o, s⟩ ⟨l.b, o, s⟩ := ⟨l, h, rfl⟩
theorem AR.add {a a' : Addr} (h : AR ρ a a') (n : Nat) : AR ρ (a.add n) (a'.add n) := by
  obtain ⟨l, h1, rfl⟩ := h
  unfold Addr.add
  split
  · exact ⟨l, h1, rfl⟩
  · exact ⟨l, h1, rfl⟩
theorem AR.ptr {a a' : Addr} (h : AR ρ a a') : VRel ρ (.pointer (some a)) (.pointer (some a')) := by
  obtain ⟨l, h1, rfl⟩ := h
  obtain ⟨r, o, s⟩ := a
  exact .ptr h1
theorem VRel.toPtr {a : Addr} {v' : Value} (h : VRel ρ (.pointer (some a)) v') : ∃ a', v' = .pointer (some a') ∧ AR ρ a a' := by
  cases h with
  | ptr h => exact ⟨_, rfl, _, h, rfl⟩

theorem Sim.loadA {a a' : Addr} (h : AR ρ a a') {m : Mode} : Sim P ρ (fun ρ' a b => VRel ρ' a b) (Go.load a m) (Go.load a' m) := by
  obtain ⟨l, h1, rfl⟩ := h
  exact Sim.load h1
theorem Sim.storeA {a a' : Addr} (h : AR ρ a a') {m : Mode} {v v' : Value} (hv : VRel ρ v v') : Sim P ρ (fun _ _ _ => True) (Go.store a v m) (Go.store a' v' m) := by
  obtain ⟨l, h1, rfl⟩ := h
  exact Sim.store h1 hv

theorem Sim.loadCellsFrom {a a' : Addr} : ∀ (n i : Nat) {ρ : Ren} {acc acc' : Array Value}, AR ρ a a' → AsRel ρ acc acc' → Sim P ρ AsRel (Go.loadCellsFrom a i n acc) (Go.loadCellsFrom a' i n acc')
  | 0, i, ρ, acc, acc', _, hacc => Sim.ret hacc
  | n + 1, i, ρ, acc, acc', ha, hacc => by
    unfold Go.loadCellsFrom
    exact Sim.bind (Sim.loadA (ha.add i)) fun ρ' hle v v' hv => Sim.loadCellsFrom n (i + 1) (ha.mono hle) ((hacc.mono hle).push hv)
theorem Sim.loadCells {a a' : Addr} (n : Nat) (ha : AR ρ a a') : Sim P ρ AsRel (Go.loadCells a n) (Go.loadCells a' n) := Sim.loadCellsFrom n 0 ha (AsRel.nil _)
theorem Sim.storeCells {a a' : Addr} : ∀ {vs vs' : List Value} (i : Nat) {ρ : Ren}, AR ρ a a' → VsRel ρ vs vs' → Sim P ρ (fun _ _ _ => True) (Go.storeCells a vs i) (Go.storeCells a' vs' i)
  | _, _, i, ρ, _, .nil => by unfold Go.storeCells; exact Sim.ret trivial
  | _, _, i, ρ, ha, .cons h hs => by
    unfold Go.storeCells
    exact Sim.bind (Sim.storeA (ha.add i) h) fun ρ' hle _ _ _ => Sim.storeCells (i + 1) (ha.mono hle) (hs.mono hle)
theorem Sim.loadVar {a a' : Addr} (t : TypeId) (ha : AR ρ a a') : Sim P ρ VRel (Go.loadVar t a) (Go.loadVar t a') := by
  unfold Go.loadVar
  refine Sim.bind (Sim.isAgg t) ?_
  rintro ρ1 h1 b _ rfl
  cases b
  · exact Sim.loadA (ha.mono h1)
  · refine Sim.bind (Sim.sizeOf t) ?_
    rintro ρ2 h2 n _ ⟨rfl, -⟩
    refine Sim.bind (Sim.loadCells n ((ha.mono h1).mono h2)) ?_
    intro ρ3 h3 c c' hc
    exact Sim.ret (.agg hc)
theorem Sim.storeVar {a a' : Addr} (t : TypeId) (ha : AR ρ a a') {v v' : Value} (hv : VRel ρ v v') : Sim P ρ (fun _ _ _ => True) (Go.storeVar t a v) (Go.storeVar t a' v') := by
  unfold Go.storeVar
  refine Sim.bind (Sim.sizeOf t) ?_
  rintro ρ1 h1 n _ ⟨rfl, -⟩
  have hc := (hv.mono h1).cells
  dsimp only
  rw [hc.size]
  split
  · exact (Dead.bind Dead.halt).sim
  · exact Sim.storeCells 0 (ha.mono h1) hc
theorem Sim.newRow (e : TypeId) {c c' : Array Value} (hc : AsRel ρ c c') : Sim P ρ AR (Go.newRow e c) (Go.newRow e c') := by
  unfold Go.newRow
  refine Sim.bind (R := NumR) (Sim.new fun n b hn => ⟨⟨b, c'.size, esz P e⟩, rfl, .cells rfl (fun i v hv => ?_) (fun o _ h => by simp at h) rfl⟩) ?_
  · obtain ⟨v', h1, h2⟩ := hc.get hv
    exact ⟨v', h1, h2.mono (Ren.le_more hn)⟩
  · rintro ρ' hle r r' ⟨l, h1, rfl⟩
    exact Sim.ret ⟨l, h1, rfl⟩
theorem Sim.newVar (t : TypeId) {v v' : Value} (hv : VRel ρ v v') : Sim P ρ AR (Go.newVar t v) (Go.newVar t v') := Sim.newRow t hv.cells
theorem Sim.part (t : TypeId) {c c' : Array Value} (hc : AsRel ρ c c') (off : Nat) : Sim P ρ VRel (Go.part t c off) (Go.part t c' off) := by
  unfold Go.part
  refine Sim.bind (Sim.isAgg t) ?_
  rintro ρ1 h1 b _ rfl
  cases b
  · simp only [Bool.false_eq_true, if_false]
    cases h : c[off]? with
    | none => exact Sim.stuck
    | some v =>
      obtain ⟨v', h2, h3⟩ := hc.get h
      rw [h2]
      exact Sim.ret (h3.mono h1)
  · simp only [if_true]
    refine Sim.bind (Sim.sizeOf t) ?_
    rintro ρ2 h2 n _ ⟨rfl, -⟩
    exact Sim.ret (.agg (((hc.mono h1).mono h2).extract _ _))

theorem Sim.asIntOf {v v' : Value} (hv : VRel ρ v v') : Sim P ρ (fun _ a b => a = b) (Go.asIntOf v) (Go.asIntOf v') := by
  cases hv <;> first | exact Sim.ret rfl | exact Sim.stuck | exact Sim.unsupported
theorem Sim.asInt {v v' : Value} (hv : VRel ρ v v') : Sim P ρ (fun _ a b => a = b) (Go.asInt v) (Go.asInt v') := by
  unfold Go.asInt
  refine Sim.bind (Sim.asIntOf hv) ?_
  rintro ρ1 h1 b _ rfl
  exact Sim.ret rfl
theorem Sim.asBool {v v' : Value} (hv : VRel ρ v v') : Sim P ρ (fun _ a b => a = b) (Go.asBool v) (Go.asBool v') := by
  cases hv <;> first | exact Sim.ret rfl | exact Sim.stuck
theorem Sim.asAgg {v v' : Value} (hv : VRel ρ v v') : Sim P ρ AsRel (Go.asAgg v) (Go.asAgg v') := by
  cases hv <;> first | exact Sim.stuck | skip
  case agg h => exact Sim.ret h
theorem Sim.asAddr {v v' : Value} (hv : VRel ρ v v') : Sim P ρ AR (Go.asAddr v) (Go.asAddr v') := by
  cases hv
  case ptr h => exact Sim.ret ⟨_, h, rfl⟩
  case ptrNil => exact Dead.sim (show Dead P (runtimePanic .nilDeref) from Dead.panics)
  all_goals exact Sim.stuck
theorem Sim.sureAddr {v v' : Value} (hv : VRel ρ v v') : Sim P ρ AR (Instr.sureAddr v) (Instr.sureAddr v') := by
  cases hv <;> first | exact Sim.stuck | skip
  case ptr h => exact Sim.ret ⟨_, h, rfl⟩

theorem Sim.alloc (hz : ZerosOk P) (e : TypeId) {x y : Value} : Sim P ρ VRel (Instr.alloc e true x) (Instr.alloc e true y) := by
  unfold Instr.alloc
  refine Sim.bind (Sim.zeroValue hz e) ?_
  rintro ρ1 h1 z _ ⟨rfl, hzz⟩
  dsimp only
  refine Sim.bind (Sim.newVar e hzz) ?_
  intro ρ2 h2 a b hab
  exact Sim.ret hab.ptr
theorem Sim.box (e : TypeId) {v v' : Value} (hv : VRel ρ v v') : Sim P ρ VRel (Instr.box e v) (Instr.box e v') := by
  unfold Instr.box
  refine Sim.bind (Sim.newVar e hv) ?_
  intro ρ2 h2 a b hab
  exact Sim.ret hab.ptr
theorem Sim.loadAt (t : TypeId) {v v' : Value} (hv : VRel ρ v v') : Sim P ρ VRel (Instr.loadAt t v) (Instr.loadAt t v') := by
  unfold Instr.loadAt
  exact Sim.bind (Sim.sureAddr hv) fun ρ1 h1 a b hab => Sim.loadVar t hab
theorem Sim.storeAt (t : TypeId) {v v' x x' : Value} (hv : VRel ρ v v') (hx : VRel ρ x x') : Sim P ρ (fun _ _ _ => True) (Instr.storeAt t v x) (Instr.storeAt t v' x') := by
  unfold Instr.storeAt
  exact Sim.bind (Sim.sureAddr hv) fun ρ1 h1 a b hab => Sim.storeVar t hab (hx.mono h1)
theorem Sim.fieldPlace {a a' : Addr} (h : AR ρ a a') (f : Field) : Sim P ρ AR (Go.fieldPlace a f) (Go.fieldPlace a' f) := by
  unfold Go.fieldPlace
  refine Sim.bind (Sim.sizeOf _) ?_
  rintro ρ1 h1 n _ ⟨rfl, -⟩
  split
  · refine Dead.sim ?_
    unfold partAt
    exact Dead.then fun _ => Dead.bind (fun _ => rfl)
  · exact Sim.ret ((h.mono h1).add _)
theorem Sim.fieldAt (s : TypeId) {v v' : Value} (hv : VRel ρ v v') (f : Nat) : Sim P ρ VRel (Instr.fieldAt s v f) (Instr.fieldAt s v' f) := by
  unfold Instr.fieldAt
  refine Sim.bind (Sim.underlying s) ?_
  rintro ρ1 h1 d _ ⟨rfl, -⟩
  cases d <;> first | exact Sim.stuck | skip
  rename_i fields
  dsimp only
  cases fields[f]? with
  | none => exact Sim.stuck
  | some fd =>
    dsimp only
    refine Sim.bind (Sim.sureAddr (hv.mono h1)) ?_
    intro ρ2 h2 a b hab
    refine Sim.bind (Sim.fieldPlace hab fd) ?_
    intro ρ3 h3 a b hab
    exact Sim.ret hab.ptr

theorem Sim.indexAt (t : TypeId) {v v' x x' : Value} (hv : VRel ρ v v') (hx : VRel ρ x x') : Sim P ρ VRel (Instr.indexAt t v x) (Instr.indexAt t v' x') := by
  unfold Instr.indexAt
  refine Sim.bind (Sim.asIntOf hx) ?_
  rintro ρ1 h1 ⟨k, i⟩ _ rfl
  dsimp only
  refine Sim.bind (Sim.underlying t) ?_
  rintro ρ2 h2 d _ ⟨rfl, -⟩
  have hv2 := (hv.mono h1).mono h2
  have rest : ∀ (ρ2 : Ren) (a b : Option Addr) (n : Nat) (e : TypeId), ((a = none ∧ b = none) ∨ (n = 0) ∨ ∃ x y, a = some x ∧ b = some y ∧ AR ρ2 x y) → Sim P ρ2 VRel
      (do let __do_lift ← Go.underlying t
          match a with
          | some a =>
            if 0 ≤ i ∧ i < n then pure (.pointer (some (a.add (i.toNat * (← Go.sizeOf e)))))
            else if (decide (n ≤ 1) && (match __do_lift with | .array _ _ => true | _ => false)) = true then Go.unsupported (.noEntry "op/indexAddr.an index out of range at an array of length 0 or 1 (ledger 616)")
            else boundsPanic k i n .index
          | none => boundsPanic k i 0 .index)
      (do let __do_lift ← Go.underlying t
          match b with
          | some a =>
            if 0 ≤ i ∧ i < n then pure (.pointer (some (a.add (i.toNat * (← Go.sizeOf e)))))
            else if (decide (n ≤ 1) && (match __do_lift with | .array _ _ => true | _ => false)) = true then Go.unsupported (.noEntry "op/indexAddr.an index out of range at an array of length 0 or 1 (ledger 616)")
            else boundsPanic k i n .index
          | none => boundsPanic k i 0 .index) := by
    intro ρ2 a b n e hab
    refine Sim.bind (Sim.underlying t) ?_
    rintro ρ3 h3 d _ ⟨rfl, -⟩
    rcases hab with ⟨rfl, rfl⟩ | rfl | ⟨x, y, rfl, rfl, hxy⟩
    · exact Sim.bounds
    · cases a with
      | none => exact Sim.bounds
      | some a =>
        dsimp only
        have hno : ¬ (0 ≤ i ∧ i < ((0 : Nat) : Int)) := by omega
        rw [if_neg hno]
        refine Dead.sim ?_
        (repeat' split) <;> first | exact Dead.halt | exact Dead.bounds
    · dsimp only
      split
      · refine Sim.bind (Sim.sizeOf e) ?_
        rintro ρ4 h4 m _ ⟨rfl, -⟩
        exact Sim.ret (((hxy.mono h3).mono h4).add _).ptr
      · refine Dead.sim ?_
        (repeat' split) <;> first | exact Dead.halt | exact Dead.bounds
  cases d <;> first | (dsimp only; exact (Dead.bind fun _ => rfl).sim) | skip
  case slice e =>
    cases hv2 <;> first | (dsimp only; exact (Dead.bind fun _ => rfl).sim) | skip
    case sliceNil n c hc => exact rest ρ2 none none n e (.inl ⟨rfl, rfl⟩)
    case sliceX r o s l n c h hc => exact rest ρ2 (some ⟨r, o, s⟩) (some ⟨l.b, o, s⟩) n e (.inr (.inr ⟨_, _, rfl, rfl, AR.of h⟩))
    case sliceF r o o' n c c' l h hb hn hl ho =>
      rcases ho with rfl | ⟨h0, -⟩
      · exact rest ρ2 (some ⟨r, o', none⟩) (some ⟨l.b, o', none⟩) n e (.inr (.inr ⟨_, _, rfl, rfl, AR.of h⟩))
      · exact rest ρ2 (some ⟨r, o, none⟩) (some ⟨l.b, o', none⟩) n e (.inr (.inl h0))
  case array len elem =>
    dsimp only
    refine Sim.bind (Sim.sureAddr hv2) ?_
    intro ρ3 h3 a b hab
    exact rest ρ3 (some a) (some b) len elem (.inr (.inr ⟨a, b, rfl, rfl, hab⟩))

/-! Values built and taken apart. -/
theorem Sim.field (t : TypeId) {v v' : Value} (hv : VRel ρ v v') (f : Nat) : Sim P ρ VRel (Instr.field t v f) (Instr.field t v' f) := by
  unfold Instr.field
  refine Sim.bind (Sim.underlying t) ?_
  rintro ρ1 h1 d _ ⟨rfl, -⟩
  cases d <;> first | exact Sim.stuck | skip
  rename_i fields
  dsimp only
  cases fields[f]? with
  | none => exact Sim.stuck
  | some fd =>
    dsimp only
    refine Sim.bind (Sim.asAgg (hv.mono h1)) ?_
    intro ρ2 h2 a b hab
    exact Sim.part _ hab _
theorem Sim.index (t : TypeId) {v v' x x' : Value} (hv : VRel ρ v v') (hx : VRel ρ x x') : Sim P ρ VRel (Instr.index t v x) (Instr.index t v' x') := by
  unfold Instr.index
  refine Sim.bind (Sim.asIntOf hx) ?_
  rintro ρ1 h1 ⟨k, i⟩ _ rfl
  dsimp only
  refine Sim.bind (Sim.underlying t) ?_
  rintro ρ2 h2 d _ ⟨rfl, -⟩
  have hv2 := (hv.mono h1).mono h2
  cases d <;> first | (dsimp only; exact Sim.stuck) | skip
  case string =>
    cases hv2 <;> first | (dsimp only; exact Sim.stuck) | skip
    dsimp only
    split
    · exact Sim.ret (.int _ _)
    · exact Sim.bounds
  case array n e =>
    cases hv2 <;> first | (dsimp only; exact Sim.stuck) | skip
    case agg h =>
    dsimp only
    split
    · refine Sim.bind (Sim.sizeOf e) ?_
      rintro ρ3 h3 m _ ⟨rfl, -⟩
      exact Sim.part _ (AsRel.mono h3 h) _
    · exact Sim.bounds
theorem Sim.extract {v v' : Value} (hv : VRel ρ v v') (i : Nat) : Sim P ρ VRel (Instr.extract v i) (Instr.extract v' i) := by
  unfold Instr.extract
  cases hv <;> first | exact Sim.stuck | skip
  case tuple h =>
  dsimp only
  split
  · rename_i v hv
    obtain ⟨v', h1, h2⟩ := AsRel.get h hv
    rw [h1]
    exact Sim.ret h2
  · exact Sim.stuck
theorem Sim.makeInterface (t : TypeId) {v v' : Value} (hv : VRel ρ v v') : Sim P ρ VRel (Instr.makeInterface t v) (Instr.makeInterface t v') := by
  unfold Instr.makeInterface
  refine Sim.bind (Sim.underlying t) ?_
  rintro ρ1 h1 d _ ⟨rfl, -⟩
  cases d <;> first | exact Sim.stuck | exact Sim.ret (.iface _ (hv.mono h1))
theorem Sim.makeFunc {f f' : Fn} (hf : FnR ρ f f') {a a' c c' : Array Value} (ha : AsRel ρ a a') (hc : AsRel ρ c c') : Sim P ρ VRel (Instr.makeFunc f a c) (Instr.makeFunc f' a' c') := by
  unfold Instr.makeFunc
  exact Sim.ret (.func hf ha hc)
theorem Sim.makeMap (t : TypeId) (r r' : Option Value) (hr : ∀ x, r = some x → ∃ y, r' = some y ∧ VRel ρ x y) (hn : r = none → r' = none) : Sim P ρ VRel (Instr.makeMap t r) (Instr.makeMap t r') := by
  have new : ∀ ρ' : Ren, Sim P ρ' VRel (do pure (.map (some (← newObj (.map #[] 0))))) (do pure (.map (some (← newObj (.map #[] 0))))) := fun ρ' => by
    refine Sim.bind (R := NumR) (Sim.new fun n b hn => ⟨⟨b, 0, 0⟩, rfl, .map .nil⟩) ?_
    rintro ρ2 hle r r' ⟨l, h1, rfl⟩
    exact Sim.ret (.map h1)
  unfold Instr.makeMap
  cases r with
  | none => rw [hn rfl]; exact new ρ
  | some x =>
    obtain ⟨y, rfl, hxy⟩ := hr x rfl
    dsimp only
    refine Sim.bind (Sim.underlying t) ?_
    rintro ρ1 h1 d _ ⟨rfl, -⟩
    cases d <;> first | exact Sim.stuck | skip
    dsimp only
    refine Sim.bind (Sim.asInt (hxy.mono h1)) ?_
    rintro ρ2 h2 n _ rfl
    exact new ρ2

def PsR (ρ : Ren) : List (Nat × Value) → List (Nat × Value) → Prop
  | [], [] => True
  | (i, v) :: l, (j, u) :: l' => i = j ∧ VRel ρ v u ∧ PsR ρ l l'
  | _, _ => False
theorem PsR.mono {ρ' : Ren} (hle : ρ.le ρ') : ∀ {l l' : List (Nat × Value)}, PsR ρ l l' → PsR ρ' l l'
  | [], [], _ => trivial
  | (_, _) :: _, (_, _) :: _, ⟨h1, h2, h3⟩ => ⟨h1, h2.mono hle, h3.mono hle⟩
  | [], _ :: _, h => h.elim
  | _ :: _, [], h => h.elim
theorem fold_rel : ∀ {l l' : List Value} (n : Nat) {c c' : Array Value} (off : Nat), VsRel ρ l l' → AsRel ρ c c' →
    AsRel ρ ((l.zipIdx n).foldl (fun cs (x : Value × Nat) => cs.setIfInBounds (off + x.2) x.1) c) ((l'.zipIdx n).foldl (fun cs (x : Value × Nat) => cs.setIfInBounds (off + x.2) x.1) c')
  | _, _, n, c, c', off, .nil, hc => by simpa using hc
  | _, _, n, c, c', off, .cons h hs, hc => by
    simp only [List.zipIdx_cons, List.foldl_cons]
    exact fold_rel (n + 1) off hs (hc.set _ h)
theorem fill_rel {place : Nat → Option (Nat × Nat)} : ∀ {l l' : List (Nat × Value)} {c c' : Array Value}, PsR ρ l l' → AsRel ρ c c' → ∀ {d}, Instr.fill place c l = some d → ∃ d', Instr.fill place c' l' = some d' ∧ AsRel ρ d d'
  | [], [], c, c', _, hc, d, h => by
    simp only [Instr.fill, Option.some.injEq] at h ⊢
    subst h
    exact ⟨_, rfl, hc⟩
  | (i, v) :: l, (j, u) :: l', c, c', ⟨h1, h2, h3⟩, hc, d, h => by
    subst h1
    unfold Instr.fill at h ⊢
    have hcells := h2.cells
    cases hp : place i with
    | none => rw [hp] at h; cases h
    | some x =>
      obtain ⟨off, size⟩ := x
      rw [hp] at h
      dsimp only at h ⊢
      rw [hcells.size, hc.size]
      split at h
      · cases h
      · rename_i hg
        rw [if_neg hg]
        refine fill_rel h3 ?_ h
        have := fold_rel 0 off hcells hc
        simpa only [Array.foldl_toList, ← Array.foldl_toList, Array.toList_zipIdx] using this
  | [], _ :: _, _, _, h, _, _, _ => h.elim
  | _ :: _, [], _, _, h, _, _, _ => h.elim

theorem Sim.mapM_same {α β : Type} (f : α → Sem β) (hf : ∀ (ρ : Ren) x, Sim P ρ (fun _ a b => a = b) (f x) (f x)) (a : Array α) : Sim P ρ (fun _ x y => x = y) (a.mapM f) (a.mapM f) := by
  rw [Array.mapM_eq_mapM_toList]
  suffices ∀ (l : List α) (ρ : Ren), Sim P ρ (fun _ x y => x = y) (l.mapM f) (l.mapM f) by
    refine Sim.bind (this _ _) ?_
    rintro ρ1 h1 x _ rfl
    exact Sim.ret rfl
  intro l
  induction l with
  | nil => intro ρ; simp only [List.mapM_nil]; exact Sim.ret rfl
  | cons x l ih =>
    intro ρ
    simp only [List.mapM_cons]
    refine Sim.bind (hf ρ x) ?_
    rintro ρ1 h1 y _ rfl
    refine Sim.bind (ih ρ1) ?_
    rintro ρ2 h2 y _ rfl
    exact Sim.ret rfl

theorem Sim.build (hz : ZerosOk P) (t : TypeId) {l l' : Array (Nat × Value)} (hl : PsR ρ l.toList l'.toList) : Sim P ρ VRel (Instr.build t l) (Instr.build t l') := by
  unfold Instr.build
  refine Sim.bind (Sim.zeroValue hz t) ?_
  rintro ρ1 h1 z _ ⟨rfl, hzz⟩
  dsimp only
  refine Sim.bind (Sim.underlying t) ?_
  rintro ρ2 h2 d _ ⟨rfl, -⟩
  have hl2 := (hl.mono h1).mono h2
  have hz2 := (hzz.mono h2).cells
  cases d <;> first | exact Sim.stuck | skip
  case array n e =>
    dsimp only
    refine Sim.bind (Sim.sizeOf e) ?_
    rintro ρ3 h3 m _ ⟨rfl, -⟩
    cases h : Instr.fill (fun i => some (i * m, m)) z.cells l.toList with
    | none => exact Sim.stuck
    | some d =>
      obtain ⟨d', h4, h5⟩ := fill_rel (hl2.mono h3) (hz2.mono h3) h
      rw [h4]
      exact Sim.ret (.agg h5)
  case struct fields =>
    dsimp only
    refine Sim.bind (Sim.mapM_same _ (fun ρ f => ?_) fields) ?_
    · refine Sim.bind (Sim.sizeOf f.type) ?_
      rintro ρ3 h3 m _ ⟨rfl, -⟩
      exact Sim.ret rfl
    · rintro ρ3 h3 pl _ rfl
      cases h : Instr.fill (fun x => pl[x]?) z.cells l.toList with
      | none => exact Sim.stuck
      | some d =>
        obtain ⟨d', h4, h5⟩ := fill_rel (hl2.mono h3) (hz2.mono h3) h
        rw [h4]
        exact Sim.ret (.agg h5)

theorem zeros_rel {z : Array Value} (hz : AsRel ρ z z) (n : Nat) : AsRel ρ ((Array.range n).map (fun x => z[x % z.size]!)) ((Array.range n).map (fun x => z[x % z.size]!)) := by
  refine AsRel.map (fun x => ?_) _
  by_cases hlt : x % z.size < z.size
  · obtain ⟨v', h1, h2⟩ := hz.get (i := x % z.size) (v := z[x % z.size]) (by simp [hlt])
    have : z[x % z.size]! = z[x % z.size] := by simp [hlt]
    rw [this]
    have h3 : v' = z[x % z.size] := by simpa [hlt] using h1.symm
    exact h3 ▸ h2
  · have : z[x % z.size]! = default := by simp [hlt]
    rw [this]
    exact .bool _

/-- A slice's capacity is one that is known. -/
def okCap : Value → Bool
  | .slice _ _ c => decide (c < BIG)
  | _ => true
def CapR (ρ : Ren) (a b : Value) : Prop := okCap a = true → VRel ρ a b
theorem AR.sliceX {a a' : Addr} (h : AR ρ a a') (n c : Nat) : CapR ρ (.slice (some a) n c) (.slice (some a') n c) := by
  obtain ⟨l, h1, rfl⟩ := h
  obtain ⟨r, o, s⟩ := a
  intro hc
  exact .sliceX _ _ h1 (by simpa [okCap] using hc)

theorem Sim.buildSlice (hz : ZerosOk P) (t : TypeId) (n : Nat) {l l' : Array (Nat × Value)} (hl : PsR ρ l.toList l'.toList) : Sim P ρ CapR (Instr.buildSlice t n l) (Instr.buildSlice t n l') := by
  unfold Instr.buildSlice
  refine Sim.bind (Sim.underlying t) ?_
  rintro ρ1 h1 d _ ⟨rfl, -⟩
  cases d <;> first | exact Sim.stuck | skip
  rename_i e
  dsimp only
  refine Sim.bind (Sim.sizeOf e) ?_
  rintro ρ2 h2 m _ ⟨rfl, -⟩
  split
  · exact (Dead.bind Dead.halt).sim
  · have rest : ∀ (ρ3 : Ren) (hle : ρ.le ρ3) (z : Array Value), AsRel ρ3 z z → Sim P ρ3 CapR
        (match Instr.fill (fun i => some (i * m, m)) ((Array.range (n * m)).map (fun x => z[x % z.size]!)) l.toList with
         | some cells => do pure (.slice (some (← Go.newRow e cells)) n n)
         | _ => Go.stuck "buildSlice: a part of the wrong size")
        (match Instr.fill (fun i => some (i * m, m)) ((Array.range (n * m)).map (fun x => z[x % z.size]!)) l'.toList with
         | some cells => do pure (.slice (some (← Go.newRow e cells)) n n)
         | _ => Go.stuck "buildSlice: a part of the wrong size") := by
      intro ρ3 hle z hzz
      cases h : Instr.fill (fun i => some (i * m, m)) ((Array.range (n * m)).map (fun x => z[x % z.size]!)) l.toList with
      | none => exact Sim.stuck
      | some d =>
        obtain ⟨d', h4, h5⟩ := fill_rel (hl.mono hle) (zeros_rel hzz _) h
        rw [h4]
        refine Sim.bind (Sim.newRow e h5) ?_
        intro ρ4 h6 a b hab
        exact Sim.ret (hab.sliceX _ _)
    split
    · exact rest ρ2 (h1.trans h2) #[] (AsRel.nil _)
    · refine Sim.bind (Sim.zeroValue hz e) ?_
      rintro ρ3 h3 z _ ⟨rfl, hzz⟩
      exact rest ρ3 ((h1.trans h2).trans h3) z.cells hzz.cells

theorem Sim.askRoom (n : Nat) : Sim P ρ (fun _ _ _ => True) (Go.askRoom n) (Go.askRoom n) := by
  unfold Go.askRoom
  split
  · exact Sim.mark
  · exact Sim.ret trivial

theorem Sim.makeSlice (hz : ZerosOk P) (t : TypeId) {n n' c c' : Value} (hn : VRel ρ n n') (hc : VRel ρ c c') : Sim P ρ CapR (Instr.makeSlice t n c) (Instr.makeSlice t n' c') := by
  unfold Instr.makeSlice
  refine Sim.bind (Sim.underlying t) ?_
  rintro ρ1 h1 d _ ⟨rfl, -⟩
  cases d <;> first | exact Sim.stuck | skip
  rename_i e
  dsimp only
  refine Sim.bind (Sim.asInt (hn.mono h1)) ?_
  rintro ρ2 h2 n _ rfl
  refine Sim.bind (Sim.asInt ((hc.mono h1).mono h2)) ?_
  rintro ρ3 h3 c _ rfl
  refine Sim.bind (Sim.typeInfo e) ?_
  rintro ρ4 h4 i _ ⟨rfl, -⟩
  split
  · refine Dead.sim ?_
    (repeat' split) <;> first | exact Dead.bind Dead.panics | exact Dead.then fun _ => Dead.bind Dead.panics | exact Dead.panics | exact Dead.then fun _ => Dead.panics
  · refine Sim.bind (Sim.askRoom _) ?_
    rintro ρ5 h5 _ _ -
    refine Sim.bind (Sim.sizeOf e) ?_
    rintro ρ6 h6 m _ ⟨rfl, -⟩
    have rest : ∀ (ρ7 : Ren) (z : Array Value), AsRel ρ7 z z → Sim P ρ7 CapR
        (do let a ← Go.newRow e ((Array.range ((IntKind.i64.wrap c).toNat * m)).map (fun x => z[x % z.size]!)); pure (.slice (some a) (IntKind.i64.wrap n).toNat (IntKind.i64.wrap c).toNat))
        (do let a ← Go.newRow e ((Array.range ((IntKind.i64.wrap c).toNat * m)).map (fun x => z[x % z.size]!)); pure (.slice (some a) (IntKind.i64.wrap n).toNat (IntKind.i64.wrap c).toNat)) := by
      intro ρ7 z hzz
      refine Sim.bind (Sim.newRow e (zeros_rel hzz _)) ?_
      intro ρ8 h8 a b hab
      exact Sim.ret (hab.sliceX _ _)
    split
    · exact rest ρ6 #[] (AsRel.nil _)
    · refine Sim.bind (Sim.zeroValue hz e) ?_
      rintro ρ7 h7 z _ ⟨rfl, hzz⟩
      exact rest ρ7 z.cells hzz.cells

end
end Go.Proofs.YtlnhacbdbhmgkaaGreatDoor
