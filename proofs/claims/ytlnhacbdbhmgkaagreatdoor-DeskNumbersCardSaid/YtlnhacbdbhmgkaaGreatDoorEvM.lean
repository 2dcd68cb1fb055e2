/- A region that draws its order, by calculation: whatever order is drawn, it comes to the same. -/
import Derived.Test.YtlnhacbdbhmgkaaGreatDoorEvL
namespace Go.Proofs.YtlnhacbdbhmgkaaGreatDoor

/-! How many are not listed. -/
def unlisted (ops : Array Oper) (listed : Array Bool) : Nat := ((List.range ops.size).filter fun i => !listed.getD i true).length
theorem filter_le {p q : Nat → Bool} (h : ∀ x, q x = true → p x = true) : ∀ l : List Nat, (l.filter q).length ≤ (l.filter p).length
  | [] => Nat.le_refl _
  | x :: l => by
    have ih := filter_le h l
    rw [List.filter_cons, List.filter_cons]
    cases hq : q x <;> cases hp : p x <;> simp <;> first | omega | (have := h x hq; rw [hp] at this; cases this)
theorem filter_lt {p q : Nat → Bool} (h : ∀ x, q x = true → p x = true) {y : Nat} (hp : p y = true) (hq : q y = false) : ∀ {l : List Nat}, y ∈ l → (l.filter q).length < (l.filter p).length
  | [], hy => by cases hy
  | x :: l, hy => by
    have ih := filter_le h l
    by_cases e : x = y
    · subst e
      rw [List.filter_cons, List.filter_cons, hp, hq]
      simp
      omega
    · have hy' : y ∈ l := by
        rcases List.mem_cons.1 hy with e' | h'
        · exact absurd e'.symm e
        · exact h'
      have ih := filter_lt h hp hq hy'
      rw [List.filter_cons, List.filter_cons]
      cases hq : q x <;> cases hp : p x <;> simp <;> first | omega | (have := h x hq; rw [hp] at this; cases this)
theorem getD_false {listed : Array Bool} {i : Nat} (h : listed.getD i true = false) : i < listed.size ∧ listed.getD i false = false := by
  rcases Nat.lt_or_ge i listed.size with hl | hl
  · refine ⟨hl, ?_⟩
    simp [hl] at h ⊢
    exact h
  · simp [Array.getElem?_eq_none hl] at h
theorem getD_true {listed : Array Bool} {i : Nat} (h : i < listed.size) (k : listed.getD i true = true) : listed.getD i false = true := by
  simp [h] at k ⊢
  exact k
theorem getD_true' {listed : Array Bool} {i : Nat} (k : listed.getD i false = true) : i < listed.size := by
  rcases Nat.lt_or_ge i listed.size with hl | hl
  · exact hl
  · simp [Array.getElem?_eq_none hl] at k
theorem getD_set_self {listed : Array Bool} {i : Nat} (h : i < listed.size) (d : Bool) : (listed.setIfInBounds i true).getD i d = true := by simp [h]
theorem unlisted_lt {ops : Array Oper} {listed : Array Bool} {i : Nat} (h : i < ops.size) (hi : listed.getD i true = false) : unlisted ops (listed.setIfInBounds i true) < unlisted ops listed := by
  refine filter_lt (y := i) (fun x hx => ?_) (by rw [hi]; rfl) (by rw [getD_set_self (getD_false hi).1]; rfl) (List.mem_range.2 h)
  simp only [Bool.not_eq_true'] at hx ⊢
  by_cases e : i = x
  · subst e; exact hi
  · rwa [getD_set_ne true e] at hx

/-- The checks are passed. -/
structure Good (P : Program) (ops : Array Oper) (ms : List Nat) (a af : Fra) (σ0 σf : AS) (rs : List Rec) (fs : List Flt) : Prop where
  text : textOk ops ms = true
  mspec : ∀ i j, bit ms i j = true → ∃ o, ops[i]? = some o ∧ ∃ d ∈ deps o, j = d ∨ bit ms d j = true
  chk : ∀ i o, ops[i]? = some o → opChk P ops ms a af σf rs fs (rs.map (·.i)) i o = true
  pairs : pairsOk ms (rs.map (·.i)) = true
  recs : ∀ r ∈ rs, recChk ops ms a af fs r = true
  fnodup : nodup (fs.map (·.r)) = true
  fge : ∀ f ∈ fs, σ0.next ≤ f.r
  size : af.n = a.n
  rest : ∀ t, t ∉ dsts ops → af.slot t = a.slot t
  out : ∀ t, af.n ≤ t → af.slot t = undef

/-- Between two operations, whatever is listed. -/
structure Inv (P : Program) (call : Caller) (ops : Array Oper) (a af : Fra) (σ0 σf : AS) (rs : List Rec) (fs : List Flt) (ρ0 : Ren) (w0 : World)
    (listed : Array Bool) (ρ : Ren) (a' : Act) (w : World) (done todo : List Rec) : Prop where
  size : listed.size = ops.size
  closed : ∀ i o, ops[i]? = some o → listed.getD i false = true → ∀ d ∈ deps o, listed.getD d false = true
  split : rs = done ++ todo
  old : ∀ r ∈ done, listed.getD r.i false = true
  new : ∀ r ∈ todo, listed.getD r.i false = false
  chain : Chain P call ops a.n af.defers σf todo
  rel : WRel P ρ (cur σf todo) w
  defs : DsR ρ (curD af.defers todo) a'.defers
  fr : Fr σ0.next (cur σf todo).next ρ0 w0 ρ w
  tsize : a'.tmps.size = a.n
  small : a.n ≤ 4294967296
  s1 : ∀ j p t, ops[j]? = some p → p.dst = some t → listed.getD j false = true → VRel ρ (af.slot t) (a'.tmps.getD t undef)
  s2 : ∀ t, (∀ j p, ops[j]? = some p → p.dst = some t → listed.getD j false = false) → VRel ρ (a.slot t) (a'.tmps.getD t undef)
  flt : ∀ f ∈ fs, listed.getD f.i false = false → ρ f.r = none

theorem flt_uniq : ∀ {fs : List Flt}, nodup (fs.map (·.r)) = true → ∀ f ∈ fs, ∀ g ∈ fs, f.r = g.r → f = g
  | [], _, f, hf, _, _, _ => by cases hf
  | x :: fs, h, f, hf, g, hg, e => by
    simp only [List.map_cons, nodup, Bool.and_eq_true, Bool.not_eq_true', List.contains_eq_mem, decide_eq_false_iff_not] at h
    have hm : ∀ y ∈ fs, x.r ≠ y.r := fun y hy e => h.1 (List.mem_map.2 ⟨y, hy, e.symm⟩)
    rcases List.mem_cons.1 hf with hf | hf
    · rcases List.mem_cons.1 hg with hg | hg
      · rw [hf, hg]
      · exact absurd (hf ▸ e) (hm _ hg)
    · rcases List.mem_cons.1 hg with hg | hg
      · exact absurd (hg ▸ e.symm) (hm _ hf)
      · exact flt_uniq h.2 f hf g hg e

section
variable {P : Program} {call : Caller} {ops : Array Oper} {ms : List Nat} {a af : Fra} {σ0 σf : AS} {rs : List Rec} {fs : List Flt} {ρ0 : Ren} {w0 : World}

theorem Good.text_at (hg : Good P ops ms a af σ0 σf rs fs) {i : Nat} {o : Oper} (ho : ops[i]? = some o) : (∀ d ∈ deps o, d < i) ∧ readsOk ops ms (dsts ops) i o = true ∧ guardOk ops ms i o = true := by
  have h := hg.text
  unfold textOk at h
  simp only [Bool.and_eq_true] at h
  simpa using textsOk_spec _ 0 h.2 i o (by simpa using ho)
theorem Good.uniq (hg : Good P ops ms a af σ0 σf rs fs) {i j : Nat} {o p : Oper} {t : Nat} (ho : ops[i]? = some o) (hp : ops[j]? = some p) (h1 : o.dst = some t) (h2 : p.dst = some t) : i = j := by
  have h := hg.text
  unfold textOk at h
  simp only [Bool.and_eq_true] at h
  have hn := nodup_spec h.1
  unfold dsts at hn
  rw [List.Nodup, List.pairwise_filterMap, List.pairwise_iff_getElem] at hn
  obtain ⟨hi, ei⟩ := Array.getElem?_eq_some_iff.1 ho
  obtain ⟨hj, ej⟩ := Array.getElem?_eq_some_iff.1 hp
  rcases Nat.lt_trichotomy i j with hlt | he | hlt
  · exact absurd rfl (hn i j (by simpa using hi) (by simpa using hj) hlt t (by simpa [ei] using h1) t (by simpa [ej] using h2))
  · exact he
  · exact absurd rfl (hn j i (by simpa using hj) (by simpa using hi) hlt t (by simpa [ej] using h2) t (by simpa [ei] using h1))

variable {listed : Array Bool} {ρ : Ren} {a' : Act} {w : World} {done todo : List Rec}

theorem Inv.down (hg : Good P ops ms a af σ0 σf rs fs) (h : Inv P call ops a af σ0 σf rs fs ρ0 w0 listed ρ a' w done todo) : ∀ (i : Nat), listed.getD i false = true → ∀ j, bit ms i j = true → listed.getD j false = true := by
  intro i
  induction i using Nat.strongRecOn with
  | _ i ih =>
    intro hi j hb
    obtain ⟨o, ho, d, hd, h1⟩ := hg.mspec i j hb
    have hld := h.closed i o ho hi d hd
    rcases h1 with rfl | h1
    · exact hld
    · exact ih d ((hg.text_at ho).1 d hd) hld j h1

theorem later_spec {ops : Array Oper} {ms : List Nat} {i t : Nat} : t ∈ laterOf ops ms i ↔ ∃ j p, ops[j]? = some p ∧ bit ms j i = true ∧ p.dst = some t := by
  unfold laterOf
  rw [List.mem_filterMap]
  constructor
  · rintro ⟨⟨p, j⟩, hm, h⟩
    dsimp only at h
    split at h
    · rename_i hb
      have := List.mem_zipIdx_iff_getElem?.1 hm
      exact ⟨j, p, by simpa using this, hb, h⟩
    · cases h
  · rintro ⟨j, p, hp, hb, h⟩
    exact ⟨(p, j), List.mem_zipIdx_iff_getElem?.2 (by simpa using hp), by simp [hb, h]⟩

/-- What an operation that is ready reads. -/
theorem Inv.reads (hg : Good P ops ms a af σ0 σf rs fs) (h : Inv P call ops a af σ0 σf rs fs ρ0 w0 listed ρ a' w done todo) {i : Nat} {o : Oper} (ho : ops[i]? = some o) (hun : listed.getD i false = false)
    (hdown : ∀ j, bit ms i j = true → listed.getD j false = true) {t : Nat} (ht : t ∈ o.looksAt ops) : VRel ρ (slotOf a af (laterOf ops ms i) t) (a'.tmps.getD t undef) := by
  have hr := (hg.text_at ho).2.1
  unfold readsOk at hr
  have hr := List.all_eq_true.1 hr t ht
  unfold slotOf
  by_cases hl : t ∈ laterOf ops ms i
  · rw [if_pos (by simpa using hl)]
    obtain ⟨j, p, hp, hb, hd⟩ := later_spec.1 hl
    refine h.s2 t fun k q hq hqd => ?_
    obtain rfl := hg.uniq hq hp hqd hd
    cases hk : listed.getD k false with
    | false => rfl
    | true => rw [h.down hg k hk i hb] at hun; cases hun
  · rw [if_neg (by simpa using hl)]
    simp only [Bool.or_eq_true, Bool.not_eq_true', List.contains_eq_mem, decide_eq_false_iff_not] at hr
    rcases hr with hr | hr
    · have := h.s2 t fun k q hq hqd => absurd (dst_in hq hqd) hr
      rw [hg.rest t hr]
      exact this
    · obtain ⟨⟨p, j⟩, hm, hq⟩ := List.any_eq_true.1 hr
      have hp : ops[j]? = some p := by simpa using List.mem_zipIdx_iff_getElem?.1 hm
      simp only [Bool.and_eq_true, Bool.or_eq_true, beq_iff_eq] at hq
      rcases hq.2 with hb | hb
      · exact h.s1 j p t hp hq.1 (hdown j hb)
      · exact absurd (later_spec.2 ⟨j, p, hp, hb, hq.1⟩) hl

theorem ops_looks {o : Oper} {t : Nat} (h : Operand.tmp t ∈ o.op.operands) : t ∈ o.looksAt ops :=
  List.mem_append_left _ (List.mem_filterMap.2 ⟨.tmp t, by simpa using h, rfl⟩)
theorem guard_looks {o : Oper} {g : Nat} {want : Bool} {t : Nat} (hg : o.guard = some (g, want)) (ht : (ops[g]?).bind (·.dst) = some t) : t ∈ o.looksAt ops := by
  unfold Oper.looksAt
  rw [hg]
  exact List.mem_append_right _ (by simp [ht])

theorem Inv.stands (hg : Good P ops ms a af σ0 σf rs fs) (h : Inv P call ops a af σ0 σf rs fs ρ0 w0 listed ρ a' w done todo) {i : Nat} (hun : listed.getD i false = false)
    (hdown : ∀ j, bit ms i j = true → listed.getD j false = true) : mayStand ms i (done.map (·.i)) (todo.map (·.i)) = true := by
  unfold mayStand
  simp only [Bool.and_eq_true, List.all_eq_true, Bool.not_eq_true']
  constructor
  · intro c hc
    obtain ⟨r, hr, rfl⟩ := List.mem_map.1 hc
    cases hb : bit ms r.i i with
    | false => rfl
    | true => rw [h.down hg _ (h.old r hr) i hb] at hun; cases hun
  · intro c hc
    obtain ⟨r, hr, rfl⟩ := List.mem_map.1 hc
    cases hb : bit ms i r.i with
    | false => rfl
    | true => have := hdown _ hb; rw [h.new r hr] at this; cases this

/-- The slots behind an operation. -/
theorem Inv.slots (h : Inv P call ops a af σ0 σf rs fs ρ0 w0 listed ρ a' w done todo) {i : Nat} {o : Oper} (ho : ops[i]? = some o) (hi : i < listed.size)
    {ρ' : Ren} (hle : ρ.le ρ') {a1 : Act} (hoth : ∀ t, o.dst ≠ some t → a1.tmps.getD t undef = a'.tmps.getD t undef) (hval : ∀ t, o.dst = some t → VRel ρ' (af.slot t) (a1.tmps.getD t undef)) :
    (∀ j p t, ops[j]? = some p → p.dst = some t → (listed.setIfInBounds i true).getD j false = true → VRel ρ' (af.slot t) (a1.tmps.getD t undef)) ∧
    (∀ t, (∀ j p, ops[j]? = some p → p.dst = some t → (listed.setIfInBounds i true).getD j false = false) → VRel ρ' (a.slot t) (a1.tmps.getD t undef)) := by
  constructor
  · intro j p t hp hd hj
    by_cases hod : o.dst = some t
    · exact hval t hod
    · rw [hoth t hod]
      have hji : i ≠ j := fun e => by subst e; rw [ho] at hp; cases hp; exact hod hd
      rw [getD_set_ne false hji] at hj
      exact (h.s1 j p t hp hd hj).mono hle
  · intro t hall
    have hod : o.dst ≠ some t := fun e => by
      have := hall i o ho e
      rw [getD_set_self hi] at this
      cases this
    rw [hoth t hod]
    refine (h.s2 t fun j p hp hd => ?_).mono hle
    have := hall j p hp hd
    by_cases hji : i = j
    · subst hji; rw [getD_set_self hi] at this; cases this
    · rwa [getD_set_ne false hji] at this

theorem Inv.closed' (h : Inv P call ops a af σ0 σf rs fs ρ0 w0 listed ρ a' w done todo) {i : Nat} {o : Oper} (ho : ops[i]? = some o) (hdeps : ∀ d ∈ deps o, listed.getD d false = true) :
    ∀ j p, ops[j]? = some p → (listed.setIfInBounds i true).getD j false = true → ∀ d ∈ deps p, (listed.setIfInBounds i true).getD d false = true := by
  intro j p hp hj d hd
  by_cases e : i = j
  · subst e
    rw [ho] at hp
    cases hp
    exact getD_set_true (hdeps d hd)
  · rw [getD_set_ne false e] at hj
    exact getD_set_true (h.closed j p hp hj d hd)

theorem put_slot {b : Act} {d : Nat} {v : Value} {ρ' : Ren} {x : Value} (hx : b.tmps.size ≤ d → x = undef) (h : d < b.tmps.size → VRel ρ' x v) : VRel ρ' x ((b.put (some d) v).tmps.getD d undef) := by
  rcases Nat.lt_or_ge d b.tmps.size with hl | hl
  · rw [put_self b v hl]
    exact h hl
  · rw [getD_out (by rw [put_size]; exact hl), hx hl]
    exact undef_rel _

theorem evOf_rel {σ : AS} (hw : WRel P ρ σ w) {later : List Nat} {o : Oper} (henv : o.op.operands.all envOk = true) (hr : ∀ t ∈ o.looksAt ops, VRel ρ (slotOf a af later t) (a'.tmps.getD t undef)) :
    ∀ x ∈ o.op.operands, VRel ρ (evOf a af later x) (a'.eval x) := by
  intro x hx
  have he := Array.all_eq_true_iff_forall_mem.1 henv x hx
  cases x with
  | tmp t => exact hr t (ops_looks hx)
  | const v => exact eval_rel hw he (a := af) (a' := a') fun t e => by cases e
  | global g => exact eval_rel hw he (a := af) (a' := a') fun t e => by cases e
  | func f => exact eval_rel hw he (a := af) (a' := a') fun t e => by cases e

theorem Inv.step (hz : ZerosOk P) (hcall : CallOk P call) (hg : Good P ops ms a af σ0 σf rs fs) (h : Inv P call ops a af σ0 σf rs fs ρ0 w0 listed ρ a' w done todo) {i : Nat} (hi : i ∈ Region.ready .any ops listed)
    {K : Act → World → Prop} {Q : Exit → Act → World → Prop} (hK : ∀ ρ' a1 w1 done' todo', Inv P call ops a af σ0 σf rs fs ρ0 w0 (listed.setIfInBounds i true) ρ' a1 w1 done' todo' → K a1 w1) : wpOp P ops Q i K a' w := by
  obtain ⟨hun1, o, ho, hall⟩ := mem_ready.1 hi
  obtain ⟨hilt, hun⟩ := getD_false hun1
  have hdeps : ∀ d ∈ deps o, listed.getD d false = true := fun d hd => by
    obtain ⟨e, he, rfl⟩ := List.mem_map.1 hd
    have := List.mem_filter.1 he
    exact hall e (by simpa using this.1) this.2
  have hdown : ∀ j, bit ms i j = true → listed.getD j false = true := fun j hb => by
    obtain ⟨p, hp, d, hd, h1⟩ := hg.mspec i j hb
    rw [ho] at hp
    cases hp
    rcases h1 with rfl | h1
    · exact hdeps _ hd
    · exact h.down hg d (hdeps d hd) j h1
  have hreads : ∀ t ∈ o.looksAt ops, VRel ρ (slotOf a af (laterOf ops ms i) t) (a'.tmps.getD t undef) := fun t ht => h.reads hg ho hun hdown ht
  have hstands := h.stands hg hun hdown
  have hchk := hg.chk i o ho
  have hset : ∀ {j}, (listed.setIfInBounds i true).getD j false = false → listed.getD j false = false := fun {j} hj => by
    by_cases e : i = j
    · subst e; exact hun
    · rwa [getD_set_ne false e] at hj
  have hafout : ∀ {d : Nat}, a'.tmps.size ≤ d → af.slot d = undef := fun {d} hd => hg.out d (by rw [hg.size, ← h.tsize]; exact hd)
  unfold wpOp
  simp only [ho]
  unfold opChk at hchk
  by_cases hcs : (rs.map (·.i)).contains i = true
  · -- it acts
    obtain ⟨r, hr, hri⟩ := List.mem_map.1 (by simpa using hcs : i ∈ rs.map (·.i))
    subst hri
    have hrt : r ∈ todo := by
      rw [h.split] at hr
      rcases List.mem_append.1 hr with hr | hr
      · rw [h.old r hr] at hun; cases hun
      · exact hr
    have hpairs := hg.pairs
    rw [h.split, List.map_append] at hpairs
    have hpairs := pairsOk_spec hpairs
    cases todo with
    | nil => cases hrt
    | cons r0 tl =>
    simp only [List.map_cons, pairsOk, Bool.and_eq_true, List.all_eq_true] at hpairs
    have hr0 : r = r0 := by
      rcases List.mem_cons.1 hrt with e | hr
      · exact e
      · have := hdown _ (hpairs.1 r.i (List.mem_map.2 ⟨r, hr, rfl⟩))
        rw [h.new r0 (by simp)] at this
        cases this
    subst hr0
    cases h.chain with
    | cons ho' hw' hs' hn' hgr hd' ht' =>
    rw [ho] at ho'
    cases ho'
    have hrec := hg.recs r hr
    unfold recChk at hrec
    rw [ho] at hrec
    simp only [Bool.and_eq_true, List.all_eq_true, Bool.or_eq_true, decide_eq_true_eq] at hrec
    obtain ⟨⟨hrec1, hrec2⟩, hrec3⟩ := hrec
    have hev : ∀ t ∈ o.looksAt ops, VRel ρ (r.b.slot t) (a'.tmps.getD t undef) := fun t ht => by
      rw [same_eq _ _ (hrec1 t ht)]
      exact hreads t ht
    have hwant : Region.wanted o (yielded ops a'.tmps) = true := (wanted_guard fun g want t hgo ht => hev t (guard_looks hgo ht)).trans hw'
    rw [if_pos hwant]
    refine .inl (stepIn_sound hz hcall hs' h.rel (fun t ht => hev t (ops_looks ht)) fun ρ' w' a1 hw1 hf1 hl => ?_)
    have hle := hf1.le
    have hsl : (∀ t, o.dst ≠ some t → a1.tmps.getD t undef = a'.tmps.getD t undef) ∧ (∀ t, o.dst = some t → VRel ρ' (af.slot t) (a1.tmps.getD t undef)) ∧ a1.tmps.size = a'.tmps.size ∧ DsR ρ' r.b1.defers a1.defers := by
      cases hl with
      | @value v v' hb ha hv =>
        subst ha
        refine ⟨fun t ht => put_other _ _ ht, fun t ht => ?_, put_size _ _ _, ?_⟩
        · rw [ht] at hrec2 ⊢
          rw [ht] at hb
          have h1 := Fra.slot_put r.b (by rw [hn']; exact h.small) t v t
          rw [← hb, ← same_eq _ _ hrec2] at h1
          refine put_slot hafout fun hlt => ?_
          rw [if_pos ⟨rfl, by rw [hn', ← h.tsize]; exact hlt⟩] at h1
          rw [h1]
          exact hv
        · rw [hb, Fra.put_defers, put_defers]
          exact h.defs.mono hle
      | @defer df df' hb ha hv =>
        subst ha
        refine ⟨fun t ht => put_other _ _ ht, fun t ht => ?_, put_size _ _ _, ?_⟩
        · rw [ht] at hrec2 ⊢
          rw [ht] at hb
          have h1 := Fra.slot_put (r.b.defer df) (by show r.b.n ≤ _; rw [hn']; exact h.small) t undef t
          rw [← hb, ← same_eq _ _ hrec2] at h1
          refine put_slot hafout fun hlt => ?_
          rw [if_pos ⟨rfl, by show t < r.b.n; rw [hn', ← h.tsize]; exact hlt⟩] at h1
          rw [h1]
          exact undef_rel _
        · rw [hb, Fra.put_defers, put_defers]
          exact .cons hv (h.defs.mono hle)
    obtain ⟨k1, k2, k3, k4⟩ := hsl
    obtain ⟨s1, s2⟩ := h.slots ho hilt hle k1 k2
    refine hK ρ' a1 w' (done ++ [r]) tl ⟨by simpa using h.size, h.closed' ho hdeps, by rw [h.split]; simp, fun r' hr' => ?_, fun r' hr' => ?_, ht', hw1.grown hgr, by rw [← hd']; exact k4, (h.fr.trans hf1).upto hgr.up, k3.trans h.tsize, h.small, s1, s2, fun f hf hfu => ?_⟩
    · rcases List.mem_append.1 hr' with hr' | hr'
      · exact getD_set_true (h.old r' hr')
      · obtain rfl : r' = r := by simpa using hr'
        exact getD_set_self hilt _
    · have hb := hpairs.1 r'.i (List.mem_map.2 ⟨r', hr', rfl⟩)
      have hne : r.i ≠ r'.i := fun e => by
        rw [← e] at hb
        rw [hdown _ hb] at hun
        cases hun
      rw [getD_set_ne false hne]
      exact h.new r' (by simp [hr'])
    · have h0 := h.flt f hf (hset hfu)
      cases hx : ρ' f.r with
      | none => rfl
      | some l =>
        have h1 := hf1.names _ _ h0 hx
        have h2 := hw1.dom _ _ hx
        have h3 := hrec3 f hf
        omega
  · rw [if_neg hcs] at hchk
    by_cases hfl : isFl o = true
    · -- it makes a variable
      rw [if_pos hfl] at hchk
      unfold fltChk at hchk
      split at hchk
      case h_2 => cases hchk
      rename_i f ob k hfind hfo
      rw [Bool.and_eq_true] at hchk
      obtain ⟨hsame, hev⟩ := hchk
      rw [h.split] at hev
      have hat := every_spec done hev
      unfold fltAt at hat
      rw [List.nil_append, if_pos hstands] at hat
      simp only [Bool.and_eq_true, decide_eq_true_eq] at hat
      obtain ⟨⟨hlt, henv⟩, hobj⟩ := hat
      split at hobj
      case h_2 => cases hobj
      rename_i ob2 hget
      obtain rfl := sameObj_eq hobj
      have hfm : f ∈ fs := List.mem_of_find?_eq_some hfind
      have hfi : f.i = i := by simpa using List.find?_some hfind
      have hguard : o.guard = none := by
        unfold isFl at hfl
        split at hfl <;> first | assumption | cases hfl
      have hwant : Region.wanted o (yielded ops a'.tmps) = true := by simp [Region.wanted, hguard]
      rw [if_pos hwant]
      have h0 := h.flt f hfm (hfi ▸ hun)
      obtain ⟨hok, ob', lim, sz, hrun, horel⟩ := float_run hz (evOf_rel h.rel henv hreads) hfo
      refine .inl ?_
      unfold Oper.wp
      rw [hrun w]
      simp only [Oper.upon]
      have hle := Ren.le_more (l := ⟨w.heap.size, lim, sz⟩) h0
      have hmore : (ρ.more f.r ⟨w.heap.size, lim, sz⟩) f.r = some ⟨w.heap.size, lim, sz⟩ := by simp [Ren.more]
      have hval : ∀ t, o.dst = some t → VRel (ρ.more f.r ⟨w.heap.size, lim, sz⟩) (af.slot t) ((a'.put o.dst (mkOf k w.heap.size)).tmps.getD t undef) := fun t ht => by
        rw [ht] at hsame ⊢
        refine put_slot hafout fun _ => ?_
        rw [same_eq _ _ hsame]
        exact mkOf_rel hok hmore
      obtain ⟨s1, s2⟩ := h.slots ho hilt hle (fun t ht => put_other a' (mkOf k w.heap.size) ht) hval
      refine hK _ _ _ done todo ⟨by simpa using h.size, h.closed' ho hdeps, h.split, fun r hr => getD_set_true (h.old r hr), fun r hr => ?_, h.chain,
        h.rel.float h0 hlt hget ((horel _).mono hle) rfl rfl, by rw [put_defers]; exact h.defs.mono hle, h.fr.float h0 (hg.fge f hfm) rfl rfl rfl rfl rfl, (put_size _ _ _).trans h.tsize, h.small, s1, s2, fun g hgm hgu => ?_⟩
      · have hne : i ≠ r.i := fun e => hcs (by
          rw [h.split]
          simp only [List.map_append, List.contains_eq_mem, List.mem_append, decide_eq_true_eq]
          exact .inr (List.mem_map.2 ⟨r, hr, e.symm⟩))
        rw [getD_set_ne false hne]
        exact h.new r hr
      · have hg0 := h.flt g hgm (hset hgu)
        unfold Ren.more
        rw [if_neg fun e => ?_]
        · exact hg0
        · obtain rfl := flt_uniq hg.fnodup g hgm f hfm e
          rw [hfi, getD_set_self hilt] at hgu
          cases hgu
    · -- it looks
      rw [if_neg hfl, h.split] at hchk
      have hat := every_spec done hchk
      unfold lookChk at hat
      rw [List.nil_append, if_pos hstands] at hat
      have hnew : ∀ r ∈ todo, (listed.setIfInBounds i true).getD r.i false = false := fun r hr => by
        have hne : i ≠ r.i := fun e => hcs (by
          rw [h.split]
          simp only [List.map_append, List.contains_eq_mem, List.mem_append, decide_eq_true_eq]
          exact .inr (List.mem_map.2 ⟨r, hr, e.symm⟩))
        rw [getD_set_ne false hne]
        exact h.new r hr
      have hwant : Region.wanted o (yielded ops a'.tmps) = Region.wanted o (yieldedF ops af) := by
        refine wanted_guard (ρ := ρ) fun g want t hgo ht => ?_
        have h1 := hreads t (guard_looks hgo ht)
        have h2 := (hg.text_at ho).2.2
        unfold guardOk at h2
        simp only [hgo, ht, Bool.not_eq_true'] at h2
        unfold slotOf at h1
        rw [if_neg (by rw [h2]; simp)] at h1
        exact h1
      rw [hwant]
      split at hat
      · rename_i hw1
        rw [if_pos hw1]
        simp only [Bool.and_eq_true] at hat
        obtain ⟨henv, hat⟩ := hat
        split at hat
        case h_2 => cases hat
        rename_i v σ1 hs
        rw [stepK_eq] at hs
        simp only [Bool.and_eq_true, beq_iff_eq] at hat
        obtain ⟨hver, hsame⟩ := hat
        have e := (stepOp_since hs).2 hver
        subst e
        obtain ⟨ρ', n', w', hr, hw', hf, hn⟩ := stepOp_sound hz o (evOf_rel h.rel henv hreads) h.rel hs
        refine .inl ?_
        unfold Oper.wp
        rw [hr]
        cases hn with
        | value hv =>
        simp only [Oper.upon]
        have hval : ∀ t, o.dst = some t → VRel ρ' (af.slot t) ((a'.put o.dst _).tmps.getD t undef) := fun t ht => by
          rw [ht] at hsame ⊢
          refine put_slot hafout fun _ => ?_
          rw [same_eq _ _ hsame]
          exact hv
        obtain ⟨s1, s2⟩ := h.slots ho hilt hf.le (fun t ht => put_other a' _ ht) hval
        refine hK _ _ _ done todo ⟨by simpa using h.size, h.closed' ho hdeps, h.split, fun r hr => getD_set_true (h.old r hr), hnew, h.chain,
          hw', by rw [put_defers]; exact h.defs.mono hf.le, h.fr.trans hf, (put_size _ _ _).trans h.tsize, h.small, s1, s2, fun g hgm hgu => ?_⟩
        have hg0 := h.flt g hgm (hset hgu)
        cases hx : ρ' g.r with
        | none => rfl
        | some l =>
          have h1 := hf.names _ _ hg0 hx
          have h2 := hw'.dom _ _ hx
          omega
      · rename_i hw1
        rw [if_neg hw1]
        have hval : ∀ t, o.dst = some t → VRel ρ (af.slot t) ((a'.put o.dst undef).tmps.getD t undef) := fun t ht => by
          rw [ht] at hat ⊢
          refine put_slot hafout fun _ => ?_
          rw [same_eq _ _ hat]
          exact undef_rel _
        obtain ⟨s1, s2⟩ := h.slots ho hilt (.refl _) (fun t ht => put_other a' undef ht) hval
        exact hK _ _ _ done todo ⟨by simpa using h.size, h.closed' ho hdeps, h.split, fun r hr => getD_set_true (h.old r hr), hnew, h.chain,
          h.rel, by rw [put_defers]; exact h.defs, h.fr, (put_size _ _ _).trans h.tsize, h.small, s1, s2, fun g hgm hgu => h.flt g hgm (hset hgu)⟩

theorem Inv.all (hz : ZerosOk P) (hcall : CallOk P call) (hg : Good P ops ms a af σ0 σf rs fs) {Q : Exit → Act → World → Prop}
    (hQ : ∀ ρ' w' a1', WRel P ρ' σf w' → Fr σ0.next σf.next ρ0 w0 ρ' w' → ActR ρ' af a1' → Q .normal a1' w') :
    ∀ (fuel : Nat) {listed : Array Bool} {ρ : Ren} {a' : Act} {w : World} {done todo : List Rec}, unlisted ops listed ≤ fuel → Inv P call ops a af σ0 σf rs fs ρ0 w0 listed ρ a' w done todo → wpAny P .any ops Q fuel listed a' w := by
  have last : ∀ {listed : Array Bool} {ρ : Ren} {a' : Act} {w : World} {done todo : List Rec}, Inv P call ops a af σ0 σf rs fs ρ0 w0 listed ρ a' w done todo → Region.ready .any ops listed = [] → Q .normal a' w := by
    intro listed ρ a' w done todo h hr
    have hall : ∀ i, i < ops.size → listed.getD i false = true := by
      intro i
      induction i using Nat.strongRecOn with
      | _ i ih =>
        intro hi
        cases hx : listed.getD i true with
        | true => exact getD_true (by rw [h.size]; exact hi) hx
        | false =>
          have : i ∈ Region.ready .any ops listed := mem_ready.2 ⟨hx, ops[i], by simp [hi], fun e he hb => by
            have hd : e.on ∈ deps ops[i] := List.mem_map.2 ⟨e, List.mem_filter.2 ⟨by simpa using he, hb⟩, rfl⟩
            have hlt := (hg.text_at (i := i) (o := ops[i]) (by simp [hi])).1 e.on hd
            exact ih e.on hlt (by omega)⟩
          rw [hr] at this
          cases this
    have htodo : todo = [] := by
      cases todo with
      | nil => rfl
      | cons r tl =>
        cases h.chain with
        | cons ho _ _ _ _ _ _ =>
        have := hall r.i (Array.getElem?_eq_some_iff.1 ho).1
        rw [h.new r (by simp)] at this
        cases this
    subst htodo
    refine hQ ρ w a' h.rel h.fr ⟨by rw [h.tsize, hg.size], fun t => ?_, by rw [hg.size]; exact h.small, h.defs⟩
    have key : VRel ρ (af.slot t) (a'.tmps.getD t undef) := by
      by_cases ht : t ∈ dsts ops
      · obtain ⟨p, hp, hd⟩ := List.mem_filterMap.1 ht
        obtain ⟨j, hj, e⟩ := List.getElem_of_mem hp
        have hj' : j < ops.size := by simpa using hj
        have hpj : ops[j]? = some p := by rw [← Array.getElem?_toList, List.getElem?_eq_getElem hj, e]
        exact h.s1 j p t hpj hd (hall j hj')
      · rw [hg.rest t ht]
        exact h.s2 t fun j p hp hd => absurd (dst_in hp hd) ht
    exact key
  intro fuel
  induction fuel with
  | zero =>
    intro listed ρ a' w done todo hu h
    have hr : Region.ready .any ops listed = [] := by
      refine List.eq_nil_iff_forall_not_mem.2 fun i hi => ?_
      obtain ⟨hx, o, ho, -⟩ := mem_ready.1 hi
      have := unlisted_lt (Array.getElem?_eq_some_iff.1 ho).1 hx
      omega
    exact ⟨hr, last h hr⟩
  | succ fuel ih =>
    intro listed ρ a' w done todo hu h
    refine ⟨last h, fun i hi => h.step hz hcall hg hi fun ρ' a1 w1 done' todo' h' => ih ?_ h'⟩
    obtain ⟨hx, o, ho, -⟩ := mem_ready.1 hi
    have := unlisted_lt (Array.getElem?_eq_some_iff.1 ho).1 hx
    omega

theorem undef_of {ρ : Ren} {v : Value} (h : VRel ρ v undef) : v = undef := by
  generalize hu : undef = u at h
  cases h <;> first | (cases hu; done) | skip
  rename_i c c' h
  have : c' = #[] := by injection hu with e; exact e.symm
  subst this
  have hl := h.length
  have : c = #[] := by
    rcases c with ⟨l⟩
    cases l with
    | nil => rfl
    | cons x l => simp at hl
  rw [this]

/-- A region that draws its order. -/
theorem drawIn_sound (hz : ZerosOk P) (hm : P.follows .mixedOrders = true) (hcall : CallOk P call) {Q : Exit → Act → World → Prop} {id : Nat} {ρ : Ren} {a : Fra} {a' : Act} {σ : AS} {w : World} {a1 : Fra} {σ1 : AS}
    (h : drawIn P call ops a σ = some (a1, σ1)) (hw : WRel P ρ σ w) (ha : ActR ρ a a') (hQ : ∀ ρ' w' a1', WRel P ρ' σ1 w' → Fr σ.next σ1.next ρ w ρ' w' → ActR ρ' a1 a1' → Q .normal a1' w') :
    (Code.region id ops true).wp P Q a' w := by
  unfold drawIn at h
  split at h
  · cases h
  rename_i af σf rs fs ht
  split at h
  case isFalse => cases h
  rename_i hchk
  cases h
  simp only [Bool.and_eq_true] at hchk
  obtain ⟨h1, h2, h3, h4, h5, h6⟩ := hchk
  obtain ⟨k1, k2, k3, k4, k5⟩ := textIn_spec _ ht ha.small
  have hg : Good P ops (masks ops.toList []) a a1 σ σ1 rs fs := by
    refine ⟨h1, ?_, fun i o ho => ?_, h3, fun r hr => List.all_eq_true.1 h4 r hr, h5, fun f hf => by simpa using List.all_eq_true.1 h6 f hf, k1, fun t ht => k2 t (.inl ht), fun t ht => ?_⟩
    · refine masks_spec ops.toList [] [] (by simp) (by simp) fun i j hb => ?_
      have := bit_lt hb
      simp at this
    · simpa using opsChk_spec _ 0 h2 i o (by simpa using ho)
    · rw [k1] at ht
      rw [k2 t (.inr ht)]
      have h1 := ha.slot t
      rw [getD_out (by rw [ha.size]; exact ht)] at h1
      exact undef_of h1
  refine wp_region_any hm ?_
  have hrep : ∀ i, (Array.replicate ops.size false).getD i false = false := fun i => by
    rcases Nat.lt_or_ge i ops.size with hl | hl
    · simp [hl]
    · simp [Nat.not_lt.2 hl]
  refine Inv.all (done := []) (todo := rs) (ρ := ρ) hz hcall hg (ρ0 := ρ) (w0 := w) hQ ops.size ?_ ?_
  · unfold unlisted
    exact Nat.le_trans (List.length_filter_le _ _) (by simp)
  · refine ⟨by simp, fun i o ho hl => ?_, rfl, fun r hr => (by cases hr), fun r _ => hrep r.i, k3, ?_, ?_, ?_, ha.size, ha.small, fun j p t _ _ hl => ?_, fun t _ => ha.slot t, fun f hf _ => ?_⟩
    · rw [hrep] at hl; cases hl
    · exact (WRel.drew hw).grown k4
    · rw [← k5]; exact ha.defers
    · exact (Fr.drew (Fr.refl ρ w)).upto k4.up
    · rw [hrep] at hl; cases hl
    · cases hx : ρ f.r with
      | none => rfl
      | some l =>
        have := hw.dom _ _ hx
        have := hg.fge f hf
        omega

end
end Go.Proofs.YtlnhacbdbhmgkaaGreatDoor
