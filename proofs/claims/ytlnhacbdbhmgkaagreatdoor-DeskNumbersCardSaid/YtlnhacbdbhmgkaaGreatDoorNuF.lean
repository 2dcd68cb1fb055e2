/- A calculated tree in memory: what making it comes to, and that opening a cursor leaves it. -/
import Derived.Test.YtlnhacbdbhmgkaaGreatDoorEvT2
import Derived.Test.YtlnhacbdbhmgkaaGreatDoorNuB
namespace Go.Proofs.YtlnhacbdbhmgkaaGreatDoor
open Go.RowKit

/-! The names of a value are numbers below N. -/
mutual
def und (N : Nat) : Value → Bool
  | .bool _ | .int .. | .float .. | .complex .. | .string _ | .nilFunc | .nilIface => true
  | .pointer a => (match a with | some a => Nat.blt a.block N | none => true)
  | .slice a _ _ => (match a with | some a => Nat.blt a.block N | none => true)
  | .map r => (match r with | some r => Nat.blt r N | none => true)
  | .chan _ => true
  | .func fn a c => (match fn with | .yield _ => false | _ => true) && undA N a && undA N c
  | .iface _ v => und N v
  | .agg c => undA N c
  | .tuple c => undA N c
def undA (N : Nat) : Array Value → Bool
  | ⟨l⟩ => undL N l
def undL (N : Nat) : List Value → Bool
  | [] => true
  | v :: l => und N v && undL N l
end
def undEs (N : Nat) : List MapEntry → Bool
  | [] => true
  | e :: es => und N e.key && und N e.val && undEs N es
def undO (N : Nat) : Obj → Bool
  | .cells c _ _ => undA N c
  | .map es _ => undEs N es.toList
  | _ => false

section
variable {ρ ρ' : Ren} {N : Nat} (h : ∀ r l, ρ' r = some l → r < N → ρ r = some l)
include h
set_option linter.unusedSectionVars false
mutual
theorem VRel.under : ∀ {v v' : Value}, VRel ρ' v v' → und N v = true → VRel ρ v v'
  | _, _, .bool b, _ => .bool b
  | _, _, .int k n, _ => .int k n
  | _, _, .float k n, _ => .float k n
  | _, _, .complex k n m, _ => .complex k n m
  | _, _, .string s, _ => .string s
  | _, _, .ptrNil, _ => .ptrNil
  | _, _, .ptr k, u => .ptr (h _ _ k (by simpa [und] using u))
  | _, _, .sliceNil n c hc, _ => .sliceNil n c hc
  | _, _, .sliceX n c k hc, u => .sliceX n c (h _ _ k (by simpa [und] using u)) hc
  | _, _, .sliceF k hc hn hl ho, u => .sliceF (h _ _ k (by simpa [und] using u)) hc hn hl ho
  | _, _, .mapNil, _ => .mapNil
  | _, _, .map k, u => .map (h _ _ k (by simpa [und] using u))
  | _, _, .chanNil, _ => .chanNil
  | _, _, .func (a := ⟨a⟩) (c := ⟨c⟩) hf ha hc, u => by
    simp only [und, undA, Bool.and_eq_true] at u
    refine .func ?_ (VsRel.under ha u.1.2) (VsRel.under hc u.2)
    cases hf with
    | yield k => exact absurd u.1.1 (by simp)
    | _ => constructor
  | _, _, .nilFunc, _ => .nilFunc
  | _, _, .iface t k, u => .iface t (VRel.under k (by simpa [und] using u))
  | _, _, .nilIface, _ => .nilIface
  | _, _, .agg (c := ⟨c⟩) k, u => .agg (VsRel.under k (by simpa [und, undA] using u))
  | _, _, .tuple (c := ⟨c⟩) k, u => .tuple (VsRel.under k (by simpa [und, undA] using u))
theorem VsRel.under : ∀ {v v' : List Value}, VsRel ρ' v v' → undL N v = true → VsRel ρ v v'
  | _, _, .nil, _ => .nil
  | _, _, .cons k hs, u => by
    simp only [undL, Bool.and_eq_true] at u
    exact .cons (VRel.under k u.1) (VsRel.under hs u.2)
end
omit h in
theorem undL_get : ∀ {l : List Value} {i : Nat} {v : Value}, undL N l = true → l[i]? = some v → und N v = true
  | [], _, _, _, hv => by simp at hv
  | x :: l, 0, v, u, hv => by
    simp only [undL, Bool.and_eq_true] at u
    simp at hv
    exact hv ▸ u.1
  | x :: l, i + 1, v, u, hv => by
    simp only [undL, Bool.and_eq_true] at u
    exact undL_get u.2 (by simpa using hv)
omit h in
theorem undA_get {c : Array Value} {i : Nat} {v : Value} (u : undA N c = true) (hv : c[i]? = some v) : und N v = true := by
  obtain ⟨l⟩ := c
  exact undL_get (l := l) u (by simpa using hv)
theorem EsR.under : ∀ {t t' : List MapEntry}, EsR ρ' t t' → undEs N t = true → EsR ρ t t'
  | _, _, .nil, _ => .nil
  | _, _, .cons k hs, u => by
    simp only [undEs, Bool.and_eq_true] at u
    exact .cons ⟨VRel.under h k.key u.1.1, VRel.under h k.val u.1.2, k.born⟩ (EsR.under hs u.2)
theorem ORel.under {P : Program} {l : Lies} {a b : Obj} (k : ORel P ρ' l a b) (u : undO N a = true) : ORel P ρ l a b := by
  cases k with
  | cells hs hc hf he h0 => exact .cells hs (fun i v hv => let ⟨v', h1, h2⟩ := hc i v hv; ⟨v', h1, VRel.under h h2 (undA_get u hv)⟩) hf he h0
  | rom hc => exact .rom fun i v hv => let ⟨v', h1, h2⟩ := hc i v hv; ⟨v', h1, VRel.under h h2 (undA_get u hv)⟩
  | map k => exact .map (EsR.under h k u)
  | _ => cases u
end

/-- The memory τ holds all that σ held under its names, and nothing of it has turned. -/
def holdsAll (σ τ : AS) (N : Nat) : Bool := (List.range N).all fun r =>
  match σ.get r, τ.get r with
  | some a, some b => sameO a b && undO N a
  | _, _ => false
theorem holdsAll_get {σ τ : AS} {N r : Nat} (h : holdsAll σ τ N = true) (hr : r < N) : ∃ o, σ.get r = some o ∧ τ.get r = some o ∧ undO N o = true := by
  have := List.all_eq_true.1 h r (List.mem_range.2 hr)
  split at this
  · rename_i a b h1 h2
    simp only [Bool.and_eq_true] at this
    have e := sameO_eq _ _ this.1
    subst e
    exact ⟨a, h1, h2, this.2⟩
  · cases this

/-- Behind a run that has turned nothing of it the world holds it still. -/
theorem WRel.back {P : Program} {ρ ρ' : Ren} {σ τ : AS} {w w' : World} {m : Nat} (hw : WRel P ρ σ w) (hw' : WRel P ρ' τ w') (hf : Fr σ.next m ρ w ρ' w') (hh : holdsAll σ τ σ.next = true) : WRel P ρ σ w' := by
  have hres : ∀ r l, ρ' r = some l → r < σ.next → ρ r = some l := fun r l h1 h2 => by
    cases hr : ρ r with
    | none => exact absurd (hf.names r l hr h1) (by omega)
    | some l0 => rw [hf.le r l0 hr] at h1; exact h1
  refine ⟨fun r o l ho hl => ?_, hw.dom, fun r l hl => hw'.img r l (hf.le r l hl), fun r r' l l' o o' h1 h2 h3 h4 h5 => ?_, hw.glob, hw.small⟩
  · obtain ⟨o1, h1, h2, h3⟩ := holdsAll_get hh (hw.dom r l hl)
    rw [ho] at h1
    cases h1
    obtain ⟨o', h4, h5⟩ := hw'.obj r o l h2 (hf.le r l hl)
    exact ⟨o', h4, h5.under hres h3⟩
  · exact hw.inj r r' l l' o o' h1 h2 h3 h4 h5

theorem small_holds : holdsAll st1Out st2Out 125 = true := by kernel_rfl
theorem st1_next : st1Out.next = 125 := rfl

/-- The cursor's block. -/
theorem cur_cells : ∃ c e f, st2Out.get 125 = some (.cells c e f) ∧ f.1 = 0 ∧ f.2 = 0 ∧ c[6]? = some (.bool false) ∧ c[8]? = some (.int .i64 0) := by
  have h : (match st2Out.get 125 with | some (.cells c e f) => Nat.beq f.1 0 && Nat.beq f.2 0 && (match c[6]? with | some v => same v (.bool false) | none => false) && (match c[8]? with | some v => same v (.int .i64 0) | none => false) | _ => false) = true := by kernel_rfl
  split at h
  · rename_i c e f hg
    simp only [Bool.and_eq_true] at h
    refine ⟨c, e, f, hg, Nat.eq_of_beq_eq_true h.1.1.1, Nat.eq_of_beq_eq_true h.1.1.2, ?_, ?_⟩
    · have := h.1.2
      split at this
      · rename_i v hv
        rw [hv, same_eq _ _ this]
      · cases this
    · have := h.2
      split at this
      · rename_i v hv
        rw [hv, same_eq _ _ this]
      · cases this
  · cases h

theorem curOpens : CurOpens st1Out 91 := by
  intro w lo hi t hT hhi
  obtain ⟨ρ, hw, hin, hlo, l, hl, rfl⟩ := hT
  refine (ent2_ok ρ w #[.pointer (some ⟨l.b, 0, none⟩)] hw (VsRel.cons (.ptr hl) .nil)).mono fun e w' he => ?_
  cases e with
  | panicked _ => exact he.elim
  | outgrown => exact he.elim
  | returned v' =>
    obtain ⟨ρ', hw', hf, hv⟩ := he
    have hf : Fr st1Out.next st2Out.next ρ w ρ' w' := hf
    change VRel ρ' (.pointer (some ⟨125, 0, none⟩)) v' at hv
    obtain ⟨lC, hC, rfl⟩ : ∃ lC, ρ' 125 = some lC ∧ v' = .pointer (some ⟨lC.b, 0, none⟩) := by
      cases hv
      rename_i l h
      exact ⟨l, h, rfl⟩
    obtain ⟨c, e, f, hg, hf1, hf2, h6, h8⟩ := cur_cells
    have hback : WRel Tryz.prog ρ st1Out w' := hw.back hw' hf small_holds
    refine ⟨lC.b, rfl, ⟨?_, ?_, ?_, ?_⟩, ⟨ρ, hback, hin, hlo, l, hl, rfl⟩, hf.os, hf.tape, hf.output, hf.size, fun b hb hn => ?_, fun k hk => .inl hk⟩
    · rcases hf.fresh 125 lC hC (by decide) with ⟨r0, l0, h1, h2, h3⟩ | h
      · have hr0 := hw.dom r0 l0 h1
        obtain ⟨o, _, h4, _⟩ := holdsAll_get small_holds (show r0 < 125 from hr0)
        have := hw'.inj r0 125 l0 lC o _ h4 hg (hf.le r0 l0 h1) hC h3
        have hr0 : r0 < 125 := hr0
        omega
      · exact h
    · obtain ⟨c', e', f', hc', hk⟩ := hw'.seen hg hC
      obtain ⟨v', hv', hR⟩ := hk 6 _ h6
      cases hR
      exact ⟨false, by unfold World.cell?; simp only [hc']; simpa using hv'⟩
    · obtain ⟨o', h1, h2⟩ := hw'.obj 125 _ lC hg hC
      cases h2 with
      | cells hs hc hfz he h0 =>
        rename_i c' f'
        obtain ⟨v', hv', _⟩ := hc 6 _ h6
        have h6l : 6 < c'.size := (Array.getElem?_eq_some_iff.1 hv').1
        have := hfz 6 (by omega)
        unfold World.frozen?
        simp only [h1]
        simpa using this
      | rom _ => simp at hf1
    · obtain ⟨c', e', f', hc', hk⟩ := hw'.seen hg hC
      obtain ⟨v', hv', hR⟩ := hk 8 _ h8
      cases hR
      exact ⟨0, by unfold World.cell?; simp only [hc']; simpa using hv'⟩
    · refine hf.keep b hb fun r l h1 h2 h3 => hn ?_
      rw [mem_TrS]
      rcases hin r l h1 with ⟨h, _⟩ | ⟨_, h⟩
      · omega
      · omega

/-! tree.New of the query Q() :- R(). -/
theorem st1_get2 : ∀ r, st1In.get (r + 2) = none := fun r => by
  unfold st1In AS.get
  simp only [Tr.get]
  split
  · rename_i h
    have h1 : (r + 1) / 2 = (r + 1) / 2 - 1 + 1 := by
      have := Nat.eq_of_beq_eq_true h
      omega
    rw [h1]
    simp only [Tr.get]
    split <;> rfl
  · rfl

theorem first_tree {w : World} {B : Nat} (h0 : w.cell? ⟨0, 0, none⟩ = some (.int .u8 0)) (hB : w.heap[B]? = some (.cells #[.string ⟨#[82]⟩, .slice none 0 0] 33 (0, 0))) (hp : 0 < B) :
    WRel Tryz.prog (fun r => if r = 0 then some ⟨0, 0, 0⟩ else if r = 1 then some ⟨B, 2, 2⟩ else none) st1In w := by
  obtain ⟨c, e, f, hc, h0'⟩ : ∃ c e f, w.heap[0]? = some (.cells c e f) ∧ c[0]? = some (.int .u8 0) := by
    unfold World.cell? at h0
    split at h0
    · rename_i c e f hb
      exact ⟨c, e, f, hb, by simpa using h0⟩
    · cases h0
  have hBl := lt_of_block hB
  refine ⟨fun r o l ho hl => ?_, fun r l hl => ?_, fun r l hl => ?_, fun r r' l l' o o' _ _ h3 h4 h5 => ?_, fun g hg => ?_, by decide⟩
  · match r, ho, hl with
    | 0, ho, hl =>
      change some _ = some l at hl
      change some _ = some o at ho
      cases hl
      cases ho
      refine ⟨_, hc, .rom fun i v hv => ?_⟩
      match i, hv with
      | 0, hv => cases hv; exact ⟨_, h0', .int _ _⟩
      | i + 1, hv => simp at hv
    | 1, ho, hl =>
      change some _ = some l at hl
      change some _ = some o at ho
      cases hl
      cases ho
      refine ⟨_, hB, .cells rfl (fun i v hv => ?_) (fun o _ h => by simp at h) (by kernel_rfl)⟩
      match i, hv with
      | 0, hv => cases hv; exact ⟨_, rfl, .string _⟩
      | 1, hv => cases hv; exact ⟨_, rfl, .sliceNil _ _ (by decide)⟩
      | i + 2, hv => simp at hv
    | r + 2, ho, _ => rw [st1_get2] at ho; cases ho
  · change r < 2
    split at hl
    · omega
    · split at hl
      · omega
      · cases hl
  · split at hl
    · cases hl
      exact lt_of_cell h0
    · split at hl
      · cases hl
        exact hBl
      · cases hl
  · split at h3 <;> split at h4
    · omega
    · split at h4
      · cases h3; cases h4; simp only at h5; omega
      · cases h4
    · split at h3
      · cases h3; cases h4; simp only at h5; omega
      · cases h3
    · split at h3 <;> split at h4
      · omega
      · cases h4
      · cases h3
      · cases h3
  · have : g = 0 := by unfold GLOBS at hg; omega
    subst this
    exact ⟨⟨0, 0, 0⟩, rfl, rfl⟩

theorem tree_new {w : World} {B : Nat} (h0 : w.cell? ⟨0, 0, none⟩ = some (.int .u8 0)) (hB : w.heap[B]? = some (.cells #[.string ⟨#[82]⟩, .slice none 0 0] 33 (0, 0))) (hp : 0 < B) :
    Calls Tryz.prog 6 #[.agg #[.string ⟨#[81]⟩, .slice none 0 0, .slice (some ⟨B, 0, none⟩) 1 1], .int .i64 9] w fun e w' =>
      ∃ tb, e = .returned (.tuple #[.pointer (some ⟨tb, 0, none⟩), .int .i64 0]) ∧ TreeAt st1Out 91 w' B w'.heap.size (.pointer (some ⟨tb, 0, none⟩)) ∧ Upd w [B] w' [B] := by
  refine (ent1_ok _ w _ (first_tree h0 hB hp) (VsRel.cons (.agg (.cons (.string _) (.cons (.sliceNil _ _ (by decide)) (.cons (.sliceX (r := 1) (l := ⟨B, 2, 2⟩) _ _ rfl (by decide)) .nil)))) (VsRel.cons (.int _ _) .nil))).mono fun e w' he => ?_
  cases e with
  | panicked _ => exact he.elim
  | outgrown => exact he.elim
  | returned v' =>
    obtain ⟨ρ', hw', hf, hv⟩ := he
    change VRel ρ' (.tuple #[.pointer (some ⟨91, 0, none⟩), .int .i64 0]) v' at hv
    obtain ⟨l, hl, rfl⟩ : ∃ l, ρ' 91 = some l ∧ v' = .tuple #[.pointer (some ⟨l.b, 0, none⟩), .int .i64 0] := by
      generalize hu : Value.tuple #[.pointer (some ⟨91, 0, none⟩), .int .i64 0] = u at hv
      cases hv <;> first | (cases hu; done) | skip
      rename_i c c' hc
      injection hu with hu
      subst hu
      rcases c' with ⟨l'⟩
      cases hc with
      | cons h1 hc =>
        cases hc with
        | cons h2 hc =>
          cases hc
          cases h1
          cases h2
          exact ⟨_, by assumption, rfl⟩
    have hBl := lt_of_block hB
    have hold : ∀ r l, (if r = 0 then some (⟨0, 0, 0⟩ : Lies) else if r = 1 then some ⟨B, 2, 2⟩ else none) = some l → GLOBS ≤ r → l.b = B := fun r l h hr => by
      split at h
      · rename_i e; subst e; exact absurd hr (by decide)
      · split at h
        · cases h; rfl
        · cases h
    refine ⟨l.b, rfl, ⟨ρ', hw', fun r l hr => ?_, hp, l, hl, rfl⟩, hf.os, hf.tape, hf.output, hf.size, fun b hb hn => hf.keep b hb fun r l h1 h2 h3 => hn ?_, fun k hk => .inl hk⟩
    · by_cases hg : r < GLOBS
      · obtain ⟨l1, h1, h2⟩ := hw'.glob r hg
        rw [hr] at h1
        cases h1
        have : r = 0 := by unfold GLOBS at hg; omega
        exact .inl ⟨hg, h2.trans this⟩
      · refine .inr ⟨by omega, ?_, hw'.img r l hr⟩
        rcases hf.fresh r l hr (by omega) with ⟨r0, l0, h1, h2, h3⟩ | h
        · rw [← h3, hold r0 l0 h1 h2]
          exact Nat.le_refl _
        · omega
    · rw [← h3, hold r l h1 h2]
      simp

theorem tree_state : ∃ c e f s, st1Out.get 91 = some (.cells c e f) ∧ c[11]? = some (.int .i64 s) := by
  have h : (match st1Out.get 91 with | some (.cells c e f) => (match c[11]? with | some v => same v (.int .i64 0) | none => false) | _ => false) = true := by kernel_rfl
  split at h
  · rename_i c e f hg
    split at h
    · rename_i v hv
      exact ⟨c, e, f, 0, hg, by rw [hv, same_eq _ _ h]⟩
    · cases h
  · cases h

end Go.Proofs.YtlnhacbdbhmgkaaGreatDoor
