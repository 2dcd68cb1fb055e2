/- desk.Open at whatever numbers are open. -/
import Derived.Test.YtlnhacbdbhmgkaaGreatDoorNuA
import Derived.Test.YtlnhacbdbhmgkaaGreatDoorRegX
import Derived.BigQuiet
import Derived.IntWalk
namespace Go.Proofs.YtlnhacbdbhmgkaaGreatDoor
open Go.RowKit Go.Maps

def TrS (lo hi : Nat) : List Nat := List.range' lo (hi - lo)
theorem mem_TrS {lo hi b : Nat} : b ∈ TrS lo hi ↔ lo ≤ b ∧ b < hi := by
  unfold TrS
  rw [List.mem_range'_1]
  omega

/-- What the tree's state is. -/
theorem state_any {σ : AS} {n : Nat} {w : World} {lo hi : Nat} {t : Value} (hT : TreeAt σ n w lo hi t) (hg : ∃ c e f s, σ.get n = some (.cells c e f) ∧ c[11]? = some (.int .i64 s)) :
    Calls Tryz.prog 21 #[t] w fun e w' => (∃ s, e = .returned (.int .i64 s)) ∧ w = w' := by
  obtain ⟨ρ, h1, h2, h3, l, hl, rfl⟩ := hT
  obtain ⟨c, e, f, s, hc, hs⟩ := hg
  obtain ⟨c', e', f', hc', hk⟩ := h1.seen hc hl
  obtain ⟨v', hv', hR⟩ := hk 11 _ hs
  cases hR
  have c5 : w.cell? ⟨l.b, 11, none⟩ = some (.int .i64 s) := by
    unfold World.cell?
    simp only [hc']
    simpa using hv'
  go_enter Tryz.func21, Tryz.ntmps21
  go_wp2
  go_ret
  exact ⟨⟨_, rfl⟩, rfl⟩

theorem OpensAt.len {w : World} {M n hi : Nat} {t : Value} {D : DataW Unit} (h : OpensAt w M n hi t D) (ty : TypeId) : (Builtin.len_ #[47] ty #[.map (some M)]).run Tryz.prog w = .ok (.int .i64 (Maps.size D)) w :=
  h.own.len Tryz.underlying47 ty

set_option maxHeartbeats 1600000 in
theorem open_full {σ : AS} {n : Nat} {w : World} {Dk M k lo hi : Nat} {most : Int} {t : Value} {D : DataW Unit} (hD : DeskAt w Dk M k lo hi most t D) (hfull : (Maps.size D : Int) = most) (v : ByteArray) :
    Calls Tryz.prog 7 #[.pointer (some ⟨Dk, 0, none⟩), .string v, t] w fun e w' => e = .returned (.tuple #[.int .i64 0, .int .i64 240]) ∧ ∃ m, w' = w.drewN m := by
  have hd := hD.desk
  have c0 : w.cell? ⟨Dk, 0, none⟩ = some (.int .i64 most) := by unfold World.cell?; simp only [hd]; rfl
  have c2 : w.cell? ⟨Dk, 2, none⟩ = some (.map (some M)) := by unfold World.cell?; simp only [hd]; rfl
  have hlen := fun ty => hD.opens.len ty
  clear hd
  go_enter Tryz.func7, Tryz.ntmps7
  go_wp2
  have hlen2 := fun ty => (show OpensAt w.drew M k hi t D from hD.opens.agree rfl fun _ _ _ => rfl).len ty
  go_region
  go_wp2
  go_ret2
  exact ⟨rfl, _, rfl⟩

/-- What opening a cursor of the tree comes to. -/
def CurOpens (σ : AS) (n : Nat) : Prop := ∀ w lo hi t, TreeAt σ n w lo hi t → hi ≤ w.heap.size → Calls Tryz.prog 20 #[t] w fun e w' =>
  ∃ C, e = .returned (.pointer (some ⟨C, 0, none⟩)) ∧ IsCur w' w.heap.size C ∧ TreeAt σ n w' lo hi t ∧ Upd w (TrS lo hi) w' (TrS lo hi)

/-- What Open leaves of the world. -/
structure OpenR (σ : AS) (n : Nat) (w : World) (Dk M k lo hi hd : Nat) (most : Int) (t : Value) (D : DataW Unit) (id : Nat) (w' : World) : Prop where
  one : 1 ≤ id
  free : hasI D id = false
  least : ∀ j : Nat, 1 ≤ j → j < id → hasI D j = true
  upd : Upd w (M :: TrS lo hi) w' (M :: TrS lo hi)
  tree : TreeAt σ n w' lo hi t
  desk : ∃ d, DeskAt w' Dk M (k + 1) lo hd most t (D.put (.int .i64 id) d)

theorem wf_small {i : Nat} (h : i ≤ 1000000) : (Lit.int .i64 (i : Int)).wf = true := by
  simp [Lit.wf, IntKind.min, IntKind.max, IntKind.signed, IntKind.bits]
  omega

def natOfV : Value → Nat
  | .int _ n => n.toNat
  | _ => 0

set_option maxRecDepth 100000 in
set_option maxHeartbeats 3200000 in
theorem open_some {σ : AS} {n : Nat} (hC : CurOpens σ n) (hg : ∃ c e f s, σ.get n = some (.cells c e f) ∧ c[11]? = some (.int .i64 s)) {w : World} {Dk M k lo hi hd : Nat} {most : Int} {t : Value} {D : DataW Unit} (hT : TreeAt σ n w lo hi t)
    (hhi : hi ≤ w.heap.size) (hhd : hi ≤ hd ∧ hd ≤ w.heap.size) (hD : DeskAt w Dk M k lo hd most t D) (hk : k < maxLen) (hs : Maps.size D ≤ 1000) (hfull : (Maps.size D : Int) ≠ most) (v : ByteArray) :
    Calls Tryz.prog 7 #[.pointer (some ⟨Dk, 0, none⟩), .string v, t] w fun e w' => ∃ id : Nat, e = .returned (.tuple #[.int .i64 id, .int .i64 0]) ∧ OpenR σ n w Dk M k lo hi hd most t D id w' := by
  have hdk := hD.desk
  have c0 : w.cell? ⟨Dk, 0, none⟩ = some (.int .i64 most) := by unfold World.cell?; simp only [hdk]; rfl
  have c1 : w.cell? ⟨Dk, 1, none⟩ = some (.int .i64 0) := by unfold World.cell?; simp only [hdk]; rfl
  have c2 : w.cell? ⟨Dk, 2, none⟩ = some (.map (some M)) := by unfold World.cell?; simp only [hdk]; rfl
  have hO2 : OpensAt w.drew M k hd t D := hD.opens.agree rfl fun _ _ _ => rfl
  have hlen := fun ty => hD.opens.len ty
  have hlen2 := fun ty => hO2.len ty
  have hne : ((Maps.size D : Int) == most) = false := by simpa using hfull
  have HD := Lib.hid hD
  have HT := Lib.hid hT
  have HH := Lib.hid hhd
  have HO2 := Lib.hid hO2
  have HF := Lib.hid (And.intro hhi (And.intro hk (And.intro hs hg)))
  obtain ⟨tb, rfl⟩ : ∃ tb, t = .pointer (some ⟨tb, 0, none⟩) := by obtain ⟨_, _, _, _, l, _, h⟩ := hT; exact ⟨_, h⟩
  clear hdk hD hT hO2 hhi hk hs hg hfull hhd
  go_enter Tryz.func7, Tryz.ntmps7
  go_wp2
  go_region
  go_wp2
  clear hlen hlen2 hne
  go_loopw [8] (fun i wr => ∃ id : Nat, i = .int .i64 id ∧ 1 ≤ id ∧ (∀ j : Nat, 1 ≤ j → j < id → hasI D j = true) ∧ wr = w.drew) (fun i _ => Maps.size D + 2 - natOfV i)
  case atStart => exact ⟨1, rfl, by omega, fun j h1 h2 => by omega, rfl⟩
  case round =>
    obtain ⟨id, rfl, h1, hall, rfl⟩ := hrel
    have hid : id ≤ Maps.size D + 1 := by
      have := size_ge (id - 1) HD.out.opens.tidy fun j h2 h3 => hall j h2 (by omega)
      omega
    have HA := Lib.hid hall
    have HI := Lib.hid hid
    have hw := wf_small (i := id) (by have := HF.out.2.2.1; omega)
    rcases HO2.out.look id hw with ⟨hfree, hrun⟩ | ⟨hhas, O, hrun, -, -⟩
    · have HFree := Lib.hid hfree
      clear hall hid hfree
      go_wp2
      have hT2 : TreeAt σ n w.drew lo hi (.pointer (some ⟨tb, 0, none⟩)) := HT.out.agree fun _ _ _ => rfl
      have HT2 := Lib.hid hT2
      have hlow := HD.out.low
      have hhd := HH.out
      refine wp_region_x 17 (fun w' => w'.cell? ⟨Dk, 2, none⟩ = some (.map (some M)) ∧ w'.cell? ⟨Dk, 1, none⟩ = some (.int .i64 0)) (by kernel_rfl) ⟨by go_simp, by go_simp⟩ (fun hHeld => ?_)
      (refine wpAnyX_take (i := 0) (some 28) (v := ?_) rfl rfl (by kernel_rfl) (by kernel_rfl) (by kernel_rfl) (by kernel_rfl) (fun _ _ _ h => h) (Or.inl ⟨by rfl, ?_⟩) (by assumption) ?_; rotate_left; · (intro w hSw; (try dsimp only at hSw); go_simp; try with_reducible rfl)); simp only [Act.put, List.setIfInBounds_toArray, List.set_cons_zero, List.set_cons_succ]
      (refine wpAnyX_take (i := 1) (some 29) (v := ?_) rfl rfl (by kernel_rfl) (by kernel_rfl) (by kernel_rfl) (by kernel_rfl) (fun _ _ _ h => h) (Or.inl ⟨by rfl, ?_⟩) (by assumption) ?_; rotate_left; · (intro w hSw; (try dsimp only at hSw); go_simp; try with_reducible rfl)); simp only [Act.put, List.setIfInBounds_toArray, List.set_cons_zero, List.set_cons_succ]
      (refine wpAnyX_take (i := 2) (some 30) (v := ?_) rfl rfl (by kernel_rfl) (by kernel_rfl) (by kernel_rfl) (by kernel_rfl) (fun _ _ _ h => h) (Or.inl ⟨by rfl, ?_⟩) (by assumption) ?_; rotate_left; · (intro w hSw; (try dsimp only at hSw); go_simp; try with_reducible rfl)); simp only [Act.put, List.setIfInBounds_toArray, List.set_cons_zero, List.set_cons_succ]
      (refine wpAnyX_take (i := 3) (some 31) (v := ?_) rfl rfl (by kernel_rfl) (by kernel_rfl) (by kernel_rfl) (by kernel_rfl) (fun _ _ _ h => h) (Or.inl ⟨by rfl, ?_⟩) (by assumption) ?_; rotate_left; · (intro w hSw; (try dsimp only at hSw); go_simp; try with_reducible rfl)); simp only [Act.put, List.setIfInBounds_toArray, List.set_cons_zero, List.set_cons_succ]
      (refine wpAnyX_take (i := 4) (some 32) (v := ?_) rfl rfl (by kernel_rfl) (by kernel_rfl) (by kernel_rfl) (by kernel_rfl) (fun _ _ _ h => h) (Or.inl ⟨by rfl, ?_⟩) (by assumption) ?_; rotate_left; · (intro w hSw; (try dsimp only at hSw); go_simp; try with_reducible rfl)); simp only [Act.put, List.setIfInBounds_toArray, List.set_cons_zero, List.set_cons_succ]
      (refine wpAnyX_take (i := 5) (some 33) (v := ?_) rfl rfl (by kernel_rfl) (by kernel_rfl) (by kernel_rfl) (by kernel_rfl) (fun _ _ _ h => h) (Or.inl ⟨by rfl, ?_⟩) (by assumption) ?_; rotate_left; · (intro w hSw; (try dsimp only at hSw); go_simp; try with_reducible rfl)); simp only [Act.put, List.setIfInBounds_toArray, List.set_cons_zero, List.set_cons_succ]
      (refine wpAnyX_take (i := 7) (some 35) (v := ?_) rfl rfl (by kernel_rfl) (by kernel_rfl) (by kernel_rfl) (by kernel_rfl) (fun _ _ _ h => h) (Or.inl ⟨by rfl, ?_⟩) (by assumption) ?_; rotate_left; · (intro w hSw; (try dsimp only at hSw); go_simp; try with_reducible rfl)); simp only [Act.put, List.setIfInBounds_toArray, List.set_cons_zero, List.set_cons_succ]
      (refine wpAnyX_take (i := 8) (some 36) (v := ?_) rfl rfl (by kernel_rfl) (by kernel_rfl) (by kernel_rfl) (by kernel_rfl) (fun _ _ _ h => h) (Or.inl ⟨by rfl, ?_⟩) (by assumption) ?_; rotate_left; · (intro w hSw; (try dsimp only at hSw); go_simp; try with_reducible rfl)); simp only [Act.put, List.setIfInBounds_toArray, List.set_cons_zero, List.set_cons_succ]
      (refine wpAnyX_take (i := 9) (some 37) (v := ?_) rfl rfl (by kernel_rfl) (by kernel_rfl) (by kernel_rfl) (by kernel_rfl) (fun _ _ _ h => h) (Or.inl ⟨by rfl, ?_⟩) (by assumption) ?_; rotate_left; · (intro w hSw; (try dsimp only at hSw); go_simp; try with_reducible rfl)); simp only [Act.put, List.setIfInBounds_toArray, List.set_cons_zero, List.set_cons_succ]
      (refine wpAnyX_take (i := 11) (some 39) (v := ?_) rfl rfl (by kernel_rfl) (by kernel_rfl) (by kernel_rfl) (by kernel_rfl) (fun _ _ _ h => h) (Or.inl ⟨by rfl, ?_⟩) (by assumption) ?_; rotate_left; · (intro w hSw; (try dsimp only at hSw); go_simp; try with_reducible rfl)); simp only [Act.put, List.setIfInBounds_toArray, List.set_cons_zero, List.set_cons_succ]
      (refine wpAnyX_take (i := 12) (some 40) (v := ?_) rfl rfl (by kernel_rfl) (by kernel_rfl) (by kernel_rfl) (by kernel_rfl) (fun _ _ _ h => h) (Or.inl ⟨by rfl, ?_⟩) (by assumption) ?_; rotate_left; · (intro w hSw; (try dsimp only at hSw); go_simp; try with_reducible rfl)); simp only [Act.put, List.setIfInBounds_toArray, List.set_cons_zero, List.set_cons_succ]
      (refine wpAnyX_take (i := 13) (some 41) (v := ?_) rfl rfl (by kernel_rfl) (by kernel_rfl) (by kernel_rfl) (by kernel_rfl) (fun _ _ _ h => h) (Or.inl ⟨by rfl, ?_⟩) (by assumption) ?_; rotate_left; · (intro w hSw; (try dsimp only at hSw); go_simp; try with_reducible rfl)); simp only [Act.put, List.setIfInBounds_toArray, List.set_cons_zero, List.set_cons_succ]
      (refine wpAnyX_take (i := 14) (some 42) (v := ?_) rfl rfl (by kernel_rfl) (by kernel_rfl) (by kernel_rfl) (by kernel_rfl) (fun _ _ _ h => h) (Or.inl ⟨by rfl, ?_⟩) (by assumption) ?_; rotate_left; · (intro w hSw; (try dsimp only at hSw); go_simp; try with_reducible rfl)); simp only [Act.put, List.setIfInBounds_toArray, List.set_cons_zero, List.set_cons_succ]
      refine wpAnyX_one (i := 6) (by kernel_rfl) rfl rfl (fun K hK => ?_); (try simp only [List.getElem_toArray, List.getElem_cons_succ, List.getElem_cons_zero])
      go_simp
      go_at_call 20
      refine (hC _ lo hi _ (show TreeAt σ n w.drew.drew lo hi (.pointer (some ⟨tb, 0, none⟩)) from HT2.out.agree fun _ _ _ => rfl) HF.out.1).mono ?_
      rintro e w3 ⟨C, rfl, hCur, hT3, hU3⟩
      dsimp only
      have hU3 : Upd w.drew.drew (TrS lo hi) w3 (TrS lo hi) := hU3
      have hDn : Dk ∉ TrS lo hi := by rw [mem_TrS]; omega
      have hMn : M ∉ TrS lo hi := by rw [mem_TrS]; omega
      have hHeld : w3.cell? ⟨Dk, 2, none⟩ = some (.map (some M)) ∧ w3.cell? ⟨Dk, 1, none⟩ = some (.int .i64 0) := ⟨hU3.cell (a := ⟨Dk, 2, none⟩) c2 hDn, hU3.cell (a := ⟨Dk, 1, none⟩) c1 hDn⟩
      refine hK.out _ _ (fun _ => hHeld) ?_; clear hK K; (try simp only [Act.put, List.setIfInBounds_toArray, List.set_cons_zero, List.set_cons_succ])
      refine wpAnyX_one (i := 10) (by kernel_rfl) rfl rfl (fun K hK => ?_); (try simp only [List.getElem_toArray, List.getElem_cons_succ, List.getElem_cons_zero])
      go_simp
      go_at_call 21
      refine (state_any hT3 HF.out.2.2.2).mono ?_
      rintro e w4 ⟨⟨s, rfl⟩, rfl⟩
      dsimp only
      refine hK.out _ _ (fun _ => hHeld) ?_; clear hK K; (try simp only [Act.put, List.setIfInBounds_toArray, List.set_cons_zero, List.set_cons_succ])
      (refine wpAnyX_take (i := 15) (some 43) (v := ?_) rfl rfl (by kernel_rfl) (by kernel_rfl) (by kernel_rfl) (by kernel_rfl) (fun _ _ _ h => h) (Or.inl ⟨by rfl, ?_⟩) (by assumption) ?_; rotate_left; · (intro w hSw; (try dsimp only at hSw); go_simp; try with_reducible rfl)); simp only [Act.put, List.setIfInBounds_toArray, List.set_cons_zero, List.set_cons_succ]
      refine wpAnyX_one (i := 16) (by kernel_rfl) rfl rfl (fun K hK => ?_); (try simp only [List.getElem_toArray, List.getElem_cons_succ, List.getElem_cons_zero])
      go_simp
      have hHeld2 : (w3.alloc (.cells #[.pointer (some ⟨C, 0, none⟩), .string v, .pointer (some ⟨tb, 0, none⟩), .int .i64 s, .int .i64 0] 94)).cell? ⟨Dk, 2, none⟩ = some (.map (some M)) ∧ (w3.alloc (.cells #[.pointer (some ⟨C, 0, none⟩), .string v, .pointer (some ⟨tb, 0, none⟩), .int .i64 s, .int .i64 0] 94)).cell? ⟨Dk, 1, none⟩ = some (.int .i64 0) := ⟨((Upd.refl w3 []).alloc _).cell hHeld.1 (fun h => by cases h), ((Upd.refl w3 []).alloc _).cell hHeld.2 (fun h => by cases h)⟩
      replace hHeld := hHeld2
      refine hK.out _ _ (fun _ => hHeld) ?_; clear hK K; (try simp only [Act.put, List.setIfInBounds_toArray, List.set_cons_zero, List.set_cons_succ])
      refine wpAnyX_one (i := 17) (by kernel_rfl) rfl rfl (fun K hK => ?_); (try simp only [List.getElem_toArray, List.getElem_cons_succ, List.getElem_cons_zero])
      obtain ⟨w5, hw5⟩ : ∃ w5, w3.alloc (.cells #[.pointer (some ⟨C, 0, none⟩), .string v, .pointer (some ⟨tb, 0, none⟩), .int .i64 s, .int .i64 0] 94) = w5 := ⟨_, rfl⟩
      have hU5 : Upd w3 [] w5 [] := hw5 ▸ (Upd.refl w3 []).alloc _
      have hO5 : w5.heap[w3.heap.size]? = some (.cells #[.pointer (some ⟨C, 0, none⟩), .string v, .pointer (some ⟨tb, 0, none⟩), .int .i64 s, .int .i64 0] 94 (0, 0)) := hw5 ▸ heap_alloc_new w3 _
      have hUw : Upd w (TrS lo hi) w5 (TrS lo hi) := (((Upd.refl w (TrS lo hi)).drew).drew).trans (hU3.trans ((hU5.weaken (T := TrS lo hi) (fun _ h => by cases h)).to (fun _ h => .inl h)))
      have hOp5 : OpensAt w5 M k hd (.pointer (some ⟨tb, 0, none⟩)) D := HD.out.opens.agree (hUw.block M HD.out.opens.own.lt hMn) fun b hb hlt => hUw.block b hlt (by rw [mem_TrS]; omega)
      have hT5 : TreeAt σ n w5 lo hi (.pointer (some ⟨tb, 0, none⟩)) := hT3.upd hU5 (fun b hb => by cases hb)
      have hCur5 : IsCur w5 hd C := (hCur.mono hhd.2).agree fun b _ hlt => hU5.block b hlt (fun h => by cases h)
      rw [hw5]
      obtain ⟨w6, hrun, hown6, hturn⟩ := hOp5.own.store int_keys Tryz.underlying47 HF.out.2.1 (key := .int .i64 (id : Int)) (val := .pointer (some ⟨w3.heap.size, 0, none⟩)) (Maps.keyOf_int_mk Tryz.underlying3 hw) (d := .lit (.int .u64 (w3.heap.size : Int))) (ps := []) rfl
      have hU6 : Upd w5 [M] w6 [M] := (Upd.refl w5 [M]).grown hturn.grown (fun x e => by cases e; exact .inl (by simp))
      have hU : Upd w (M :: TrS lo hi) w6 (M :: TrS lo hi) := ((hUw.weaken (T := M :: TrS lo hi) (fun x h => List.mem_cons_of_mem _ h)).to (T := M :: TrS lo hi) (fun x h => .inl h)).trans ((hU6.weaken (T := M :: TrS lo hi) (fun x h => by simp at h; simp [h])).to (T := M :: TrS lo hi) (fun x h => .inl h))
      have hkeep : ∀ b, hd ≤ b → b < w5.heap.size → w6.heap[b]? = w5.heap[b]? := fun b hb hlt => hU6.block b hlt (by simp; omega)
      have hT6 : TreeAt σ n w6 lo hi (.pointer (some ⟨tb, 0, none⟩)) := hT5.upd hU6 (fun b hb => by simp at hb; subst hb; omega)
      have hsz3 : hd ≤ w3.heap.size := by have h1 := hU3.size; have h2 : w.drew.drew.heap.size = w.heap.size := rfl; omega
      have hDk6 : w6.heap[Dk]? = some (.cells #[.int .i64 most, .int .i64 0, .map (some M)] 49 (0, 0)) := hU.keeps HD.out.desk (by simp only [List.mem_cons, not_or]; exact ⟨fun e => hlow.2.2.2.2.2 e.symm, hDn⟩)
      have hOpens6 : OpensAt w6 M (k + 1) hd (.pointer (some ⟨tb, 0, none⟩)) (D.put (.int .i64 (id : Int)) (.lit (.int .u64 (w3.heap.size : Int)))) := by
        refine ⟨hown6, fun id' hid' => ?_⟩
        by_cases e : id' = (id : Int)
        · subst e
          refine ⟨w3.heap.size, Maps.atKey_put_same hOp5.tidy.isMap (show WideAt.IsKeyLit (Lit.int .i64 (id : Int)) from trivial) _ _, C, v, s, 0, hsz3, (hkeep _ hsz3 (lt_of_block hO5)).trans hO5, hCur5.agree hkeep⟩
        · rw [hasI_put hOp5.tidy] at hid'
          simp only [e, decide_false, Bool.false_or] at hid'
          obtain ⟨O, h1, h2⟩ := hOp5.els id' hid'
          exact ⟨O, (Maps.atKey_put_other (lit_ne e) _ _).trans h1, h2.agree hkeep⟩
      unfold Oper.wp
      have hexec : ∀ (ev : Operand → Value) (o : Oper), o.op = .mapUpdate 47 (.tmp 31) (.tmp 32) (.tmp 44) → ev (.tmp 31) = .map (some M) → ev (.tmp 32) = .int .i64 id → ev (.tmp 44) = .pointer (some ⟨w3.heap.size, 0, none⟩) → (execOp ev o).run Tryz.prog w5 = .ok .skip w6 := fun ev o ho h1 h2 h3 => by
        simp only [execOp, ho, h1, h2, h3, Sem.run_bind, hrun]
        rfl
      rw [hexec _ _ rfl rfl rfl rfl]
      simp only [Oper.upon]
      refine hK.out _ _ (fun h => absurd rfl h) ?_; clear hK K; refine wpAnyX_done (by kernel_rfl) ?_ _; (try simp only [Act.put, List.setIfInBounds_toArray, List.set_cons_zero, List.set_cons_succ])
      go_wp2
      go_ret2
      exact ⟨id, rfl, h1, HFree.out, HA.out, hU, hT6, _, hDk6, hOpens6, hlow⟩
    · have HHas := Lib.hid hhas
      have hb : id ≤ 1001 := by have := HF.out.2.2.1; omega
      clear hall hid hhas hw
      go_wp2
      go_roundw
      case rel => exact ⟨id + 1, congrArg (Value.int .i64) (by omega), by omega, fun j h2 h3 => by
        by_cases e : j = id
        · rw [e]; exact HHas.out
        · exact HA.out j h2 (by omega), trivial⟩
      case measure =>
        have := HI.out
        simp only [natOfV]
        omega

end Go.Proofs.YtlnhacbdbhmgkaaGreatDoor
