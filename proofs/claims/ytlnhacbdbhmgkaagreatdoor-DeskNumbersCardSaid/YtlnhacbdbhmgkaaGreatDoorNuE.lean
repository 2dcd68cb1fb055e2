/- desk.Close at whatever numbers are open. -/
import Derived.Test.YtlnhacbdbhmgkaaGreatDoorNuA
import Derived.BigQuiet
import Derived.IntWalk
namespace Go.Proofs.YtlnhacbdbhmgkaaGreatDoor
open Go.RowKit Go.Maps

theorem IsCur.shut {w : World} {hi C C' : Nat} (h : IsCur w hi C) (h' : IsCur w hi C') : IsCur (w.setCell ⟨C', 6, none⟩ (.bool true)) hi C := by
  refine ⟨h.lo, ?_, by rw [World.frozen?_setCell]; exact h.free, ?_⟩
  · obtain ⟨b, hb⟩ := h.closed
    by_cases e : C = C'
    · subst e
      exact ⟨true, World.cell?_setCell_same _ _ _ hb⟩
    · exact ⟨b, by rw [World.cell?_setCell_other _ _ _ _ (fun e' => e (by injection e' with e'; exact e'.symm))]; exact hb⟩
  · obtain ⟨n, hn⟩ := h.told
    exact ⟨n, by rw [World.cell?_setCell_other _ _ _ _ (fun e' => by injection e' with _ e'; cases e')]; exact hn⟩
theorem IsOpen.shut {w : World} {hi O C' : Nat} {t : Value} (h : IsOpen w hi t O) (h' : IsCur w hi C') : IsOpen (w.setCell ⟨C', 6, none⟩ (.bool true)) hi t O := by
  obtain ⟨C, v, s, k, h1, h2, h3⟩ := h
  refine ⟨C, v, s, k, h1, ?_, h3.shut h'⟩
  rw [Below.heap_setCell]
  · exact h2
  · intro e
    change O = C' at e
    subst e
    obtain ⟨b, hb⟩ := h'.closed
    unfold World.cell? at hb
    simp only [h2] at hb
    cases hb
theorem OpensAt.shut {w : World} {M n hi C : Nat} {t : Value} {D : DataW Unit} (h : OpensAt w M n hi t D) (h' : IsCur w hi C) (hM : M < hi) : OpensAt (w.setCell ⟨C, 6, none⟩ (.bool true)) M n hi t D := by
  refine ⟨h.own.setCell (a := ⟨C, 6, none⟩) (fun e => ?_) _, fun id hid => ?_⟩
  · have := h'.lo
    change M = C at e
    omega
  · obtain ⟨O, h1, h2⟩ := h.els id hid
    exact ⟨O, h1, h2.shut h'⟩

theorem shut_cur {w : World} {hi C : Nat} (h : IsCur w hi C) : Calls Tryz.prog 22 #[.pointer (some ⟨C, 0, none⟩)] w fun e w' => (∃ v, e = .returned v) ∧ (w' = w ∨ w' = w.setCell ⟨C, 6, none⟩ (.bool true)) := by
  obtain ⟨b, hb⟩ := h.closed
  have hf := h.free
  clear h
  cases b with
  | true =>
    go_enter Tryz.func22, Tryz.ntmps22
    go_wp2
    go_ret
    exact ⟨⟨_, rfl⟩, .inl rfl⟩
  | false =>
    go_enter Tryz.func22, Tryz.ntmps22
    go_wp2
    go_ret
    exact ⟨⟨_, rfl⟩, .inr rfl⟩

theorem close_none {w : World} {Dk M k lo hd : Nat} {most : Int} {t : Value} {D : DataW Unit} (hD : DeskAt w Dk M k lo hd most t D) {c : Int} (hw : (Lit.int .i64 c).wf = true) (hc : hasI D c = false) :
    Calls Tryz.prog 8 #[.pointer (some ⟨Dk, 0, none⟩), .int .i64 c] w fun e w' => e = .returned (.int .i64 241) ∧ w = w' := by
  have hdk := hD.desk
  have c2 : w.cell? ⟨Dk, 2, none⟩ = some (.map (some M)) := by unfold World.cell?; simp only [hdk]; rfl
  rcases hD.opens.look c hw with ⟨-, hrun⟩ | ⟨h, -⟩
  · clear hdk hD
    go_enter Tryz.func8, Tryz.ntmps8
    go_wp2
    go_ret
    exact ⟨rfl, rfl⟩
  · rw [hc] at h; cases h

/-- What Close leaves of the world. -/
def CloseR (σ : AS) (n : Nat) (w : World) (Dk M k lo hi hd : Nat) (most : Int) (t : Value) (D : DataW Unit) (c : Int) (w' : World) : Prop :=
  DeskAt w' Dk M k lo hd most t (D.del (.int .i64 c)) ∧ TreeAt σ n w' lo hi t ∧ ∃ C, hd ≤ C ∧ Upd w [M, C] w' [M, C]

set_option maxHeartbeats 1600000 in
theorem close_some {σ : AS} {n : Nat} {w : World} {Dk M k lo hi hd : Nat} {most : Int} {t : Value} {D : DataW Unit} (hT : TreeAt σ n w lo hi t) (hhd : hi ≤ hd) (hD : DeskAt w Dk M k lo hd most t D) {c : Int} (hw : (Lit.int .i64 c).wf = true) (hc : hasI D c = true) :
    Calls Tryz.prog 8 #[.pointer (some ⟨Dk, 0, none⟩), .int .i64 c] w fun e w' => e = .returned (.int .i64 0) ∧ CloseR σ n w Dk M k lo hi hd most t D c w' := by
  have hdk := hD.desk
  have c2 : w.cell? ⟨Dk, 2, none⟩ = some (.map (some M)) := by unfold World.cell?; simp only [hdk]; rfl
  rcases hD.opens.look c hw with ⟨h, -⟩ | ⟨-, O, hrun, -, C, sv, st, kk, hOlo, hOb, hCur⟩
  · rw [hc] at h; cases h
  · have o0 : w.cell? ⟨O, 0, none⟩ = some (.pointer (some ⟨C, 0, none⟩)) := by unfold World.cell?; simp only [hOb]; rfl
    have HD := Lib.hid hD
    have HT := Lib.hid hT
    have HO := Lib.hid (And.intro hOb (And.intro hCur hhd))
    clear hdk hD hT hOb hCur hOlo hhd
    go_enter Tryz.func8, Tryz.ntmps8
    go_wp2_with (first
      | (go_at_call 22; refine (shut_cur HO.out.2.1).mono ?_; rintro e w1 ⟨⟨v, rfl⟩, hw1⟩
         have hlow := HD.out.low
         have hOp1 : OpensAt w1 M k hd t D := by
           rcases hw1 with rfl | rfl
           · exact HD.out.opens
           · exact HD.out.opens.shut HO.out.2.1 (by omega)
         have hClo := HO.out.2.1.lo
         have hU1 : Upd w [M, C] w1 [M, C] := by
           rcases hw1 with rfl | rfl
           · exact Upd.refl _ _
           · exact (Upd.refl w _).setCell (.inl (by simp)) _
         have hDk1 : w1.heap[Dk]? = some (.cells #[.int .i64 most, .int .i64 0, .map (some M)] 49 (0, 0)) := hU1.keeps HD.out.desk (by simp; omega)
         have c2' : w1.cell? ⟨Dk, 2, none⟩ = some (.map (some M)) := by unfold World.cell?; simp only [hDk1]; rfl
         have HP := Lib.hid (And.intro hOp1 (And.intro hU1 (And.intro hDk1 hlow)))
         clear hOp1 hU1 hDk1 hlow hw1)
      | (at_delete; refine wpList_delete_own _ rfl _ _ 47 3 rfl 89 int_keys Tryz.underlying47 refEl M k D rfl HP.out.1.own (.int .i64 c) (.int .i64 c) rfl (Maps.keyOf_int_mk Tryz.underlying3 hw) ?_; intro w2 hown2 hturn2))
    go_ret
    refine ⟨rfl, ?_⟩
    have hlow := HD.out.low
    have hClo := HO.out.2.1.lo
    have hU2 : Upd w1 [M] w2 [M] := (Upd.refl w1 [M]).grown hturn2.grown (fun x e => by cases e; exact .inl (by simp))
    have hU : Upd w [M, C] w2 [M, C] := HP.out.2.1.trans ((hU2.weaken (T := [M, C]) (fun x h => by simp at h; simp [h])).to (fun x h => .inl h))
    have hkeep : ∀ b, hd ≤ b → b < w1.heap.size → w2.heap[b]? = w1.heap[b]? := fun b hb hlt => hU2.block b hlt (by simp; omega)
    refine ⟨⟨hU2.keeps HP.out.2.2.1 (by simp; omega), ⟨hown2, fun id hid => ?_⟩, hlow⟩, HT.out.upd hU (fun b hb => ?_), C, hClo, hU⟩
    · rw [hasI_del] at hid
      simp only [Bool.and_eq_true, Bool.not_eq_true', decide_eq_false_iff_not] at hid
      obtain ⟨O', h1, h2⟩ := HP.out.1.els id hid.2
      exact ⟨O', (Maps.atKey_del_other (lit_ne hid.1) _).trans h1, h2.agree hkeep⟩
    · simp only [List.mem_cons, List.not_mem_nil, or_false] at hb
      have := HO.out.2.2
      omega

end Go.Proofs.YtlnhacbdbhmgkaaGreatDoor
