/- The chain's public functions, on: Remove. -/
import Derived.Test.YtgcemlilfdjjlaaChainE
namespace Go.Proofs.Ytgcemlilfdjjlaa
open Go.RowKit

theorem Lay.drewN {w : World} {b : Nat} {m : M} {na ne : Nat} {va ve : Value} (h : Lay w b m na ne va ve) (k : Nat) : Lay (w.drewN k) b m na ne va ve :=
  ⟨h.blk, h.tabA, h.tabE, h.hna, h.hne, h.hc, h.hl, h.lk0, h.en0⟩

theorem WF.next_mem {m : M} {f : Nat → List Nat} (_ : WF m f) {n k x : Nat} {A B : List Nat} (hf : f n = A ++ k :: B) (hx : B.head? = some x) : x ∈ f n := by
  rw [hf]; exact List.mem_append.2 (.inr (List.mem_cons_of_mem _ (List.mem_of_head? hx)))
theorem WF.next_ne {m : M} {f : Nat → List Nat} (h : WF m f) {n k : Nat} {A B : List Nat} (hf : f n = A ++ k :: B) : B.head? ≠ some k := by
  intro e
  have := h.nodup n
  rw [hf, List.nodup_append] at this
  exact (List.nodup_cons.1 this.2.1).1 (List.mem_of_head? e)

theorem cells_are {w : World} {g c : Nat} {l l' : Link} (h : w.cell? ⟨g, c * 3, none⟩ = some (.int .i64 l.list) ∧ w.cell? ⟨g, c * 3 + 1, none⟩ = some (.int .i64 l.prev) ∧ w.cell? ⟨g, c * 3 + 2, none⟩ = some (.int .i64 l.next)) (e : l = l') :
    w.cell? ⟨g, c * 3, none⟩ = some (.int .i64 l'.list) ∧ w.cell? ⟨g, c * 3 + 1, none⟩ = some (.int .i64 l'.prev) ∧ w.cell? ⟨g, c * 3 + 2, none⟩ = some (.int .i64 l'.next) := by
  subst e; exact h

def RemoveR (C : Nat) (f : Nat → List Nat) (c r : Int) (f' : Nat → List Nat) : Prop :=
  (Out c C ∧ r = 42 ∧ f' = f) ∨ (¬ Out c C ∧ (∀ n, c.toNat ∉ f n) ∧ r = 44 ∧ f' = f) ∨ (¬ Out c C ∧ ∃ n A B, f n = A ++ c.toNat :: B ∧ r = 0 ∧ f' = put f n (A ++ B))

set_option maxHeartbeats 1000000 in
theorem remove_ok {b : Nat} {m : M} {na ne : Nat} {va ve : Value} {f : Nat → List Nat} (c n : Nat) (A B : List Nat) (w : World) (hL : Lay w b m na ne va ve) (hW : WF m f) (hf : f n = A ++ c :: B) :
    Calls Try.prog 18 #[.pointer (some ⟨b, 0, none⟩), .int .i64 c] w (ChangeIs w b m.cells m.lists (feet b va ve) (RemoveR m.cells f c)) := by
  have hmem : c ∈ f n := by rw [hf]; simp
  have hlk := hW.link n A c B hf
  have hkz : (m.lk c).list ≠ 0 := hW.linked_ne hmem
  have hclt := hL.linked_lt hkz
  have hna := hL.hna
  have hne := hL.end_lt hW hmem
  have hHC : ¬ Out c m.cells := by unfold Out; omega
  have HC := Lib.hid hHC
  have hnl := hW.lt_lists hmem
  have hl := hL.hl
  have hb2 := hL.hc
  have hW' := hW.remove hf
  obtain ⟨g, cap, hv, hg⟩ := hL.slice_a hclt
  obtain ⟨g2, cap2, hv2, hg2⟩ := hL.slice_e hne
  have hgg : g ≠ g2 := fun e => hL.tabA.ne' hL.tabE (by decide) g hg (by rw [hg2, e])
  have hgb : g ≠ b := fun e => hL.tabA.ne hL.blk (by decide) (by rw [hg, e])
  have hgb2 : g2 ≠ b := fun e => hL.tabE.ne hL.blk (by decide) (by rw [hg2, e])
  have hx := hL.link_cells hg hclt
  rw [hlk] at hx
  obtain ⟨hx0, hx1, hx2⟩ : w.cell? ⟨g, c * 3, none⟩ = some (.int .i64 (n + 1)) ∧ w.cell? ⟨g, c * 3 + 1, none⟩ = some (.int .i64 (numOf A.getLast?)) ∧ w.cell? ⟨g, c * 3 + 2, none⟩ = some (.int .i64 (numOf B.head?)) := hx
  obtain ⟨he0, he1, he2⟩ := hL.end_cells hg2 hne
  have h1 := hL.c1
  have h3 := hL.c3
  have hfr := fun k => hL.tabA.free hg k
  have hfr2 := fun k => hL.tabE.free hg2 k
  have HL := Lib.hid hL
  have HG := Lib.hid hg
  have HG2 := Lib.hid hg2
  have HF := Lib.hid hf
  have hsz : (m.en n).size = (f n).length := by rw [hW.ends n]
  have s1 := hW.length n
  have s2 := List.length_pos_of_mem hmem
  have s3 : (m.en n).size ≤ 1048576 := by omega
  have s4 : 1 ≤ (m.en n).size := by omega
  clear hsz s1 s2 hf hL hg hg2 hHC
  subst hv hv2
  cases hp : A.getLast? with
  | none =>
    cases hq : B.head? with
    | none =>
      rw [hp, hq] at hW' hlk
      rw [hp] at hx1
      rw [hq] at hx2
      simp only [numOf] at hx1 hx2
      have HW := Lib.hid hW'
      have HLK := Lib.hid hlk
      clear hp hq hW' hlk
      go_enter Try.func18, Try.ntmps18
      go_wp2_with (go_at_call 28; refine (linked_ok c w HL.out hkz HG.out).mono ?_; rintro e w' ⟨rfl, rfl⟩)
      go_quiet (fail)
      go_wp2
      have L1 := (HL.out.drewN nq).setSize rfl hne ((m.en n).size - 1)
      have U1 : Upd w (feet b (.slice (some ⟨g, 0, none⟩) na cap) (.slice (some ⟨g2, 0, none⟩) ne cap2)) ((w.drewN nq).setCell ⟨g2, n * 3 + 2, none⟩ (.int .i64 ((m.en n).size - 1))) (feet b (.slice (some ⟨g, 0, none⟩) na cap) (.slice (some ⟨g2, 0, none⟩) ne cap2)) := ((Upd.refl w _).drewN nq).setCell (a := ⟨g2, n * 3 + 2, none⟩) (.inl (feet_e HG2.out)) _
      go_ret
      exact ⟨0, _, _, rfl, ⟨_, _, _, _, _, (((((L1.setFirst rfl hne (-1)).setLast rfl hne (-1)).setList rfl hclt 0).setPrev rfl hclt 0).setNext rfl hclt 0), HW.out, rfl, rfl, rfl⟩, (((((U1.setCell (a := ⟨g2, _, none⟩) (.inl (feet_e HG2.out)) _).setCell (a := ⟨g2, _, none⟩) (.inl (feet_e HG2.out)) _).setCell (a := ⟨g, _, none⟩) (.inl (feet_a HG.out)) _).setCell (a := ⟨g, _, none⟩) (.inl (feet_a HG.out)) _).setCell (a := ⟨g, _, none⟩) (.inl (feet_a HG.out)) _), .inr (.inr ⟨HC.out, n, A, B, HF.out, rfl, rfl⟩)⟩
    | some q =>
      rw [hp, hq] at hW' hlk
      rw [hp] at hx1
      rw [hq] at hx2
      simp only [numOf] at hx1 hx2
      have hqn := HL.out.linked_lt (hW.linked_ne (hW.next_mem HF.out hq))
      have hqc : q ≠ c := fun e => hW.next_ne HF.out (by rw [hq, e])
      have n0 : ¬ (c * 3 = q * 3 + 1) := by omega
      have n1 : ¬ (c * 3 + 1 = q * 3 + 1) := by omega
      have n2 : ¬ (c * 3 + 2 = q * 3 + 1) := by omega
      have n3 : ¬ (q * 3 + 1 = c * 3) := by omega
      have n4 : ¬ (q * 3 + 1 = c * 3 + 1) := by omega
      have n5 : ¬ (q * 3 + 1 = c * 3 + 2) := by omega
      have HW := Lib.hid hW'
      have HLK := Lib.hid hlk
      clear hp hq hW' hlk
      go_enter Try.func18, Try.ntmps18
      go_wp2_with (go_at_call 28; refine (linked_ok c w HL.out hkz HG.out).mono ?_; rintro e w' ⟨rfl, rfl⟩)
      go_quiet (fail)
      go_wp2
      have L1 := (HL.out.drewN nq).setSize rfl hne ((m.en n).size - 1)
      have U1 : Upd w (feet b (.slice (some ⟨g, 0, none⟩) na cap) (.slice (some ⟨g2, 0, none⟩) ne cap2)) ((w.drewN nq).setCell ⟨g2, n * 3 + 2, none⟩ (.int .i64 ((m.en n).size - 1))) (feet b (.slice (some ⟨g, 0, none⟩) na cap) (.slice (some ⟨g2, 0, none⟩) ne cap2)) := ((Upd.refl w _).drewN nq).setCell (a := ⟨g2, n * 3 + 2, none⟩) (.inl (feet_e HG2.out)) _
      have L3 := L1.setFirst rfl hne q
      have U3 := U1.setCell (a := ⟨g2, n * 3, none⟩) (.inl (feet_e HG2.out)) (.int .i64 (q : Int))
      clear L1 U1
      clear hx0 hx1 hx2 he0 he1 he2 h1 h3 hfr hfr2
      generalize (((w.drewN nq).setCell ⟨g2, n * 3 + 2, none⟩ (.int .i64 ((m.en n).size - 1))).setCell ⟨g2, n * 3, none⟩ (.int .i64 (q : Int))) = W2 at *
      have h1 := L3.c1
      have h3 := L3.c3
      have hfr := fun k => L3.tabA.free HG.out k
      have hfr2 := fun k => L3.tabE.free HG2.out k
      obtain ⟨hx0, hx1, hx2⟩ : W2.cell? ⟨g, c * 3, none⟩ = some (.int .i64 (n + 1)) ∧ W2.cell? ⟨g, c * 3 + 1, none⟩ = some (.int .i64 (-1)) ∧ W2.cell? ⟨g, c * 3 + 2, none⟩ = some (.int .i64 (q : Int)) := cells_are (L3.link_cells HG.out hclt) (by exact HLK.out)
      obtain ⟨he0, he1, he2⟩ := L3.end_cells HG2.out hne
      obtain ⟨hj0, hj1, hj2⟩ := L3.link_cells HG.out hqn
      go_still_tail 15, (by kernel_rfl)
      change wpList _ _ _ _ _ W2.drew
      go_wp2
      go_ret
      exact ⟨0, _, _, rfl, ⟨_, _, _, _, _, ((((L3.setPrev rfl hqn (-1)).setList rfl hclt 0).setPrev rfl hclt 0).setNext rfl hclt 0).drew, HW.out, rfl, rfl, rfl⟩, ((((U3.setCell (a := ⟨g, _, none⟩) (.inl (feet_a HG.out)) _).setCell (a := ⟨g, _, none⟩) (.inl (feet_a HG.out)) _).setCell (a := ⟨g, _, none⟩) (.inl (feet_a HG.out)) _).setCell (a := ⟨g, _, none⟩) (.inl (feet_a HG.out)) _).drew, .inr (.inr ⟨HC.out, n, A, B, HF.out, rfl, rfl⟩)⟩
  | some p =>
    cases hq : B.head? with
    | none =>
      rw [hp, hq] at hW' hlk
      rw [hp] at hx1
      rw [hq] at hx2
      simp only [numOf] at hx1 hx2
      have hpn := HL.out.linked_lt (hW.linked_ne (hW.last_mem HF.out hp))
      have hpc : p ≠ c := fun e => hW.last_ne HF.out (by rw [hp, e])
      have m0 : ¬ (c * 3 = p * 3 + 2) := by omega
      have m1 : ¬ (c * 3 + 1 = p * 3 + 2) := by omega
      have m2 : ¬ (c * 3 + 2 = p * 3 + 2) := by omega
      have m3 : ¬ (p * 3 + 2 = c * 3) := by omega
      have m4 : ¬ (p * 3 + 2 = c * 3 + 1) := by omega
      have m5 : ¬ (p * 3 + 2 = c * 3 + 2) := by omega
      have HW := Lib.hid hW'
      have HLK := Lib.hid hlk
      clear hp hq hW' hlk
      go_enter Try.func18, Try.ntmps18
      go_wp2_with (go_at_call 28; refine (linked_ok c w HL.out hkz HG.out).mono ?_; rintro e w' ⟨rfl, rfl⟩)
      go_quiet (fail)
      go_wp2
      have L1 := (HL.out.drewN nq).setSize rfl hne ((m.en n).size - 1)
      have U1 : Upd w (feet b (.slice (some ⟨g, 0, none⟩) na cap) (.slice (some ⟨g2, 0, none⟩) ne cap2)) ((w.drewN nq).setCell ⟨g2, n * 3 + 2, none⟩ (.int .i64 ((m.en n).size - 1))) (feet b (.slice (some ⟨g, 0, none⟩) na cap) (.slice (some ⟨g2, 0, none⟩) ne cap2)) := ((Upd.refl w _).drewN nq).setCell (a := ⟨g2, n * 3 + 2, none⟩) (.inl (feet_e HG2.out)) _
      clear hx0 hx1 hx2 he0 he1 he2 h1 h3 hfr hfr2
      generalize ((w.drewN nq).setCell ⟨g2, n * 3 + 2, none⟩ (.int .i64 ((m.en n).size - 1))) = W1 at *
      have h1 := L1.c1
      have h3 := L1.c3
      have hfr := fun k => L1.tabA.free HG.out k
      have hfr2 := fun k => L1.tabE.free HG2.out k
      obtain ⟨hx0, hx1, hx2⟩ : W1.cell? ⟨g, c * 3, none⟩ = some (.int .i64 (n + 1)) ∧ W1.cell? ⟨g, c * 3 + 1, none⟩ = some (.int .i64 (p : Int)) ∧ W1.cell? ⟨g, c * 3 + 2, none⟩ = some (.int .i64 (-1)) := cells_are (L1.link_cells HG.out hclt) (by exact HLK.out)
      obtain ⟨he0, he1, he2⟩ := L1.end_cells HG2.out hne
      obtain ⟨hk0, hk1, hk2⟩ := L1.link_cells HG.out hpn
      go_still_tail 15, (by kernel_rfl)
      change wpList _ _ _ _ _ W1.drew
      go_wp2
      have L2 := L1.setNext rfl hpn (-1)
      have U2 := U1.setCell (a := ⟨g, p * 3 + 2, none⟩) (.inl (feet_a HG.out)) (.int .i64 (-1))
      go_ret
      exact ⟨0, _, _, rfl, ⟨_, _, _, _, _, ((((L2.setLast rfl hne p).setList rfl hclt 0).setPrev rfl hclt 0).setNext rfl hclt 0).drew, HW.out, rfl, rfl, rfl⟩, ((((U2.setCell (a := ⟨g2, _, none⟩) (.inl (feet_e HG2.out)) _).setCell (a := ⟨g, _, none⟩) (.inl (feet_a HG.out)) _).setCell (a := ⟨g, _, none⟩) (.inl (feet_a HG.out)) _).setCell (a := ⟨g, _, none⟩) (.inl (feet_a HG.out)) _).drew, .inr (.inr ⟨HC.out, n, A, B, HF.out, rfl, rfl⟩)⟩
    | some q =>
      rw [hp, hq] at hW' hlk
      rw [hp] at hx1
      rw [hq] at hx2
      simp only [numOf] at hx1 hx2
      have hpn := HL.out.linked_lt (hW.linked_ne (hW.last_mem HF.out hp))
      have hpc : p ≠ c := fun e => hW.last_ne HF.out (by rw [hp, e])
      have m0 : ¬ (c * 3 = p * 3 + 2) := by omega
      have m1 : ¬ (c * 3 + 1 = p * 3 + 2) := by omega
      have m2 : ¬ (c * 3 + 2 = p * 3 + 2) := by omega
      have m3 : ¬ (p * 3 + 2 = c * 3) := by omega
      have m4 : ¬ (p * 3 + 2 = c * 3 + 1) := by omega
      have m5 : ¬ (p * 3 + 2 = c * 3 + 2) := by omega
      have hqn := HL.out.linked_lt (hW.linked_ne (hW.next_mem HF.out hq))
      have hqc : q ≠ c := fun e => hW.next_ne HF.out (by rw [hq, e])
      have n0 : ¬ (c * 3 = q * 3 + 1) := by omega
      have n1 : ¬ (c * 3 + 1 = q * 3 + 1) := by omega
      have n2 : ¬ (c * 3 + 2 = q * 3 + 1) := by omega
      have n3 : ¬ (q * 3 + 1 = c * 3) := by omega
      have n4 : ¬ (q * 3 + 1 = c * 3 + 1) := by omega
      have n5 : ¬ (q * 3 + 1 = c * 3 + 2) := by omega
      have HW := Lib.hid hW'
      have HLK := Lib.hid hlk
      clear hp hq hW' hlk
      go_enter Try.func18, Try.ntmps18
      go_wp2_with (go_at_call 28; refine (linked_ok c w HL.out hkz HG.out).mono ?_; rintro e w' ⟨rfl, rfl⟩)
      go_quiet (fail)
      go_wp2
      have L1 := (HL.out.drewN nq).setSize rfl hne ((m.en n).size - 1)
      have U1 : Upd w (feet b (.slice (some ⟨g, 0, none⟩) na cap) (.slice (some ⟨g2, 0, none⟩) ne cap2)) ((w.drewN nq).setCell ⟨g2, n * 3 + 2, none⟩ (.int .i64 ((m.en n).size - 1))) (feet b (.slice (some ⟨g, 0, none⟩) na cap) (.slice (some ⟨g2, 0, none⟩) ne cap2)) := ((Upd.refl w _).drewN nq).setCell (a := ⟨g2, n * 3 + 2, none⟩) (.inl (feet_e HG2.out)) _
      clear hx0 hx1 hx2 he0 he1 he2 h1 h3 hfr hfr2
      generalize ((w.drewN nq).setCell ⟨g2, n * 3 + 2, none⟩ (.int .i64 ((m.en n).size - 1))) = W1 at *
      have h1 := L1.c1
      have h3 := L1.c3
      have hfr := fun k => L1.tabA.free HG.out k
      have hfr2 := fun k => L1.tabE.free HG2.out k
      obtain ⟨hx0, hx1, hx2⟩ : W1.cell? ⟨g, c * 3, none⟩ = some (.int .i64 (n + 1)) ∧ W1.cell? ⟨g, c * 3 + 1, none⟩ = some (.int .i64 (p : Int)) ∧ W1.cell? ⟨g, c * 3 + 2, none⟩ = some (.int .i64 (q : Int)) := cells_are (L1.link_cells HG.out hclt) (by exact HLK.out)
      obtain ⟨he0, he1, he2⟩ := L1.end_cells HG2.out hne
      obtain ⟨hk0, hk1, hk2⟩ := L1.link_cells HG.out hpn
      go_still_tail 15, (by kernel_rfl)
      change wpList _ _ _ _ _ W1.drew
      go_wp2
      have L2 := L1.setNext rfl hpn (q : Int)
      have U2 := U1.setCell (a := ⟨g, p * 3 + 2, none⟩) (.inl (feet_a HG.out)) (.int .i64 (q : Int))
      have L3 := L2.drew
      have U3 := U2.drew
      clear L2 U2 hk0 hk1 hk2
      clear hx0 hx1 hx2 he0 he1 he2 h1 h3 hfr hfr2
      generalize (W1.setCell ⟨g, p * 3 + 2, none⟩ (.int .i64 (q : Int))).drew = W2 at *
      have h1 := L3.c1
      have h3 := L3.c3
      have hfr := fun k => L3.tabA.free HG.out k
      have hfr2 := fun k => L3.tabE.free HG2.out k
      obtain ⟨hx0, hx1, hx2⟩ : W2.cell? ⟨g, c * 3, none⟩ = some (.int .i64 (n + 1)) ∧ W2.cell? ⟨g, c * 3 + 1, none⟩ = some (.int .i64 (p : Int)) ∧ W2.cell? ⟨g, c * 3 + 2, none⟩ = some (.int .i64 (q : Int)) := cells_are (L3.link_cells HG.out hclt) (by exact (if_neg (Ne.symm hpc)).trans HLK.out)
      obtain ⟨he0, he1, he2⟩ := L3.end_cells HG2.out hne
      obtain ⟨hj0, hj1, hj2⟩ := L3.link_cells HG.out hqn
      go_still_tail 15, (by kernel_rfl)
      change wpList _ _ _ _ _ W2.drew
      go_wp2
      go_ret
      exact ⟨0, _, _, rfl, ⟨_, _, _, _, _, ((((L3.setPrev rfl hqn p).setList rfl hclt 0).setPrev rfl hclt 0).setNext rfl hclt 0).drew, HW.out, rfl, rfl, rfl⟩, ((((U3.setCell (a := ⟨g, _, none⟩) (.inl (feet_a HG.out)) _).setCell (a := ⟨g, _, none⟩) (.inl (feet_a HG.out)) _).setCell (a := ⟨g, _, none⟩) (.inl (feet_a HG.out)) _).setCell (a := ⟨g, _, none⟩) (.inl (feet_a HG.out)) _).drew, .inr (.inr ⟨HC.out, n, A, B, HF.out, rfl, rfl⟩)⟩

set_option maxHeartbeats 400000 in
theorem remove_any {b C L : Nat} {f : Nat → List Nat} {fp : List Nat} (c : Int) (w : World) (h : Chain w b C L f fp) :
    Calls Try.prog 18 #[.pointer (some ⟨b, 0, none⟩), .int .i64 c] w (ChangeIs w b C L fp (RemoveR C f c)) := by
  obtain ⟨m, na, ne, va, ve, hL, hW, rfl, rfl, rfl⟩ := h
  by_cases hc : Out c m.cells
  · go_enter Try.func18, Try.ntmps18
    go_wp2_with (go_at_call 28; refine (linked_cell c w hL hc).mono ?_; rintro e w' ⟨rfl, rfl⟩)
    go_ret
    exact ⟨42, f, _, rfl, ⟨m, _, _, _, _, hL, hW, rfl, rfl, rfl⟩, Upd.refl _ _, .inl ⟨hc, rfl, rfl⟩⟩
  obtain ⟨c, rfl, hclt⟩ := Out.no hc
  have HC := Lib.hid hc
  clear hc
  by_cases hz : (m.lk c).list = 0
  · go_enter Try.func18, Try.ntmps18
    go_wp2_with (go_at_call 28; refine (linked_loose c w hL hclt hz).mono ?_; rintro e w' ⟨rfl, rfl⟩)
    go_ret
    exact ⟨44, f, _, rfl, ⟨m, _, _, _, _, hL, hW, rfl, rfl, rfl⟩, Upd.refl _ _, .inr (.inl ⟨HC.out, (hW.loose_iff c).1 hz, rfl, rfl⟩)⟩
  · obtain ⟨n, A, B, hf⟩ := hW.has hz
    exact remove_ok c n A B w hL hW hf

end Go.Proofs.Ytgcemlilfdjjlaa
