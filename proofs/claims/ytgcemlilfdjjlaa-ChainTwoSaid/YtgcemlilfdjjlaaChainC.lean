/- The chain's inner function insert. -/
import Derived.Test.YtgcemlilfdjjlaaChainB
namespace Go.Proofs.Ytgcemlilfdjjlaa
open Go.RowKit

def M.setL (m : M) (i : Nat) (f : Link → Link) : M := { m with lk := fun j => if j = i then f (m.lk j) else m.lk j }
def M.setE (m : M) (i : Nat) (f : Ends → Ends) : M := { m with en := fun j => if j = i then f (m.en j) else m.en j }

theorem setL_cells (m : M) (i f) : (m.setL i f).cells = m.cells := rfl
theorem setE_cells (m : M) (i f) : (m.setE i f).cells = m.cells := rfl
theorem setL_lists (m : M) (i f) : (m.setL i f).lists = m.lists := rfl
theorem setE_lists (m : M) (i f) : (m.setE i f).lists = m.lists := rfl

section
variable {w : World} {b : Nat} {m : M} {na ne : Nat} {va ve : Value}

theorem Lay.storeL (h : Lay w b m na ne va ve) {g cap i j : Nat} (hv : va = .slice (some ⟨g, 0, none⟩) na cap) (hi : i < na) (hj : j < 3) {x : Value} {f : Link → Link}
    (hf : ∀ l : Link, ∀ k, k < 3 → (f l).val k = if k = j then x else l.val k) : Lay (w.setCell ⟨g, i * 3 + j, none⟩ x) b (m.setL i f) na ne va ve := by
  have hg : va.ownBlock = some g := by rw [hv]; rfl
  refine ⟨?_, ?_, ?_, h.hna, h.hne, h.hc, h.hl, fun k hk => ?_, h.en0⟩
  · rw [heap_setCell_other _ _ _ _ (fun e => h.tabA.ne h.blk (by decide) (by rw [hg, e]))]; exact h.blk
  · refine (h.tabA.set hv i j hj x).congr fun i' j' _ hj' => ?_
    show (if i' = i ∧ j' = j then x else (m.lk i').val j') = (if i' = i then f (m.lk i') else m.lk i').val j'
    by_cases hi' : i' = i
    · subst hi'
      simp only [true_and, if_true, hf _ _ hj']
    · rw [if_neg (fun e => hi' e.1), if_neg hi']
  · exact h.tabE.keeps fun g' e => heap_setCell_other _ _ _ _ (fun e' => h.tabE.ne' h.tabA (by decide) g' e (by rw [hg, e']))
  · show (if k = i then f (m.lk k) else m.lk k) = _
    rw [if_neg (by omega)]
    exact h.lk0 k hk

theorem Lay.storeE (h : Lay w b m na ne va ve) {g cap i j : Nat} (hv : ve = .slice (some ⟨g, 0, none⟩) ne cap) (hi : i < ne) (hj : j < 3) {x : Value} {f : Ends → Ends}
    (hf : ∀ l : Ends, ∀ k, k < 3 → (f l).val k = if k = j then x else l.val k) : Lay (w.setCell ⟨g, i * 3 + j, none⟩ x) b (m.setE i f) na ne va ve := by
  have hg : ve.ownBlock = some g := by rw [hv]; rfl
  refine ⟨?_, ?_, ?_, h.hna, h.hne, h.hc, h.hl, h.lk0, fun k hk => ?_⟩
  · rw [heap_setCell_other _ _ _ _ (fun e => h.tabE.ne h.blk (by decide) (by rw [hg, e]))]; exact h.blk
  · exact h.tabA.keeps fun g' e => heap_setCell_other _ _ _ _ (fun e' => h.tabA.ne' h.tabE (by decide) g' e (by rw [hg, e']))
  · refine (h.tabE.set hv i j hj x).congr fun i' j' _ hj' => ?_
    show (if i' = i ∧ j' = j then x else (m.en i').val j') = (if i' = i then f (m.en i') else m.en i').val j'
    by_cases hi' : i' = i
    · subst hi'
      simp only [true_and, if_true, hf _ _ hj']
    · rw [if_neg (fun e => hi' e.1), if_neg hi']
  · show (if k = i then f (m.en k) else m.en k) = _
    rw [if_neg (by omega)]
    exact h.en0 k hk

def Link.setList (x : Int) (l : Link) : Link := ⟨x, l.prev, l.next⟩
def Link.setPrev (x : Int) (l : Link) : Link := ⟨l.list, x, l.next⟩
def Link.setNext (x : Int) (l : Link) : Link := ⟨l.list, l.prev, x⟩
def Ends.setFirst (x : Int) (l : Ends) : Ends := ⟨x, l.last, l.size⟩
def Ends.setLast (x : Int) (l : Ends) : Ends := ⟨l.first, x, l.size⟩
def Ends.setSize (x : Int) (l : Ends) : Ends := ⟨l.first, l.last, x⟩

theorem Lay.setList (h : Lay w b m na ne va ve) {g cap i : Nat} (hv : va = .slice (some ⟨g, 0, none⟩) na cap) (hi : i < na) (x : Int) : Lay (w.setCell ⟨g, i * 3, none⟩ (.int .i64 x)) b (m.setL i (Link.setList x)) na ne va ve :=
  h.storeL (j := 0) hv hi (by omega) (fun l k hk => by match k with | 0 => rfl | 1 => rfl | 2 => rfl)
theorem Lay.setPrev (h : Lay w b m na ne va ve) {g cap i : Nat} (hv : va = .slice (some ⟨g, 0, none⟩) na cap) (hi : i < na) (x : Int) : Lay (w.setCell ⟨g, i * 3 + 1, none⟩ (.int .i64 x)) b (m.setL i (Link.setPrev x)) na ne va ve :=
  h.storeL (j := 1) hv hi (by omega) (fun l k hk => by match k with | 0 => rfl | 1 => rfl | 2 => rfl)
theorem Lay.setNext (h : Lay w b m na ne va ve) {g cap i : Nat} (hv : va = .slice (some ⟨g, 0, none⟩) na cap) (hi : i < na) (x : Int) : Lay (w.setCell ⟨g, i * 3 + 2, none⟩ (.int .i64 x)) b (m.setL i (Link.setNext x)) na ne va ve :=
  h.storeL (j := 2) hv hi (by omega) (fun l k hk => by match k with | 0 => rfl | 1 => rfl | 2 => rfl)
theorem Lay.setFirst (h : Lay w b m na ne va ve) {g cap i : Nat} (hv : ve = .slice (some ⟨g, 0, none⟩) ne cap) (hi : i < ne) (x : Int) : Lay (w.setCell ⟨g, i * 3, none⟩ (.int .i64 x)) b (m.setE i (Ends.setFirst x)) na ne va ve :=
  h.storeE (j := 0) hv hi (by omega) (fun l k hk => by match k with | 0 => rfl | 1 => rfl | 2 => rfl)
theorem Lay.setLast (h : Lay w b m na ne va ve) {g cap i : Nat} (hv : ve = .slice (some ⟨g, 0, none⟩) ne cap) (hi : i < ne) (x : Int) : Lay (w.setCell ⟨g, i * 3 + 1, none⟩ (.int .i64 x)) b (m.setE i (Ends.setLast x)) na ne va ve :=
  h.storeE (j := 1) hv hi (by omega) (fun l k hk => by match k with | 0 => rfl | 1 => rfl | 2 => rfl)
theorem Lay.setSize (h : Lay w b m na ne va ve) {g cap i : Nat} (hv : ve = .slice (some ⟨g, 0, none⟩) ne cap) (hi : i < ne) (x : Int) : Lay (w.setCell ⟨g, i * 3 + 2, none⟩ (.int .i64 x)) b (m.setE i (Ends.setSize x)) na ne va ve :=
  h.storeE (j := 2) hv hi (by omega) (fun l k hk => by match k with | 0 => rfl | 1 => rfl | 2 => rfl)
end

/-- The first four steps of insert: the cell's link, the list's size. -/
def M.put0 (m : M) (n c : Nat) (p q : Int) : M :=
  ((((m.setL c (Link.setList (n + 1))).setL c (Link.setPrev p)).setL c (Link.setNext q)).setE n (Ends.setSize ((m.en n).size + 1)))
def M.put1 (m : M) (n c : Nat) : Option Nat → M
  | none => m.setE n (Ends.setFirst c)
  | some p => m.setL p (Link.setNext c)
def M.put2 (m : M) (n c : Nat) : Option Nat → M
  | none => m.setE n (Ends.setLast c)
  | some q => m.setL q (Link.setPrev c)
def numOf : Option Nat → Int
  | none => -1
  | some p => p
def M.insert (m : M) (n c : Nat) (p q : Option Nat) : M := ((m.put0 n c (numOf p) (numOf q)).put1 n c p).put2 n c q

set_option maxHeartbeats 800000 in
theorem insert_any {b : Nat} {m : M} {na ne : Nat} {va ve : Value} (n c : Nat) (p q : Option Nat) (w : World) (h : Lay w b m na ne va ve) (hn : n < ne) (hc : c < na) (hp : ∀ x, p = some x → x < na) (hq : ∀ x, q = some x → x < na)
    (hpc : p ≠ some c) (hqc : q ≠ some c) (hpq : ∀ x, p = some x → q ≠ some x) (hs : (m.en n).size < 1048576) (hs0 : 0 ≤ (m.en n).size) :
    Calls Try.prog 30 #[.pointer (some ⟨b, 0, none⟩), .int .i64 n, .int .i64 c, .int .i64 (numOf p), .int .i64 (numOf q)] w fun e w' => e = .returned (.tuple #[]) ∧ Lay w' b (m.insert n c p q) na ne va ve ∧ Upd w (feet b va ve) w' (feet b va ve) := by
  have h1 := h.c1
  have h3 := h.c3
  have hb1 := h.hna
  have hb2 := h.hne
  have hb3 := h.hc
  have hb4 := h.hl
  obtain ⟨g, cap, hv, hg, _, hcell, hfr, _⟩ := h.tabA.block (by omega)
  obtain ⟨g2, cap2, hv2, hg2, _, hcell2, hfr2, _⟩ := h.tabE.block (by omega)
  have hne : g ≠ g2 := fun e => h.tabA.ne' h.tabE (by decide) g hg (by rw [hg2, e])
  have hgb : g ≠ b := fun e => h.tabA.ne h.blk (by decide) (by rw [hg, e])
  have hgb2 : g2 ≠ b := fun e => h.tabE.ne h.blk (by decide) (by rw [hg2, e])
  have HL := Lib.hid h
  have HG := Lib.hid hg
  have HG2 := Lib.hid hg2
  clear h hg hg2
  subst hv hv2
  have hk0 : w.cell? ⟨g, c * 3, none⟩ = some (.int .i64 (m.lk c).list) := hcell c 0 hc (by omega)
  have hk1 : w.cell? ⟨g, c * 3 + 1, none⟩ = some (.int .i64 (m.lk c).prev) := hcell c 1 hc (by omega)
  have hk2 : w.cell? ⟨g, c * 3 + 2, none⟩ = some (.int .i64 (m.lk c).next) := hcell c 2 hc (by omega)
  have he0 : w.cell? ⟨g2, n * 3, none⟩ = some (.int .i64 (m.en n).first) := hcell2 n 0 hn (by omega)
  have he1 : w.cell? ⟨g2, n * 3 + 1, none⟩ = some (.int .i64 (m.en n).last) := hcell2 n 1 hn (by omega)
  have he2 : w.cell? ⟨g2, n * 3 + 2, none⟩ = some (.int .i64 (m.en n).size) := hcell2 n 2 hn (by omega)
  clear hcell2
  cases p with
  | none =>
    cases q with
    | none =>
      clear hcell hp hq hpc hqc hpq
      simp only [numOf]
      go_enter Try.func30, Try.ntmps30
      go_wp2
      go_end0
      clear hk0 hk1 hk2 he0 he1 he2
      have H := HL.out
      have A : ∀ o v w', Upd w (feet b (.slice (some ⟨g, 0, none⟩) na cap) (.slice (some ⟨g2, 0, none⟩) ne cap2)) w' (feet b (.slice (some ⟨g, 0, none⟩) na cap) (.slice (some ⟨g2, 0, none⟩) ne cap2)) → Upd w (feet b (.slice (some ⟨g, 0, none⟩) na cap) (.slice (some ⟨g2, 0, none⟩) ne cap2)) (w'.setCell ⟨g, o, none⟩ v) (feet b (.slice (some ⟨g, 0, none⟩) na cap) (.slice (some ⟨g2, 0, none⟩) ne cap2)) := fun o v w' h => h.setCell (a := ⟨g, o, none⟩) (.inl (feet_a HG.out)) v
      have E : ∀ o v w', Upd w (feet b (.slice (some ⟨g, 0, none⟩) na cap) (.slice (some ⟨g2, 0, none⟩) ne cap2)) w' (feet b (.slice (some ⟨g, 0, none⟩) na cap) (.slice (some ⟨g2, 0, none⟩) ne cap2)) → Upd w (feet b (.slice (some ⟨g, 0, none⟩) na cap) (.slice (some ⟨g2, 0, none⟩) ne cap2)) (w'.setCell ⟨g2, o, none⟩ v) (feet b (.slice (some ⟨g, 0, none⟩) na cap) (.slice (some ⟨g2, 0, none⟩) ne cap2)) := fun o v w' h => h.setCell (a := ⟨g2, o, none⟩) (.inl (feet_e HG2.out)) v
      exact ⟨rfl, (((((H.setList rfl hc _).setPrev rfl hc _).setNext rfl hc _).setSize rfl hn _).setFirst rfl hn _).setLast rfl hn _, (E _ _ _ (E _ _ _ (E _ _ _ (A _ _ _ (A _ _ _ (A _ _ _ (Upd.refl w _)))))))⟩
    | some q =>
      have hq' := hq q rfl
      have hqc' : q ≠ c := fun e => hqc (by rw [e])
      have hk3 : w.cell? ⟨g, q * 3 + 1, none⟩ = some (.int .i64 (m.lk q).prev) := hcell q 1 hq' (by omega)
      have n0 : ¬ (c * 3 = q * 3 + 1) := by omega
      have n1 : ¬ (c * 3 + 1 = q * 3 + 1) := by omega
      have n2 : ¬ (c * 3 + 2 = q * 3 + 1) := by omega
      clear hcell hp hq hpc hqc hpq
      simp only [numOf]
      go_enter Try.func30, Try.ntmps30
      go_wp2
      go_end0
      clear hk0 hk1 hk2 he0 he1 he2
      have H := HL.out
      have A : ∀ o v w', Upd w (feet b (.slice (some ⟨g, 0, none⟩) na cap) (.slice (some ⟨g2, 0, none⟩) ne cap2)) w' (feet b (.slice (some ⟨g, 0, none⟩) na cap) (.slice (some ⟨g2, 0, none⟩) ne cap2)) → Upd w (feet b (.slice (some ⟨g, 0, none⟩) na cap) (.slice (some ⟨g2, 0, none⟩) ne cap2)) (w'.setCell ⟨g, o, none⟩ v) (feet b (.slice (some ⟨g, 0, none⟩) na cap) (.slice (some ⟨g2, 0, none⟩) ne cap2)) := fun o v w' h => h.setCell (a := ⟨g, o, none⟩) (.inl (feet_a HG.out)) v
      have E : ∀ o v w', Upd w (feet b (.slice (some ⟨g, 0, none⟩) na cap) (.slice (some ⟨g2, 0, none⟩) ne cap2)) w' (feet b (.slice (some ⟨g, 0, none⟩) na cap) (.slice (some ⟨g2, 0, none⟩) ne cap2)) → Upd w (feet b (.slice (some ⟨g, 0, none⟩) na cap) (.slice (some ⟨g2, 0, none⟩) ne cap2)) (w'.setCell ⟨g2, o, none⟩ v) (feet b (.slice (some ⟨g, 0, none⟩) na cap) (.slice (some ⟨g2, 0, none⟩) ne cap2)) := fun o v w' h => h.setCell (a := ⟨g2, o, none⟩) (.inl (feet_e HG2.out)) v
      exact ⟨rfl, (((((H.setList rfl hc _).setPrev rfl hc _).setNext rfl hc _).setSize rfl hn _).setFirst rfl hn _).setPrev rfl hq' _, (A _ _ _ (E _ _ _ (E _ _ _ (A _ _ _ (A _ _ _ (A _ _ _ (Upd.refl w _)))))))⟩
  | some p =>
    cases q with
    | none =>
      have hp' := hp p rfl
      have hpc' : p ≠ c := fun e => hpc (by rw [e])
      have hk4 : w.cell? ⟨g, p * 3 + 2, none⟩ = some (.int .i64 (m.lk p).next) := hcell p 2 hp' (by omega)
      have m0 : ¬ (c * 3 = p * 3 + 2) := by omega
      have m1 : ¬ (c * 3 + 1 = p * 3 + 2) := by omega
      have m2 : ¬ (c * 3 + 2 = p * 3 + 2) := by omega
      clear hcell hp hq hpc hqc hpq
      simp only [numOf]
      go_enter Try.func30, Try.ntmps30
      go_wp2
      go_end0
      clear hk0 hk1 hk2 he0 he1 he2
      have H := HL.out
      have A : ∀ o v w', Upd w (feet b (.slice (some ⟨g, 0, none⟩) na cap) (.slice (some ⟨g2, 0, none⟩) ne cap2)) w' (feet b (.slice (some ⟨g, 0, none⟩) na cap) (.slice (some ⟨g2, 0, none⟩) ne cap2)) → Upd w (feet b (.slice (some ⟨g, 0, none⟩) na cap) (.slice (some ⟨g2, 0, none⟩) ne cap2)) (w'.setCell ⟨g, o, none⟩ v) (feet b (.slice (some ⟨g, 0, none⟩) na cap) (.slice (some ⟨g2, 0, none⟩) ne cap2)) := fun o v w' h => h.setCell (a := ⟨g, o, none⟩) (.inl (feet_a HG.out)) v
      have E : ∀ o v w', Upd w (feet b (.slice (some ⟨g, 0, none⟩) na cap) (.slice (some ⟨g2, 0, none⟩) ne cap2)) w' (feet b (.slice (some ⟨g, 0, none⟩) na cap) (.slice (some ⟨g2, 0, none⟩) ne cap2)) → Upd w (feet b (.slice (some ⟨g, 0, none⟩) na cap) (.slice (some ⟨g2, 0, none⟩) ne cap2)) (w'.setCell ⟨g2, o, none⟩ v) (feet b (.slice (some ⟨g, 0, none⟩) na cap) (.slice (some ⟨g2, 0, none⟩) ne cap2)) := fun o v w' h => h.setCell (a := ⟨g2, o, none⟩) (.inl (feet_e HG2.out)) v
      exact ⟨rfl, (((((H.setList rfl hc _).setPrev rfl hc _).setNext rfl hc _).setSize rfl hn _).setNext rfl hp' _).setLast rfl hn _, (E _ _ _ (A _ _ _ (E _ _ _ (A _ _ _ (A _ _ _ (A _ _ _ (Upd.refl w _)))))))⟩
    | some q =>
      have hp' := hp p rfl
      have hpc' : p ≠ c := fun e => hpc (by rw [e])
      have hk4 : w.cell? ⟨g, p * 3 + 2, none⟩ = some (.int .i64 (m.lk p).next) := hcell p 2 hp' (by omega)
      have m0 : ¬ (c * 3 = p * 3 + 2) := by omega
      have m1 : ¬ (c * 3 + 1 = p * 3 + 2) := by omega
      have m2 : ¬ (c * 3 + 2 = p * 3 + 2) := by omega
      have hq' := hq q rfl
      have hqc' : q ≠ c := fun e => hqc (by rw [e])
      have hk3 : w.cell? ⟨g, q * 3 + 1, none⟩ = some (.int .i64 (m.lk q).prev) := hcell q 1 hq' (by omega)
      have n0 : ¬ (c * 3 = q * 3 + 1) := by omega
      have n1 : ¬ (c * 3 + 1 = q * 3 + 1) := by omega
      have n2 : ¬ (c * 3 + 2 = q * 3 + 1) := by omega
      have k0 : ¬ (p * 3 + 2 = q * 3 + 1) := by omega
      clear hcell hp hq hpc hqc hpq
      simp only [numOf]
      go_enter Try.func30, Try.ntmps30
      go_wp2
      go_end0
      clear hk0 hk1 hk2 he0 he1 he2
      have H := HL.out
      have A : ∀ o v w', Upd w (feet b (.slice (some ⟨g, 0, none⟩) na cap) (.slice (some ⟨g2, 0, none⟩) ne cap2)) w' (feet b (.slice (some ⟨g, 0, none⟩) na cap) (.slice (some ⟨g2, 0, none⟩) ne cap2)) → Upd w (feet b (.slice (some ⟨g, 0, none⟩) na cap) (.slice (some ⟨g2, 0, none⟩) ne cap2)) (w'.setCell ⟨g, o, none⟩ v) (feet b (.slice (some ⟨g, 0, none⟩) na cap) (.slice (some ⟨g2, 0, none⟩) ne cap2)) := fun o v w' h => h.setCell (a := ⟨g, o, none⟩) (.inl (feet_a HG.out)) v
      have E : ∀ o v w', Upd w (feet b (.slice (some ⟨g, 0, none⟩) na cap) (.slice (some ⟨g2, 0, none⟩) ne cap2)) w' (feet b (.slice (some ⟨g, 0, none⟩) na cap) (.slice (some ⟨g2, 0, none⟩) ne cap2)) → Upd w (feet b (.slice (some ⟨g, 0, none⟩) na cap) (.slice (some ⟨g2, 0, none⟩) ne cap2)) (w'.setCell ⟨g2, o, none⟩ v) (feet b (.slice (some ⟨g, 0, none⟩) na cap) (.slice (some ⟨g2, 0, none⟩) ne cap2)) := fun o v w' h => h.setCell (a := ⟨g2, o, none⟩) (.inl (feet_e HG2.out)) v
      exact ⟨rfl, (((((H.setList rfl hc _).setPrev rfl hc _).setNext rfl hc _).setSize rfl hn _).setNext rfl hp' _).setPrev rfl hq' _, (A _ _ _ (A _ _ _ (E _ _ _ (A _ _ _ (A _ _ _ (A _ _ _ (Upd.refl w _)))))))⟩

end Go.Proofs.Ytgcemlilfdjjlaa
