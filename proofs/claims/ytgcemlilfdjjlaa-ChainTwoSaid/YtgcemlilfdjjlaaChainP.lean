/- The plain law of the chain: what the links and ends tell of the lists (no program in sight). -/
import Derived.Test.YtgcemlilfdjjlaaChainC
namespace Go.Proofs.Ytgcemlilfdjjlaa

structure WF (m : M) (f : Nat → List Nat) : Prop where
  small : ∀ n c, c ∈ f n → c < m.cells
  out : ∀ n, m.lists ≤ n → f n = []
  nodup : ∀ n, (f n).Nodup
  link : ∀ n A c B, f n = A ++ c :: B → m.lk c = ⟨n + 1, numOf A.getLast?, numOf B.head?⟩
  free : ∀ c, (∀ n, c ∉ f n) → m.lk c = Link.zero
  ends : ∀ n, m.en n = ⟨numOf (f n).head?, numOf (f n).getLast?, (f n).length⟩

def put (f : Nat → List Nat) (n : Nat) (l : List Nat) : Nat → List Nat := fun k => if k = n then l else f k

theorem put_same (f : Nat → List Nat) (n : Nat) (l : List Nat) : put f n l n = l := if_pos rfl
theorem put_other {f : Nat → List Nat} {n k : Nat} {l : List Nat} (h : k ≠ n) : put f n l k = f k := if_neg h

section
variable {m : M} {f : Nat → List Nat}

theorem WF.in_one (h : WF m f) {n k c : Nat} (hn : c ∈ f n) (hk : c ∈ f k) : n = k := by
  obtain ⟨A, B, hA⟩ := List.append_of_mem hn
  obtain ⟨C, D, hC⟩ := List.append_of_mem hk
  have h1 := h.link n A c B hA
  rw [h.link k C c D hC] at h1
  injection h1 with h1
  omega

theorem WF.linked (h : WF m f) {n c : Nat} (hn : c ∈ f n) : (m.lk c).list = n + 1 := by
  obtain ⟨A, B, hA⟩ := List.append_of_mem hn
  rw [h.link n A c B hA]

theorem WF.loose_iff (h : WF m f) (c : Nat) : (m.lk c).list = 0 ↔ ∀ n, c ∉ f n := by
  constructor
  · intro h0 n hn
    rw [h.linked hn] at h0
    omega
  · intro h0
    rw [h.free c h0]
    rfl

theorem WF.has (h : WF m f) {c : Nat} (hc : (m.lk c).list ≠ 0) : ∃ n A B, f n = A ++ c :: B := by
  apply Classical.byContradiction
  intro hn
  refine hc ((h.loose_iff c).2 fun n hm => ?_)
  obtain ⟨A, B, hA⟩ := List.append_of_mem hm
  exact hn ⟨n, A, B, hA⟩

theorem WF.lt_lists (h : WF m f) {n c : Nat} (hn : c ∈ f n) : n < m.lists := by
  rcases Nat.lt_or_ge n m.lists with hlt | hge
  · exact hlt
  · rw [h.out n hge] at hn; cases hn

theorem length_le_of_nodup {l : List Nat} {b : Nat} (hd : l.Nodup) (hb : ∀ x, x ∈ l → x < b) : l.length ≤ b := by
  have h1 : l ⊆ List.range b := fun x hx => List.mem_range.2 (hb x hx)
  have h2 := (List.nodup_range (n := b))
  have := List.Nodup.length_le_of_subset hd h1
  simpa using this

theorem WF.length (h : WF m f) (n : Nat) : (f n).length ≤ m.cells := length_le_of_nodup (h.nodup n) (h.small n)

theorem WF.last_mem (_ : WF m f) {n x : Nat} {A B : List Nat} (hf : f n = A ++ B) (hx : A.getLast? = some x) : x ∈ f n := by
  rw [hf]; exact List.mem_append.2 (.inl (List.mem_of_getLast? hx))
theorem WF.head_mem (_ : WF m f) {n x : Nat} {A B : List Nat} (hf : f n = A ++ B) (hx : B.head? = some x) : x ∈ f n := by
  rw [hf]; exact List.mem_append.2 (.inr (List.mem_of_head? hx))

theorem insert_lk (m : M) (n c : Nat) (p q : Option Nat) (hp : p ≠ some c) (hq : q ≠ some c) (j : Nat) : (m.insert n c p q).lk j =
    if j = c then ⟨n + 1, numOf p, numOf q⟩ else if p = some j then (if q = some j then ⟨(m.lk j).list, c, c⟩ else ⟨(m.lk j).list, (m.lk j).prev, c⟩) else if q = some j then ⟨(m.lk j).list, c, (m.lk j).next⟩ else m.lk j := by
  cases p with
  | none =>
    cases q with
    | none => by_cases h : j = c <;> simp [M.insert, M.put0, M.put1, M.put2, M.setL, M.setE, Link.setList, Link.setPrev, Link.setNext, h]
    | some q =>
      have hqc : q ≠ c := fun e => hq (by rw [e])
      by_cases h : j = c
      · subst h
        simp [M.insert, M.put0, M.put1, M.put2, M.setL, M.setE, Link.setList, Link.setPrev, Link.setNext, Ne.symm hqc]
      · by_cases h2 : j = q
        · subst h2; simp [M.insert, M.put0, M.put1, M.put2, M.setL, M.setE, Link.setPrev, h]
        · simp [M.insert, M.put0, M.put1, M.put2, M.setL, M.setE, h, h2, Ne.symm h2]
  | some p =>
    have hpc : p ≠ c := fun e => hp (by rw [e])
    cases q with
    | none =>
      by_cases h : j = c
      · subst h
        simp [M.insert, M.put0, M.put1, M.put2, M.setL, M.setE, Link.setList, Link.setPrev, Link.setNext, Ne.symm hpc]
      · by_cases h2 : j = p
        · subst h2; simp [M.insert, M.put0, M.put1, M.put2, M.setL, M.setE, Link.setNext, h]
        · simp [M.insert, M.put0, M.put1, M.put2, M.setL, M.setE, h, h2, Ne.symm h2]
    | some q =>
      have hqc : q ≠ c := fun e => hq (by rw [e])
      by_cases h : j = c
      · subst h
        simp [M.insert, M.put0, M.put1, M.put2, M.setL, M.setE, Link.setList, Link.setPrev, Link.setNext, Ne.symm hpc, Ne.symm hqc]
      · by_cases h2 : j = p
        · subst h2
          by_cases h3 : j = q
          · subst h3; simp [M.insert, M.put0, M.put1, M.put2, M.setL, M.setE, Link.setNext, Link.setPrev, h]
          · simp [M.insert, M.put0, M.put1, M.put2, M.setL, M.setE, Link.setNext, h, h3, Ne.symm h3]
        · by_cases h3 : j = q
          · subst h3; simp [M.insert, M.put0, M.put1, M.put2, M.setL, M.setE, Link.setPrev, h, h2, Ne.symm h2]
          · simp [M.insert, M.put0, M.put1, M.put2, M.setL, M.setE, h, h2, Ne.symm h2, h3, Ne.symm h3]

theorem insert_cells (m : M) (n c : Nat) (p q : Option Nat) : (m.insert n c p q).cells = m.cells := by cases p <;> cases q <;> rfl
theorem insert_lists (m : M) (n c : Nat) (p q : Option Nat) : (m.insert n c p q).lists = m.lists := by cases p <;> cases q <;> rfl

theorem insert_en (m : M) (n c : Nat) (p q : Option Nat) (j : Nat) : (m.insert n c p q).en j =
    if j = n then ⟨if p = none then c else (m.en n).first, if q = none then c else (m.en n).last, (m.en n).size + 1⟩ else m.en j := by
  cases p <;> cases q <;> by_cases h : j = n <;> simp [M.insert, M.put0, M.put1, M.put2, M.setL, M.setE, Ends.setFirst, Ends.setLast, Ends.setSize, h]

theorem WF.insert (h : WF m f) {n c : Nat} {A B : List Nat} (hn : n < m.lists) (hc : c < m.cells) (hl : ∀ k, c ∉ f k) (hf : f n = A ++ B) :
    WF (m.insert n c A.getLast? B.head?) (put f n (A ++ c :: B)) := by
  have hpc : A.getLast? ≠ some c := fun e => hl n (h.last_mem hf e)
  have hqc : B.head? ≠ some c := fun e => hl n (h.head_mem hf e)
  have hnd := h.nodup n
  rw [hf, List.nodup_append] at hnd
  obtain ⟨hA, hB, hAB⟩ := hnd
  have hcA : c ∉ A := fun e => hl n (by rw [hf]; exact List.mem_append.2 (.inl e))
  have hcB : c ∉ B := fun e => hl n (by rw [hf]; exact List.mem_append.2 (.inr e))
  refine ⟨fun k x hx => ?_, fun k hk => ?_, fun k => ?_, fun k A' x B' hk => ?_, fun x hx => ?_, fun k => ?_⟩
  · rw [insert_cells]
    by_cases hkn : k = n
    · subst hkn
      rw [put_same] at hx
      rcases List.mem_append.1 hx with hx | hx
      · exact h.small k x (by rw [hf]; exact List.mem_append.2 (.inl hx))
      · rcases List.mem_cons.1 hx with rfl | hx
        · exact hc
        · exact h.small k x (by rw [hf]; exact List.mem_append.2 (.inr hx))
    · rw [put_other hkn] at hx; exact h.small k x hx
  · rw [insert_lists] at hk
    rw [put_other (by omega)]; exact h.out k hk
  · by_cases hkn : k = n
    · subst hkn
      rw [put_same, List.nodup_append]
      refine ⟨hA, List.nodup_cons.2 ⟨hcB, hB⟩, fun x hx y hy => ?_⟩
      rcases List.mem_cons.1 hy with rfl | hy
      · exact fun e => hcA (e ▸ hx)
      · exact hAB x hx y hy
    · rw [put_other hkn]; exact h.nodup k
  · rw [insert_lk m n c _ _ hpc hqc]
    by_cases hkn : k = n
    · subst hkn
      rw [put_same] at hk
      rcases List.append_eq_append_iff.1 hk with ⟨C, hA', hC⟩ | ⟨C, hA', hC⟩
      · cases C with
        | nil =>
          simp only [List.append_nil, List.nil_append, List.cons.injEq] at hA' hC
          obtain ⟨rfl, rfl⟩ := hC
          rw [if_pos rfl, hA']
        | cons y C =>
          simp only [List.cons_append, List.cons.injEq] at hC
          obtain ⟨rfl, rfl⟩ := hC
          subst hA'
          have hxB : x ∈ C ++ x :: B' := by simp
          have hx1 : x ≠ c := fun e => hcB (e ▸ hxB)
          have hx2 : A.getLast? ≠ some x := fun e => hAB x (List.mem_of_getLast? e) x hxB rfl
          have hlk := h.link k (A ++ C) x B' (by rw [hf]; simp)
          rw [if_neg hx1, if_neg hx2, hlk]
          cases C with
          | nil => simp [numOf]
          | cons z C =>
            have hzx : z ≠ x := by
              simp only [List.cons_append, List.nodup_cons] at hB
              exact fun e => hB.1 (by simp [e])
            rw [if_neg (by simpa using hzx)]
            simp [List.getLast?_append, List.getLast?_cons]
      · cases C with
        | nil =>
          simp only [List.append_nil, List.nil_append, List.cons.injEq] at hA' hC
          obtain ⟨rfl, rfl⟩ := hC
          rw [if_pos rfl, hA']
        | cons y C =>
          simp only [List.cons_append, List.cons.injEq] at hC
          obtain ⟨rfl, rfl⟩ := hC
          subst hA'
          have hxA : x ∈ A' ++ x :: C := by simp
          have hx1 : x ≠ c := fun e => hcA (e ▸ hxA)
          have hx2 : B.head? ≠ some x := fun e => hAB x hxA x (List.mem_of_head? e) rfl
          have hlk := h.link k A' x (C ++ B) (by rw [hf]; simp)
          rw [if_neg hx1, if_neg hx2, hlk]
          rcases List.eq_nil_or_concat C with rfl | ⟨C', z, rfl⟩
          · simp [numOf]
          · have hzx : z ≠ x := by
              rw [List.nodup_append] at hA
              have := hA.2.1
              rw [List.nodup_cons] at this
              exact fun e => this.1 (by simp [e])
            have : (A' ++ x :: (C' ++ [z])).getLast? = some z := by simp [List.getLast?_append, List.getLast?_cons]
            rw [List.concat_eq_append, this, if_neg (by simpa using hzx), if_neg (by simpa using hx2)]
            cases C' <;> simp
    · rw [put_other hkn] at hk
      have hx : x ∈ f k := by rw [hk]; simp
      have hx1 : x ≠ c := fun e => hl k (e ▸ hx)
      have hx2 : A.getLast? ≠ some x := fun e => hkn (h.in_one hx (h.last_mem hf e))
      have hx3 : B.head? ≠ some x := fun e => hkn (h.in_one hx (h.head_mem hf e))
      rw [if_neg hx1, if_neg hx2, if_neg hx3]
      exact h.link k A' x B' hk
  · rw [insert_lk m n c _ _ hpc hqc]
    have hxn := hx n
    rw [put_same] at hxn
    have hx1 : x ≠ c := fun e => hxn (by simp [e])
    have hx0 : ∀ k, x ∉ f k := fun k hk => by
      by_cases hkn : k = n
      · subst hkn
        rw [hf] at hk
        refine hxn ?_
        rcases List.mem_append.1 hk with hk | hk
        · exact List.mem_append.2 (.inl hk)
        · exact List.mem_append.2 (.inr (List.mem_cons_of_mem _ hk))
      · exact hx k (by rw [put_other hkn]; exact hk)
    rw [if_neg hx1, if_neg (fun e => hx0 n (h.last_mem hf e)), if_neg (fun e => hx0 n (h.head_mem hf e))]
    exact h.free x hx0
  · rw [insert_en]
    by_cases hkn : k = n
    · subst hkn
      rw [if_pos rfl, put_same, h.ends k, hf]
      cases A <;> cases B <;> simp [numOf, List.getLast?_append, List.getLast?_cons] <;> omega
    · rw [if_neg hkn, put_other hkn]; exact h.ends k

def M.cut1 (m : M) (n : Nat) (q : Option Nat) : Option Nat → M
  | none => m.setE n (Ends.setFirst (numOf q))
  | some p => m.setL p (Link.setNext (numOf q))
def M.cut2 (m : M) (n : Nat) (p : Option Nat) : Option Nat → M
  | none => m.setE n (Ends.setLast (numOf p))
  | some q => m.setL q (Link.setPrev (numOf p))
def M.remove (m : M) (n c : Nat) (p q : Option Nat) : M :=
  ((((((m.setE n (Ends.setSize ((m.en n).size - 1))).cut1 n q p).cut2 n p q).setL c (Link.setList 0)).setL c (Link.setPrev 0)).setL c (Link.setNext 0))

theorem remove_cells (m : M) (n c : Nat) (p q : Option Nat) : (m.remove n c p q).cells = m.cells := by cases p <;> cases q <;> rfl
theorem remove_lists (m : M) (n c : Nat) (p q : Option Nat) : (m.remove n c p q).lists = m.lists := by cases p <;> cases q <;> rfl

theorem remove_lk (m : M) (n c : Nat) (p q : Option Nat) (j : Nat) : (m.remove n c p q).lk j =
    if j = c then Link.zero else if p = some j then (if q = some j then ⟨(m.lk j).list, numOf p, numOf q⟩ else ⟨(m.lk j).list, (m.lk j).prev, numOf q⟩) else if q = some j then ⟨(m.lk j).list, numOf p, (m.lk j).next⟩ else m.lk j := by
  by_cases h : j = c
  · subst h
    cases p <;> cases q <;> simp [M.remove, M.cut1, M.cut2, M.setL, M.setE, Link.setList, Link.setPrev, Link.setNext, Link.zero]
  · cases p with
    | none =>
      cases q with
      | none => simp [M.remove, M.cut1, M.cut2, M.setL, M.setE, h]
      | some q =>
        by_cases h2 : j = q
        · subst h2; simp [M.remove, M.cut1, M.cut2, M.setL, M.setE, Link.setPrev, h]
        · simp [M.remove, M.cut1, M.cut2, M.setL, M.setE, h, h2, Ne.symm h2]
    | some p =>
      cases q with
      | none =>
        by_cases h2 : j = p
        · subst h2; simp [M.remove, M.cut1, M.cut2, M.setL, M.setE, Link.setNext, h]
        · simp [M.remove, M.cut1, M.cut2, M.setL, M.setE, h, h2, Ne.symm h2]
      | some q =>
        by_cases h2 : j = p
        · subst h2
          by_cases h3 : j = q
          · subst h3; simp [M.remove, M.cut1, M.cut2, M.setL, M.setE, Link.setNext, Link.setPrev, h]
          · simp [M.remove, M.cut1, M.cut2, M.setL, M.setE, Link.setNext, h, h3, Ne.symm h3]
        · by_cases h3 : j = q
          · subst h3; simp [M.remove, M.cut1, M.cut2, M.setL, M.setE, Link.setPrev, h, h2, Ne.symm h2]
          · simp [M.remove, M.cut1, M.cut2, M.setL, M.setE, h, h2, Ne.symm h2, h3, Ne.symm h3]

theorem remove_en (m : M) (n c : Nat) (p q : Option Nat) (j : Nat) : (m.remove n c p q).en j =
    if j = n then ⟨if p = none then numOf q else (m.en n).first, if q = none then numOf p else (m.en n).last, (m.en n).size - 1⟩ else m.en j := by
  cases p <;> cases q <;> by_cases h : j = n <;> simp [M.remove, M.cut1, M.cut2, M.setL, M.setE, Ends.setFirst, Ends.setLast, Ends.setSize, h]

theorem WF.remove (h : WF m f) {n c : Nat} {A B : List Nat} (hf : f n = A ++ c :: B) : WF (m.remove n c A.getLast? B.head?) (put f n (A ++ B)) := by
  have hnd := h.nodup n
  rw [hf, List.nodup_append] at hnd
  obtain ⟨hA, hcB', hAB'⟩ := hnd
  obtain ⟨hcB, hB⟩ := List.nodup_cons.1 hcB'
  have hAB : ∀ x, x ∈ A → ∀ y, y ∈ B → x ≠ y := fun x hx y hy => hAB' x hx y (List.mem_cons_of_mem _ hy)
  have hcA : c ∉ A := fun e => hAB' c e c (by simp) rfl
  have hmA : ∀ x, x ∈ A → x ∈ f n := fun x hx => by rw [hf]; exact List.mem_append.2 (.inl hx)
  have hmB : ∀ x, x ∈ B → x ∈ f n := fun x hx => by rw [hf]; exact List.mem_append.2 (.inr (List.mem_cons_of_mem _ hx))
  have hmc : c ∈ f n := by rw [hf]; simp
  refine ⟨fun k x hx => ?_, fun k hk => ?_, fun k => ?_, fun k A' x B' hk => ?_, fun x hx => ?_, fun k => ?_⟩
  · rw [remove_cells]
    by_cases hkn : k = n
    · subst hkn
      rw [put_same] at hx
      rcases List.mem_append.1 hx with hx | hx
      · exact h.small k x (hmA x hx)
      · exact h.small k x (hmB x hx)
    · rw [put_other hkn] at hx; exact h.small k x hx
  · rw [remove_lists] at hk
    have := h.lt_lists hmc
    rw [put_other (by omega)]; exact h.out k hk
  · by_cases hkn : k = n
    · subst hkn
      rw [put_same, List.nodup_append]
      exact ⟨hA, hB, hAB⟩
    · rw [put_other hkn]; exact h.nodup k
  · rw [remove_lk]
    by_cases hkn : k = n
    · subst hkn
      rw [put_same] at hk
      rcases List.append_eq_append_iff.1 hk with ⟨C, hA', hC⟩ | ⟨C, hA', hC⟩
      · -- x stands behind c
        subst hA'
        have hxB : x ∈ B := by rw [hC]; simp
        have hx1 : x ≠ c := fun e => hcB (e ▸ hxB)
        have hx2 : A.getLast? ≠ some x := fun e => hAB x (List.mem_of_getLast? e) x hxB rfl
        have hlk := h.link k (A ++ c :: C) x B' (by rw [hf, hC]; simp)
        rw [if_neg hx1, if_neg hx2, hlk]
        cases C with
        | nil => simp [hC]
        | cons z C =>
          have hzx : z ≠ x := by
            rw [hC] at hB
            simp only [List.cons_append, List.nodup_cons] at hB
            exact fun e => hB.1 (by simp [e])
          rw [if_neg (by rw [hC]; simpa using hzx)]
          simp [List.getLast?_append, List.getLast?_cons]
      · cases C with
        | nil =>
          simp only [List.append_nil, List.nil_append] at hA' hC
          subst hA'
          have hxB : x ∈ B := by rw [← hC]; simp
          have hx1 : x ≠ c := fun e => hcB (e ▸ hxB)
          have hx2 : A.getLast? ≠ some x := fun e => hAB x (List.mem_of_getLast? e) x hxB rfl
          have hlk := h.link k (A ++ [c]) x B' (by rw [hf, ← hC]; simp)
          rw [if_neg hx1, if_neg hx2, hlk]
          simp [← hC]
        | cons y C =>
          simp only [List.cons_append, List.cons.injEq] at hC
          obtain ⟨rfl, rfl⟩ := hC
          subst hA'
          have hxA : x ∈ A' ++ x :: C := by simp
          have hx1 : x ≠ c := fun e => hcA (e ▸ hxA)
          have hx2 : B.head? ≠ some x := fun e => hAB x hxA x (List.mem_of_head? e) rfl
          have hlk := h.link k A' x (C ++ c :: B) (by rw [hf]; simp)
          rw [if_neg hx1, hlk]
          rcases List.eq_nil_or_concat C with rfl | ⟨C', z, rfl⟩
          · simp [List.getLast?_append, hx2]
          · have hzx : z ≠ x := by
              rw [List.nodup_append] at hA
              have := hA.2.1
              rw [List.nodup_cons] at this
              exact fun e => this.1 (by simp [e])
            have : (A' ++ x :: (C' ++ [z])).getLast? = some z := by simp [List.getLast?_append, List.getLast?_cons]
            rw [List.concat_eq_append, this, if_neg (by simpa using hzx), if_neg (by simpa using hx2)]
            cases C' <;> simp
    · rw [put_other hkn] at hk
      have hx : x ∈ f k := by rw [hk]; simp
      have hx1 : x ≠ c := fun e => hkn (h.in_one hx (e ▸ hmc))
      have hx2 : A.getLast? ≠ some x := fun e => hkn (h.in_one hx (hmA x (List.mem_of_getLast? e)))
      have hx3 : B.head? ≠ some x := fun e => hkn (h.in_one hx (hmB x (List.mem_of_head? e)))
      rw [if_neg hx1, if_neg hx2, if_neg hx3]
      exact h.link k A' x B' hk
  · rw [remove_lk]
    by_cases hx1 : x = c
    · rw [if_pos hx1]
    · have hxn := hx n
      rw [put_same] at hxn
      have hxA : x ∉ A := fun e => hxn (List.mem_append.2 (.inl e))
      have hxB : x ∉ B := fun e => hxn (List.mem_append.2 (.inr e))
      have hx0 : ∀ k, x ∉ f k := fun k hk => by
        by_cases hkn : k = n
        · subst hkn
          rw [hf] at hk
          rcases List.mem_append.1 hk with hk | hk
          · exact hxA hk
          · rcases List.mem_cons.1 hk with hk | hk
            · exact hx1 hk
            · exact hxB hk
        · exact hx k (by rw [put_other hkn]; exact hk)
      rw [if_neg hx1, if_neg (fun e => hxA (List.mem_of_getLast? e)), if_neg (fun e => hxB (List.mem_of_head? e))]
      exact h.free x hx0
  · rw [remove_en]
    by_cases hkn : k = n
    · subst hkn
      rw [if_pos rfl, put_same, h.ends k, hf]
      cases A <;> cases B <;> simp [numOf, List.getLast?_append, List.getLast?_cons] <;> omega
    · rw [if_neg hkn, put_other hkn]; exact h.ends k
end

end Go.Proofs.Ytgcemlilfdjjlaa
